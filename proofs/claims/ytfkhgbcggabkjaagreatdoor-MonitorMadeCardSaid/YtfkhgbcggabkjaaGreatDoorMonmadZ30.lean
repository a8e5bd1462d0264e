/- Part 30 of the proof: Ent54m, Map54, MonDm, MonFm1, MonFm2, MonFm3, MonFm4, Aw54A, Open6, Open13, MonFm5, MadeA, MadeB, MadeC. -/
import Derived.Test.YtfkhgbcggabkjaaGreatDoorMonmadZ29
import Derived.Lib.SplitLaws
import Derived.Lib.ItoaLen
import Derived.Lib.ItoaMem
namespace Go.Abs
abbrev abW:=@List.drop_zero
abbrev acI:=@Bool.false_and
abbrev adD:=@List.foldl_append
abbrev adJ:=@List.find?_append
abbrev aeI:=@Int.le_refl
abbrev aeJ:=@List.not_mem_nil
abbrev afG:=@Bool.true_or
abbrev afI:=@List.drop_succ_cons
abbrev afK:=@List.find?_eq_none
abbrev agA:=@List.any_append
abbrev agM:=@List.drop_left
abbrev agU:=@Nat.lt_irrefl
def badB (b:UInt8):Bool:=decide (((b.toNat:Nat):Int)<33)||decide (((b.toNat:Nat):Int)>126)
def gr (s:aaA) (n:Int):Bool:= !s.any badB&&(!(s==[])&&decide (((s.length:Nat):Int)<=n))
theorem gr_ne {s:aaA} {n:Int} (h:gr s n=true):(s==[])=false:=by
 unfold gr at h;cases hs:s==[]
 ·rfl
 ·rw[hs]at h;simp at h
theorem f219_eq (s:aaA) (n:Int) (hs:s.length<=9223372036854775807):f219 s n=some (gr s n):=by
 simp only[f219,jn]
 rw [aBa (fun k n => fD s _ k n) s 0 badB (some false) _ (fun k n hn=>by
  show fD s _ (k+1) n=_
  conv=>lhs;unfold fD
  rw[aP (by omega),aA (by omega),aA (fun _=>by omega)];show(if badB (s.getD n 0)=true then some false else _)=_
  rw [aA (by omega)]) (fun k=>by
  show fD s _ (k+1) _=_
  conv=>lhs;unfold fD
  rw[aL (by omega)]) bB (fuel_lt (by omega))]
 unfold gr;cases s.any badB<;>simp
theorem f178_eq (s:aaA) (n:Int) (hs:s.length<=9223372036854775807):f178 s n=some (gr s n):=by
 simp only[f178,jn]
 rw [aBa (fun k n => fF s _ k n) s 0 badB (some false) _ (fun k n hn=>by
  show fF s _ (k+1) n=_
  conv=>lhs;unfold fF
  rw[aP (by omega),aA (by omega),aA (fun _=>by omega)];show(if badB (s.getD n 0)=true then some false else _)=_
  rw [aA (by omega)]) (fun k=>by
  show fF s _ (k+1) _=_
  conv=>lhs;unfold fF
  rw[aL (by omega)]) bB (fuel_lt (by omega))]
 have e:decide (((s.length:Nat):Int)>=1)= !(s==[]):=by
  cases s<;>simp<;>omega
 unfold gr;rw[e];cases s.any badB<;>simp
def fld (s:aaA) (b:Bool):Bool:=if b then gr s 64 else s==[]
theorem zC (s:aaA) (b:Bool) (hs:s.length<=9223372036854775807):f206 s b=some (fld s b):=by
 unfold f206 fld;cases b
 ·rfl
 ·rw[f219_eq s 64 hs];rfl
def kd (k:Int):aaA×Bool×Bool×Bool:=
 if k=1 then([112,117,116],true,false,true)else if k=2 then([103,101,116],true,false,false)else if k=3 then(cs6,true,false,false)else
 if k=4 then(cs7,true,false,true)else if k=5 then([99,97,115],true,true,true)else if k=6 then(cs8,false,false,false)else([],false,false,false)
def isK (k:Int):Bool:=decide (1<=k)&&decide (k<=6)
def gQ (k:Int) (a b c:aaA):Bool:=isK k&&fld a (kd k).2.1&&fld b (kd k).2.2.1&&fld c (kd k).2.2.2
theorem kinds (k:Int):k=1\/k=2\/k=3\/k=4\/k=5\/k=6\/isK k=false:=by
 unfold isK;by_cases h1:1<=k
 ·by_cases h2:k<=6
  ·omega
  ·simp[h1,h2]
 ·simp[h1]
theorem mB {k:Int} (h:isK k=false):k≠1/\k≠2/\k≠3/\k≠4/\k≠5/\k≠6:=by
 refine⟨?_, ?_, ?_, ?_, ?_, ?_⟩<;>(rintro rfl;cases h)
theorem hasM31 (k:Int):yG bY k=isK k:=by
 rcases kinds k with rfl|rfl|rfl|rfl|rfl|rfl|h
 iterate 6 rfl
 rw[h];obtain⟨h1,h2,h3,h4,h5,h6⟩:=mB h;simp[yG,bY,jW,h1,h2,h3,h4,h5,h6]
theorem getM31 (k:Int):mE bY bS (default:Tq8) ([],false,false,false) k=kd k:=by
 rcases kinds k with rfl|rfl|rfl|rfl|rfl|rfl|h
 iterate 6 rfl
 obtain⟨h1,h2,h3,h4,h5,h6⟩:=mB h;simp[mE,bY,jW,kd,h1,h2,h3,h4,h5,h6]
theorem tF (k:Int) (a b c:aaA) (ha:a.length<=9223372036854775807) (hb:b.length<=9223372036854775807) (hc:c.length<=9223372036854775807):
  f185 k a b c=some ((kd k).1,(kd k).2.1,(kd k).2.2.1,(kd k).2.2.2,gQ k a b c):=by
 unfold f185 f182 gQ;rw[aC,hasM31,getM31,zC a _ ha,zC b _ hb,zC c _ hc];cases isK k<;>cases fld a (kd k).2.1<;>cases fld b (kd k).2.2.1<;>cases fld c (kd k).2.2.2<;>rfl
def txt (k:Int) (a b c:aaA):aaA:=(kd k).1++(if a==[]then[]else 32::a)++(if b==[]then[]else 32::b)++(if c==[]then[]else 32::c)
theorem kd_len (k:Int):(kd k).1.length<=6:=by
 rcases kinds k with rfl|rfl|rfl|rfl|rfl|rfl|h
 iterate 6 decide
 obtain⟨h1,h2,h3,h4,h5,h6⟩:=mB h;simp[kd,h1,h2,h3,h4,h5,h6]
theorem rI {s:aaA} {n:Int} (h:gr s n=true):(s.length:Int)<=n:=by
 unfold gr at h;simp only[aaI,aaY]at h;exact h.2.2
theorem yK {s:aaA} {b:Bool} (h:fld s b=true):s.length<=64:=by
 unfold fld at h;cases b
 ·simp at h;subst h;simp
 ·have:=rI h;omega
theorem aAk {k:Int} {a b c:aaA} (h:gQ k a b c=true):a.length<=64/\b.length<=64/\c.length<=64:=by
 unfold gQ at h;simp only[aaI]at h;exact⟨yK h.1.1.2,yK h.1.2,yK h.2⟩
theorem fuel_succ :∃k,bB=k+5:=⟨bB-5,by unfold bB;omega⟩
theorem aBy {l:List Ty1} {r:aaA} (h:Lib.join l [32]=r) (h1:r.length<=140737488355328) (h2:l.length<=140737488355328):joinP l [32]=some r:=by
 unfold joinP;rw[h,if_pos ⟨h1,h2⟩]
theorem f184_eq (k:Int) (a b c:aaA) (ha:a.length<=9223372036854775807) (hb:b.length<=9223372036854775807) (hc:c.length<=9223372036854775807):
  f184 k a b c=some (if gQ k a b c=true then(txt k a b c,0)else([],1)):=by
 unfold f184;rw[tF k a b c ha hb hc,aC];have hlen:= @aAk k a b c;revert hlen;cases gQ k a b c
 ·intro _;rfl
 intro hlen;have hlen:=hlen rfl;have hk:=kd_len k;simp only[acL,abJ,if_false,if_true];obtain⟨q,hq⟩:=fuel_succ;simp only[jn];rw[hq];generalize hw:(kd k).1=w at hk
 have step:∀K,kQ a b c K (q+5) (0,[w])=K ([w]++(if a==[]then[]else[a])++(if b==[]then[]else[b])++(if c==[]then[]else[c])):=by
  intro K;cases ha:a==[]<;>cases hb:b==[]<;>cases hc:c==[]<;>simp[kQ,ha,hb,hc,chk,jn]
 rw[step];unfold f205
 have hj:Lib.join ([w]++(if a==[]then[]else[a])++(if b==[]then[]else[b])++(if c==[]then[]else[c])) [32]=txt k a b c:=by
  unfold txt;rw[hw];cases ha:a==[]<;>cases hb:b==[]<;>cases hc:c==[]<;>simp[Lib.join,List.intercalate]
 have hl:(txt k a b c).length<=140737488355328:=by
  unfold txt;rw[hw];cases ha:a==[]<;>cases hb:b==[]<;>cases hc:c==[]<;>simp<;>omega
 rw[aBy hj hl (by cases ha:a==[]<;>cases hb:b==[]<;>cases hc:c==[]<;>simp)];rfl
theorem f114_eq (k:Int):f114 k=some (kd k).1:=by
 rcases kinds k with rfl|rfl|rfl|rfl|rfl|rfl|h
 iterate 6 rfl
 have h0:=h;unfold isK at h0
 have h':(decide (k<1)||decide (k>6))=true:=by
  simp only[Bool.and_eq_false_iff,aeE,abS,aaY]at h0⊢;omega
 obtain⟨h1,h2,h3,h4,h5,h6⟩:=mB h;unfold f114;rw[if_pos h'];simp[kd,h1,h2,h3,h4,h5,h6]
theorem kd_ne (k:Int):((kd k).1==[])= !isK k:=by
 rcases kinds k with rfl|rfl|rfl|rfl|rfl|rfl|h
 iterate 6 rfl
 obtain⟨h1,h2,h3,h4,h5,h6⟩:=mB h;simp[kd,h,h1,h2,h3,h4,h5,h6]
theorem tJ (k:Int) (a b c:aaA) (ha:a.length<=9223372036854775807) (hb:b.length<=9223372036854775807) (hc:c.length<=9223372036854775807):
  f115 k a b c=some (if gQ k a b c=true then(txt k a b c,0)else([],1)):=by
 have e38:∀s:aaA,s.length<=9223372036854775807->f148 s=some (gr s 64):=fun s hs=>by unfold f148;rw[f178_eq s 64 hs];rfl
 unfold f115;rw[f114_eq,aC,e38 a ha,e38 b hb,e38 c hc,kd_ne];have na:= @gr_ne a 64;have nb:= @gr_ne b 64;have nc:= @gr_ne c 64;have hk:=kd_len k;unfold gQ fld txt;have la:= @rI a 64;have lb:= @rI b 64;have lc:= @rI c 64;generalize ga:gr a 64=va at *;generalize gb:gr b 64=vb at *;generalize gc:gr c 64=vc at *;generalize ea:(a==[])=wa at *;generalize eb:(b==[])=wb at *;generalize ec:(c==[])=wc at *;rcases kinds k with rfl|rfl|rfl|rfl|rfl|rfl|h
 iterate 6
  cases va<;>cases vb<;>cases vc<;>cases wa<;>cases wb<;>cases wc<;>first|(exfalso;simp at na;done)|(exfalso;simp at nb;done)|(exfalso;simp at nc;done)|(simp[gB,chk,isK,kd,jn,cs8,cs6,cs7];done)|(simp[gB,chk,isK,kd,jn,cs6,cs7];simp at la lb lc;omega)|(simp[gB,chk,isK,kd,jn,aC,cs8,cs6,cs7];simp at la lc;omega)|(simp[gB,chk,isK,kd,jn,aC,cs8,cs6,cs7];simp at la;omega)
 ·rw[h];rfl
def spl :aaA->List Ty1
 |[]=>[[]]
 |c::l=>if c=32 then[]::spl l else match spl l with
  |[]=>[[c]]
  |w::r=>(c::w)::r
theorem uE (l:aaA):∃w r,spl l=w::r:=by
 cases l with
 |nil=>exact⟨_,_,rfl⟩
 |cons c l=>
  unfold spl;split
  ·exact⟨_,_,rfl⟩
  ·split<;>exact⟨_,_,rfl⟩
theorem jL {c:UInt8} {l w:aaA} {r:List Ty1} (hc:c≠32) (h:spl l=w::r):spl (c::l)=(c::w)::r:=by
 conv=>lhs;unfold spl
 rw[if_neg hc,h]
theorem spl_sp (l:aaA):spl (32::l)=[]::spl l:=rfl
theorem uD :∀l:aaA,Lib.split l [32]=spl l
 |[]=>by
  unfold Lib.split
  rw[Lib.count_one];rfl
 |b::l=>by
  have ih:=uD l
  have hp:([32]:aaA).isPrefixOf (b::l)=(b==32):=by simp[List.isPrefixOf,BEq.comm]
  by_cases h:b=32
  ·subst h
   have hix:Lib.index (32::l) [32]=0:=by rw[Lib.index];simp[List.isPrefixOf]
   have hc:Lib.count (32::l) [32]=Lib.count l [32]+1:=by rw[Lib.count_cons_eq];omega
   unfold Lib.split at ih⊢
   rw[hc]
   unfold Lib.splitK
   rw[hix,if_neg (by decide),spl_sp,<-ih]
   rfl
  ·have hix:Lib.index (b::l) [32]=if Lib.index l [32]== -1 then-1 else Lib.index l [32]+1:=by
    rw[Lib.index,hp];simp[h]
   have hc:Lib.count (b::l) [32]=Lib.count l [32]:=Lib.count_cons_ne b 32 l h
   unfold Lib.split at ih⊢
   rw[hc]
   by_cases hm:Lib.index l [32]= -1
   ·rw[Lib.count_miss hm]at ih⊢
    rw[jL h ih.symm]
    rfl
   ·have hge:=Lib.index_ge l [32]
    obtain⟨j,hj⟩:∃j:Nat,Lib.index l [32]=j:=⟨(Lib.index l [32]).toNat,by omega⟩
    obtain⟨m,hm'⟩:∃m,Lib.count l [32]=m+1:=⟨Lib.count (l.drop (j+([32]:aaA).length)) [32],by rw[Lib.count_hit (by simp) hj];omega⟩
    rw[hm']at ih⊢
    unfold Lib.splitK at ih⊢
    have hm1:¬(Lib.index l [32]== -1)=true:=by simpa using hm
    rw[hix,if_neg hm1]
    rw[if_neg hm1]at ih
    rw[jL h ih.symm,if_neg (by simp;omega)]
    have e1:(Lib.index l [32]+1).toNat+0=(Lib.index l [32]).toNat+0+1:=by omega
    have e2:(Lib.index l [32]+1).toNat+[32].length=(Lib.index l [32]).toNat+([32]:aaA).length+1:=by simp;omega
    rw[e1,List.take_succ_cons]
    congr 1
    have e2':(Lib.index l [32]+1).toNat+([32]:aaA).length=((Lib.index l [32]).toNat+([32]:aaA).length)+1:=by simp;omega
    rw[e2',afI]
theorem kG :∀(l:aaA) (w:aaA),w∈spl l->w.length<=l.length
 |[],w,h=>by
  simp[spl]at h;subst h;exact abD _
 |c::l,w,h=>by
  by_cases hc:c=32
  ·subst hc
   rw[spl_sp]at h
   rcases abB.1 h with rfl|h
   ·exact abM _
   ·have:=kG l w h;simp;omega
  ·obtain⟨v,r,hv⟩:=uE l
   rw[jL hc hv]at h
   rcases abB.1 h with rfl|h
   ·have:=kG l v (by rw[hv];exact aaR ..);simp;omega
   ·have:=kG l w (by rw[hv];exact aaQ _ h);simp;omega
def noSp (w:aaA):Prop:=∀c,c∈w->c≠32
theorem aAe :∀(w:aaA),noSp w->spl w=[w]
 |[],_=>rfl
 |c::w,h=>jL (h c (aaR ..)) (aAe w fun d hd=>h d (aaQ _ hd))
theorem spl_app :∀(w l:aaA),noSp w->spl (w++32::l)=w::spl l
 |[],_l,_=>rfl
 |c::w,l,h=>jL (h c (aaR ..)) (spl_app w l fun d hd=>h d (aaQ _ hd))
theorem gr_sp {s:aaA} {n:Int} (h:gr s n=true):noSp s:=by
 rintro c hc rfl;unfold gr at h;have:s.any badB=true:=afS.2 ⟨32,hc,by decide⟩;rw[this]at h;cases h
theorem kd_sp (k:Int):noSp (kd k).1:=by
 have:∀c,c∈(kd k).1->(c==32)=false:=by
  have:(kd k).1.all (fun c=> !(c==32))=true:=by
   rcases kinds k with rfl|rfl|rfl|rfl|rfl|rfl|h
   iterate 6 rfl
   obtain⟨h1,h2,h3,h4,h5,h6⟩:=mB h;simp[kd,h1,h2,h3,h4,h5,h6]
  intro c hc;simpa using aaV.1 this c hc
 intro c hc e;have:=this c hc;simp[e]at this
theorem f113_eq (x:aaA) (hx:x.length<=1000000):f113 x=some (spl x):=by
 have main:∀(K:List Ty1->Option (List Ty1)) (c k n b:Nat) (l:List Ty1) (w:aaA) (r:List Ty1),n+c=x.length->b<=n->c+1<k->l.length<=n->spl (x.drop n)=w::r->
   gX x K k (b,n,l)=K (l++(((x.take n).drop b++w)::r)):=by
  intro K c
  induction c with
  |zero=>
   intro k n b l w r hn hb hk hl hs;obtain⟨k,rfl⟩:∃q,k=q+2:=⟨k-2,by omega⟩;obtain rfl:n=x.length:=by omega
   rw[abA (abD _)]at hs;cases hs
   conv=>lhs;unfold gX
   rw[aP (by omega),bO,aA (fun h=>by simp at h)];have e:(((x.length:Nat):Int)==((x.length:Nat):Int)||(((x.getD x.length 0).toNat:Nat):Int)==32)=true:=by simp
   rw[if_pos e,aA (by omega),aA (by omega),aA (by omega)];simp only[];rw[aA (by omega)]
   conv=>lhs;unfold gX
   rw[aL (by omega)]
   simp
  |succ c ih=>
   intro k n b l w r hn hb hk hl hs;obtain⟨k,rfl⟩:∃q,k=q+1:=⟨k-1,by omega⟩;have hlt:n<x.length:=by omega
   rw[getD_drop x n 0 hlt]at hs
   conv=>lhs;unfold gX
   rw[aP (by omega),bO,aA (fun _=>by omega)];have e0:(((n:Nat):Int)==((x.length:Nat):Int))=false:=by simp;omega
   rw[e0,adC]
   have et:(x.take (n+1))=x.take n++[x.getD n 0]:=by
    rw[agT];simp[aaC,hlt]
   by_cases hc:x.getD n 0=32
   ·rw[hc,spl_sp]at hs;obtain⟨w',r',hw'⟩:=uE (x.drop (n+1));rw[hw']at hs;cases hs;rw[if_pos (by rw[hc];rfl),aA (by omega),aA (by omega),aA (by omega)];simp only[];rw[aA (by omega),ih k (n+1) (n+1) _ w' r' (by omega) (abD _) (by omega) (by simp;omega) hw'];congr 1;rw[abA (show(x.take (n+1)).length<=n+1 by rw[abG];omega)];simp
   ·have hc' : (x.getD n 0).toNat ≠ 32 := fun h => hc (by
     apply UInt8.toNat.inj;rw[h];rfl)
    rw[if_neg (by simp only[abY];omega)];simp only[];obtain⟨w',r',hw'⟩:=uE (x.drop (n+1));rw[jL hc hw']at hs;cases hs;rw[aA (by omega),ih k (n+1) b _ w' r (by omega) (by omega) (by omega) (by omega) hw'];congr 2;rw[et,List.drop_append_of_le_length (by simp;omega)];simp
 obtain⟨w,r,hw⟩:=uE x;unfold f113;simp only[jn];rw[main _ x.length bB 0 0 [] w r (by omega) (abD _) (by unfold bB;omega) (abD _) (by simpa using hw)];rw[hw];simp
abbrev OpR :=Int×aaA×aaA×aaA×Int
theorem nextO_of {R:Type} [DecidableEq R] {n:Nat} {seen:List Nat} {K:Nat->Option R} {E:Option R} {r:R} (h1:∀j,j<n->j∉seen->K j=some r) (h2:(∀j,j<n->j∈seen)->E=some r):aBv n seen K E=some r:=by
 have hm:∀j,j∈(List.range n).filter (fun j=> !seen.contains j)↔j<n/\j∉seen:=by
  intro j;rw[adP,aeB];simp
 unfold aBv;split
 ·rename_i he;refine h2 fun j hj=>Decidable.byContradiction fun hs=> ?_;have:=(hm j).2 ⟨hj,hs⟩;rw[he]at this;cases this
 ·rename_i l hl
  have hall:∀y,y∈((List.range n).filter (fun j=> !seen.contains j)).map K->y=some r:=by
   intro y hy;obtain⟨j,hj,rfl⟩:=adO.1 hy;have:=(hm j).1 hj;exact h1 j this.1 this.2
  revert hall;generalize(List.range n).filter (fun j=> !seen.contains j)=l at hl;intro hall
  cases l with
  |nil=>exact absurd rfl hl
  |cons a l=>
   simp only[abR,agree];rw[hall (K a) (aaR ..),if_pos];rw[aaV];intro y hy;exact abL (hall y (aaQ _ hy))
def tk (b:Bool) (l:List Ty1):aaA×List Ty1:=if(!b||l.length==0)=true then([],l)else(l.getD 0 [],l.drop 1)
theorem zG (b:Bool) (l:List Ty1):f183 b l=some (tk b l):=by
 unfold f183 tk;cases b
 ·rfl
 ·cases l with
  |nil=>rfl
  |cons a l=>
   simp[chk];rw[if_neg (by omega),if_pos (by omega)]
theorem tk_len (b:Bool) (l:List Ty1) (m:Nat) (h:∀w,w∈l->w.length<=m):(tk b l).1.length<=m/\∀w,w∈(tk b l).2->w.length<=m:=by
 unfold tk;split
 ·exact⟨abM _,h⟩
 ·cases l with
  |nil=>exact⟨abM _,fun w hw=>by simp at hw⟩
  |cons a l=>exact⟨h a (aaR ..),fun w hw=>h w (aaQ _ (by simpa using hw))⟩
def xO (x:aaA) (l:List Ty1) (j:Nat):Option OpR:=
 let v:=bS.getD j (default:Tq8)
 if v.1==l.getD 0 []then
  let r7:=tk v.2.1 (l.drop 1);let r8:=tk v.2.2.1 r7.2;let r9:=tk v.2.2.2 r8.2
  if gQ (bY.getD j 0) r7.1 r8.1 r9.1&&(txt (bY.getD j 0) r7.1 r8.1 r9.1==x)then some (bY.getD j 0,r7.1,r8.1,r9.1,0)else none
 else none
theorem f152_step (x:aaA) (K:Unit->Option OpR) (k:Nat) (l:List Ty1) (seen:List Nat) (m:Nat) (hm:m<=1000000) (h0:0<l.length) (hl:∀w,w∈l->w.length<=m):
  fW x K (k+1) (l,seen)=aBv 6 seen (fun j=>match xO x l j with|some r=>some r|none=>fW x K k (l,seen++[j])) (K ()):=by
 have h6:bY.length=6:=rfl
 conv=>lhs;unfold fW
 rw[h6];congr 1;funext j;rw[aA (by omega)];unfold xO;simp only[];cases hw:(bS.getD j (default:Tq8)).1==l.getD 0 []
 ·rfl
 ·simp only[acL,abJ,if_false,if_true];rw[aA (by omega),zG,aC,zG,aC,zG,aC];obtain⟨a1,a2⟩:=tk_len (bS.getD j (default:Tq8)).2.1 (l.drop 1) m (fun w hw=>hl w (acH hw));generalize tk (bS.getD j (default:Tq8)).2.1 (l.drop 1)=r7 at *;obtain⟨b1,b2⟩:=tk_len (bS.getD j (default:Tq8)).2.2.1 r7.2 m a2;generalize tk (bS.getD j (default:Tq8)).2.2.1 r7.2=r8 at *;obtain⟨c1,c2⟩:=tk_len (bS.getD j (default:Tq8)).2.2.2 r8.2 m b2;generalize tk (bS.getD j (default:Tq8)).2.2.2 r8.2=r9 at *;rw[f184_eq _ _ _ _ (by omega) (by omega) (by omega),aC];cases gQ (bY.getD j 0) r7.1 r8.1 r9.1
  ·rfl
  ·simp only[if_true,acD,beq_self_eq_true];cases txt (bY.getD j 0) r7.1 r8.1 r9.1==x<;>rfl
theorem tG (x:aaA) (K:Unit->Option OpR) (l:List Ty1) (m:Nat) (hm:m<=1000000) (h0:0<l.length) (hl:∀w,w∈l->w.length<=m) (r:OpR) (S:Nat->Prop)
  (h1:∀j,j<6->S j->xO x l j=some r) (h2:∀j,j<6->¬S j->xO x l j=none) (h3:(∀j,j<6->¬S j)->K ()=some r):
  ∀k seen,seen.Nodup->(∀j,j∈seen->j<6/\¬S j)->6<k+seen.length->fW x K k (l,seen)=some r
 |0,seen,hn,hs,hk=>by
  have:seen.length<=(List.range 6).length:=hn.length_le_of_subset fun j hj=>aeB.2 (hs j hj).1
  simp at this
  omega
 |k+1,seen,hn,hs,hk=>by
  rw[f152_step x K k l seen m hm h0 hl]
  refine nextO_of (fun j hj hns=> ?_) fun hall=>h3 fun j hj=>(hs j (hall j hj)).2
  by_cases hS:S j
  ·rw[h1 j hj hS]
  ·rw[h2 j hj hS]
   refine tG x K l m hm h0 hl r S h1 h2 h3 k (seen++[j]) ?_ ?_ (by simp;omega)
   ·rw[agS]
    exact⟨hn,by simp,fun a ha b hb=>by rintro rfl;simp at hb;subst hb;exact hns ha⟩
   ·intro i hi
    rcases abN.1 hi with hi|hi
    ·exact hs i hi
    ·simp at hi;subst hi;exact⟨hj,hS⟩
def aAt (a b c:aaA):List Ty1:=(if a==[]then[]else[a])++(if b==[]then[]else[b])++(if c==[]then[]else[c])
theorem fld_sp {s:aaA} {b:Bool} (h:fld s b=true):noSp s:=by
 unfold fld at h;cases b
 ·simp at h;subst h;intro c hc;cases hc
 ·exact gr_sp h
theorem spl_txt {k:Int} {a b c:aaA} (h:gQ k a b c=true):spl (txt k a b c)=(kd k).1::aAt a b c:=by
 unfold gQ at h;simp only[aaI]at h;obtain⟨⟨⟨h0,h1⟩,h2⟩,h3⟩:=h;have s0:=kd_sp k;have s1:=fld_sp h1;have s2:=fld_sp h2;have s3:=fld_sp h3;unfold txt aAt;cases a==[]<;>cases b==[]<;>cases c==[]<;>simp[spl_app,aAe,s0,s1,s2,s3,acA]
theorem f181_eq (x:aaA) (hx:x.length<=1000000):f181 x [32]=some (spl x):=by
 unfold f181 aAd;simp only[];rw[if_pos (by omega),uD]
theorem tY {s:aaA} (h:fld s true=true):(s==[])=false:=gr_ne h
theorem tZ {s:aaA} (h:fld s false=true):s=[]:=by simpa[fld]using h
theorem okOp_kd {k:Int} {a b c:aaA} (h:gQ k a b c=true):isK k=true/\fld a (kd k).2.1=true/\fld b (kd k).2.2.1=true/\fld c (kd k).2.2.2=true:=by
 unfold gQ at h;simp only[aaI]at h;exact⟨h.1.1.1,h.1.1.2,h.1.2,h.2⟩
set_option maxHeartbeats 1000000 in
theorem tryP_hit {k:Int} {a b c:aaA} (h:gQ k a b c=true):∃j0,j0<6/\xO (txt k a b c) (spl (txt k a b c)) j0=some (k,a,b,c,0)/\∀j,j<6->j≠j0->xO (txt k a b c) (spl (txt k a b c)) j=none:=by
 rw[spl_txt h];obtain⟨h0,h1,h2,h3⟩:=okOp_kd h
 have nope:∀(w:aaA) (l:List Ty1) j,((bS.getD j (default:Tq8)).1==w)=false->xO (txt k a b c) (w::l) j=none:=by
  intro w l j hj;unfold xO;simp only[abH];rw[hj];rfl
 rcases kinds k with rfl|rfl|rfl|rfl|rfl|rfl|hn
 ·refine⟨0,by decide, ?_,fun j hj hne=>nope _ _ j ?_⟩
  ·obtain rfl:=tZ h2;have e1:=tY h1;have e3:=tY h3;simp[xO,aAt,e1,e3,tk,bS,bY,kd,h]
  ·match j,hj,hne with|1,_,_=>rfl|2,_,_=>rfl|3,_,_=>rfl|4,_,_=>rfl|5,_,_=>rfl
 ·refine⟨1,by decide, ?_,fun j hj hne=>nope _ _ j ?_⟩
  ·obtain rfl:=tZ h2;obtain rfl:=tZ h3;have e1:=tY h1;simp[xO,aAt,e1,tk,bS,bY,kd,h]
  ·match j,hj,hne with|0,_,_=>rfl|2,_,_=>rfl|3,_,_=>rfl|4,_,_=>rfl|5,_,_=>rfl
 ·refine⟨2,by decide, ?_,fun j hj hne=>nope _ _ j ?_⟩
  ·obtain rfl:=tZ h2;obtain rfl:=tZ h3;have e1:=tY h1;simp[xO,aAt,e1,tk,bS,bY,kd,h]
  ·match j,hj,hne with|0,_,_=>rfl|1,_,_=>rfl|3,_,_=>rfl|4,_,_=>rfl|5,_,_=>rfl
 ·refine⟨3,by decide, ?_,fun j hj hne=>nope _ _ j ?_⟩
  ·obtain rfl:=tZ h2;have e1:=tY h1;have e3:=tY h3;simp[xO,aAt,e1,e3,tk,bS,bY,kd,h]
  ·match j,hj,hne with|0,_,_=>rfl|1,_,_=>rfl|2,_,_=>rfl|4,_,_=>rfl|5,_,_=>rfl
 ·refine⟨4,by decide, ?_,fun j hj hne=>nope _ _ j ?_⟩
  ·have e1:=tY h1;have e2:=tY h2;have e3:=tY h3;simp[xO,aAt,e1,e2,e3,tk,bS,bY,kd,h]
  ·match j,hj,hne with|0,_,_=>rfl|1,_,_=>rfl|2,_,_=>rfl|3,_,_=>rfl|5,_,_=>rfl
 ·refine⟨5,by decide, ?_,fun j hj hne=>nope _ _ j ?_⟩
  ·obtain rfl:=tZ h1;obtain rfl:=tZ h2;obtain rfl:=tZ h3;simp[xO,aAt,tk,bS,bY,kd,h]
  ·match j,hj,hne with|0,_,_=>rfl|1,_,_=>rfl|2,_,_=>rfl|3,_,_=>rfl|4,_,_=>rfl|5,_,hne=>exact absurd rfl hne
 ·rw[hn]at h0;cases h0
theorem sI (x:aaA):0<(spl x).length:=by
 obtain⟨w,r,h⟩:=uE x;rw[h];exact Nat.succ_pos _
def NoOp (x:aaA):Prop:=∀k a b c,gQ k a b c=true->txt k a b c≠x
theorem tryP_none {x:aaA} (h:NoOp x) (l:List Ty1) (j:Nat):xO x l j=none:=by
 unfold xO;simp only[];split
 ·split
  ·rename_i h';simp only[aaI,abY]at h';exact absurd h'.2 (h _ _ _ _ h'.1)
  ·rfl
 ·rfl
theorem f152_hit {k:Int} {a b c:aaA} (h:gQ k a b c=true) (hx:(txt k a b c).length<=1000000):f152 (txt k a b c)=some (k,a,b,c,0):=by
 obtain⟨j0,hj0,h1,h2⟩:=tryP_hit h;unfold f152 f182;rw[f181_eq _ hx,aC];simp only[jn,aC];exact tG _ _ _ _ hx (sI _) (kG _) _ (fun j=>j=j0) (fun j _ e=>e▸h1) (fun j hj e=>h2 j hj e) (fun hall=>absurd rfl (hall j0 hj0)) bB [] List.nodup_nil (fun j hj=>by cases hj) (by unfold bB;simp)
theorem f152_miss {x:aaA} (h:NoOp x) (hx:x.length<=1000000):f152 x=some (0,[],[],[],2):=by
 unfold f152 f182;rw[f181_eq _ hx,aC];simp only[jn,aC];exact tG _ _ _ _ hx (sI _) (kG _) _ (fun _=>False) (fun j _ e=>e.elim) (fun j hj e=>tryP_none h _ _) (fun _=>rfl) bB [] List.nodup_nil (fun j hj=>by cases hj) (by unfold bB;simp)
def xN (x:aaA) (l:List Ty1) (n:Nat):Option OpR:=
 if l.getD 0 []==(kd n).1 then
  let a:=l.getD 1 []
  let b:=if n=5 then l.getD 2 []else[]
  let c:=if n=5 then l.getD 3 []else l.getD 2 []
  if gQ n a b c&&(txt n a b c==x)then some ((n:Int),a,b,c,0)else none
 else none
theorem getD_len (l:List Ty1) (i m:Nat) (hl:∀w,w∈l->w.length<=m):(l.getD i []).length<=m:=by
 by_cases h:i<l.length
 ·rw[aaC,aaT h];exact hl _ (adG ..)
 ·rw[aaC,aeL (by omega)];exact abM _
theorem getD_out (l:List Ty1) (i:Nat) (h:¬i<l.length):l.getD i []=[]:=by
 rw[aaC,aeL (by omega)];rfl
set_option maxHeartbeats 1000000 in
theorem f84_step (x:aaA) (l:List Ty1) (K:Unit->Option OpR) (k n m:Nat) (hm:m<=1000000) (h0:0<l.length) (hl:∀w,w∈l->w.length<=m) (hn:n<=6):
  gG x l K (k+1) n=match xN x l n with|some r=>some r|none=>gG x l K k (n+1):=by
 have hg:=fun i=>getD_len l i m hl;have ho:=getD_out l
 conv=>lhs;unfold gG
 rw[aP (by omega),bO,f114_eq,aC,aA (by omega),aA (by omega),aA (by omega)];unfold xN;cases hw:l.getD 0 []==(kd n).1
 ·rfl
 ·simp only[acL,abJ,if_false,if_true,jn]
  have fin:∀a b c:aaA,a.length<=m->b.length<=m->c.length<=m->((f115 n a b c).bind fun(r9:aaA×Int)=>if((r9.2==(0:Int))&&(r9.1==x))=true then some ((n:Int),a,b,c,(0:Int))else gG x l K k (n+1))=
    match(if gQ n a b c&&(txt n a b c==x)then some ((n:Int),a,b,c,(0:Int))else none)with|some r=>some r|none=>gG x l K k (n+1):=by
   intro a b c ha hb hc;rw[tJ _ _ _ _ (by omega) (by omega) (by omega),aC];cases gQ n a b c
   ·rfl
   ·cases h:txt n a b c==x<;>simp[h]
  by_cases h5:n=5
  ·subst h5;by_cases l1:1<l.length
   ·by_cases l2:2<l.length
    ·by_cases l3:3<l.length
     ·rw[aP (by omega),aA (by omega),aA l1,if_pos (by simp;omega),aA (by omega),aA l2,if_neg (by simp),if_pos (by simp;omega),aA (by omega),aA l3];exact fin _ _ _ (hg _) (hg _) (hg _)
     ·rw[aP (by omega),aA (by omega),aA l1,if_pos (by simp;omega),aA (by omega),aA l2,if_neg (by simp),if_neg (by simp;omega),ho 3 l3];exact fin _ _ _ (hg _) (hg _) (abM _)
    ·rw[aP (by omega),aA (by omega),aA l1,if_neg (by simp;omega),if_neg (by simp),if_neg (by simp;omega),ho 2 l2,ho 3 (by omega)];exact fin _ _ _ (hg _) (abM _) (abM _)
   ·rw[aL (by omega),if_neg (by simp;omega),if_neg (by simp),if_neg (by simp;omega),ho 1 l1,ho 2 (by omega),ho 3 (by omega)];exact fin _ _ _ (abM _) (abM _) (abM _)
  ·have e5:((n:Int)==5)=false:=by simp;omega
   have e5':((n:Int) !=5)=true:=by simp;omega
   rw[if_neg h5,if_neg h5,e5,e5'];simp only[acI,acD,abJ,if_false];by_cases l1:1<l.length
   ·by_cases l2:2<l.length
    ·rw[aP (by omega),aA (by omega),aA l1,aP (by omega),aA (by omega),aA l2];exact fin _ _ _ (hg _) (abM _) (hg _)
    ·rw[aP (by omega),aA (by omega),aA l1,aL (by omega),ho 2 l2];exact fin _ _ _ (hg _) (abM _) (abM _)
   ·rw[aL (by omega),aL (by omega),ho 1 l1,ho 2 (by omega)];exact fin _ _ _ (abM _) (abM _) (abM _)
theorem f84_end (x:aaA) (l:List Ty1) (K:Unit->Option OpR) (k:Nat):gG x l K (k+1) 7=K ():=by
 conv=>lhs;unfold gG
 rw[aL (by omega)]
theorem yO (x:aaA) (l:List Ty1) (K:Unit->Option OpR) (m:Nat) (hm:m<=1000000) (h0:0<l.length) (hl:∀w,w∈l->w.length<=m) (r:OpR) (S:Nat->Prop)
  (h1:∀j,1<=j->j<=6->S j->xN x l j=some r) (h2:∀j,1<=j->j<=6->¬S j->xN x l j=none) (h3:(∀j,1<=j->j<=6->¬S j)->K ()=some r):
  ∀c k n,n+c=7->c<k->1<=n->(∀j,1<=j->j<n->¬S j)->gG x l K k n=some r
 |0,k,n,hn,hk,h1n,hs=>by
  obtain⟨k,rfl⟩:∃q,k=q+1:=⟨k-1,by omega⟩
  obtain rfl:n=7:=by omega
  rw[f84_end]
  exact h3 fun j a b=>hs j a (by omega)
 |c+1,k,n,hn,hk,h1n,hs=>by
  obtain⟨k,rfl⟩:∃q,k=q+1:=⟨k-1,by omega⟩
  rw[f84_step x l K k n m hm h0 hl (by omega)]
  by_cases hS:S n
  ·rw[h1 n h1n (by omega) hS]
  ·rw[h2 n h1n (by omega) hS]
   refine yO x l K m hm h0 hl r S h1 h2 h3 c k (n+1) (by omega) (by omega) (by omega) fun j hj hjn=> ?_
   by_cases e:j=n
   ·rw[e];exact hS
   ·exact hs j hj (by omega)
theorem tryR_none {x:aaA} (h:NoOp x) (l:List Ty1) (j:Nat):xN x l j=none:=by
 unfold xN;simp only[];generalize(if j=5 then l.getD 2 []else[])=b;generalize(if j=5 then l.getD 3 []else l.getD 2 [])=c;split
 ·split
  ·rename_i h';simp only[aaI,abY]at h';exact absurd h'.2 (h _ _ _ _ h'.1)
  ·rfl
 ·rfl
set_option maxHeartbeats 1000000 in
theorem tryR_hit {k:Int} {a b c:aaA} (h:gQ k a b c=true):∃j0,1<=j0/\j0<=6/\xN (txt k a b c) (spl (txt k a b c)) j0=some (k,a,b,c,0)/\∀j,1<=j->j<=6->j≠j0->xN (txt k a b c) (spl (txt k a b c)) j=none:=by
 rw[spl_txt h];obtain⟨h0,h1,h2,h3⟩:=okOp_kd h
 have nope:∀(w:aaA) (l:List Ty1) (j:Nat),(w==(kd j).1)=false->xN (txt k a b c) (w::l) j=none:=by
  intro w l j hj;unfold xN;simp only[abH];rw[hj];rfl
 rcases kinds k with rfl|rfl|rfl|rfl|rfl|rfl|hn
 ·refine⟨1,by decide,by decide, ?_,fun j h1 hj hne=>nope _ _ j ?_⟩
  ·obtain rfl:=tZ h2;have e1:=tY h1;have e3:=tY h3;have h':gQ (1:Nat) a [] c=true:=h;simp[xN,aAt,e1,e3,kd,h]
  ·match j,h1,hj,hne with|2,_,_,_=>rfl|3,_,_,_=>rfl|4,_,_,_=>rfl|5,_,_,_=>rfl|6,_,_,_=>rfl
 ·refine⟨2,by decide,by decide, ?_,fun j h1 hj hne=>nope _ _ j ?_⟩
  ·obtain rfl:=tZ h2;obtain rfl:=tZ h3;have e1:=tY h1;simp[xN,aAt,e1,kd,h]
  ·match j,h1,hj,hne with|1,_,_,_=>rfl|3,_,_,_=>rfl|4,_,_,_=>rfl|5,_,_,_=>rfl|6,_,_,_=>rfl
 ·refine⟨3,by decide,by decide, ?_,fun j h1 hj hne=>nope _ _ j ?_⟩
  ·obtain rfl:=tZ h2;obtain rfl:=tZ h3;have e1:=tY h1;simp[xN,aAt,e1,kd,h]
  ·match j,h1,hj,hne with|1,_,_,_=>rfl|2,_,_,_=>rfl|4,_,_,_=>rfl|5,_,_,_=>rfl|6,_,_,_=>rfl
 ·refine⟨4,by decide,by decide, ?_,fun j h1 hj hne=>nope _ _ j ?_⟩
  ·obtain rfl:=tZ h2;have e1:=tY h1;have e3:=tY h3;simp[xN,aAt,e1,e3,kd,h]
  ·match j,h1,hj,hne with|1,_,_,_=>rfl|2,_,_,_=>rfl|3,_,_,_=>rfl|5,_,_,_=>rfl|6,_,_,_=>rfl
 ·refine⟨5,by decide,by decide, ?_,fun j h1 hj hne=>nope _ _ j ?_⟩
  ·have e1:=tY h1;have e2:=tY h2;have e3:=tY h3;simp[xN,aAt,e1,e2,e3,kd,h]
  ·match j,h1,hj,hne with|1,_,_,_=>rfl|2,_,_,_=>rfl|3,_,_,_=>rfl|4,_,_,_=>rfl|6,_,_,_=>rfl
 ·refine⟨6,by decide,by decide, ?_,fun j h1 hj hne=>nope _ _ j ?_⟩
  ·obtain rfl:=tZ h1;obtain rfl:=tZ h2;obtain rfl:=tZ h3;simp[xN,aAt,kd,h]
  ·match j,h1,hj,hne with|1,_,_,_=>rfl|2,_,_,_=>rfl|3,_,_,_=>rfl|4,_,_,_=>rfl|5,_,_,_=>rfl|6,_,_,hne=>exact absurd rfl hne
 ·rw[hn]at h0;cases h0
theorem f84_hit {k:Int} {a b c:aaA} (h:gQ k a b c=true) (hx:(txt k a b c).length<=1000000):f84 (txt k a b c)=some (k,a,b,c,0):=by
 obtain⟨j0,hj0,hj1,h1,h2⟩:=tryR_hit h;unfold f84;rw[f113_eq _ hx,aC];simp only[jn];exact yO _ _ _ _ hx (sI _) (kG _) _ (fun j=>j=j0) (fun j _ _ e=>e▸h1) (fun j a b e=>h2 j a b e) (fun hall=>absurd rfl (hall j0 hj0 hj1)) 6 bB 1 (by omega) (by unfold bB;omega) (by omega) (fun j a b=>by omega)
theorem f84_miss {x:aaA} (h:NoOp x) (hx:x.length<=1000000):f84 x=some (0,[],[],[],2):=by
 unfold f84;rw[f113_eq _ hx,aC];simp only[jn];exact yO _ _ _ _ hx (sI _) (kG _) _ (fun _=>False) (fun j _ _ e=>e.elim) (fun j _ _ e=>tryR_none h _ _) (fun _=>rfl) 6 bB 1 (by omega) (by unfold bB;omega) (by omega) (fun j a b=>by omega)
theorem txt_len {k:Int} {a b c:aaA}:a.length<=(txt k a b c).length/\b.length<=(txt k a b c).length/\c.length<=(txt k a b c).length:=by
 unfold txt;cases ha:a==[]<;>cases hb:b==[]<;>cases hc:c==[]<;>simp at ha hb hc<;>simp[*]<;>omega
abbrev Pr :=aaA×aaA×Int
abbrev less (a b:aaA):Bool:=Op.bytesLess a b
theorem fA :∀a,less a a=false
 |[]=>rfl
 |a::x=>by
  show(decide (a<a)||(a==a&&less x x))=false
  rw[fA x];simp
theorem aAn (a:aaA):less a []=false:=by cases a<;>rfl
theorem lX :∀{a b c:aaA},less a b=true->less b c=true->less a c=true
 |a,[],_,h,_=>by rw[aAn]at h;cases h
 |_,b::y,[],_,h=>by rw[aAn]at h;cases h
 |[],_::_,_::_,_,_=>rfl
 |a::x,b::y,c::z,h1,h2=>by
  have g1:(decide (a<b)||(a==b&&less x y))=true:=h1
  have g2:(decide (b<c)||(b==c&&less y z))=true:=h2
  clear h1 h2
  show(decide (a<c)||(a==c&&less x z))=true
  simp only[abS,aaI,aaY,abY,UInt8.lt_iff_toNat_lt]at g1 g2⊢
  rcases g1 with k1|⟨e1,k1⟩
  ·rcases g2 with k2|⟨e2,k2⟩
   ·left;omega
   ·left;rw[<-e2];exact k1
  ·rcases g2 with k2|⟨e2,k2⟩
   ·left;rw[e1];exact k2
   ·exact .inr ⟨e1.trans e2,lX k1 k2⟩
theorem rH :∀a b:aaA,less a b=true\/a=b\/less b a=true
 |[],[]=> .inr (.inl rfl)
 |[],_::_=> .inl rfl
 |_::_,[]=> .inr (.inr rfl)
 |a::x,b::y=>by
  show(decide (a<b)||(a==b&&less x y))=true\/_\/(decide (b<a)||(b==a&&less y x))=true
  simp only[abS,aaI,aaY,abY,UInt8.lt_iff_toNat_lt]
  by_cases h:a=b
  ·subst h
   rcases rH x y with h|h|h
   ·exact .inl (.inr ⟨rfl,h⟩)
   ·exact .inr (.inl (by rw[h]))
   ·exact .inr (.inr (.inr ⟨rfl,h⟩))
  ·have:a.toNat≠b.toNat:=fun e=>h (UInt8.toNat.inj e)
   by_cases h1:a.toNat<b.toNat
   ·exact .inl (.inl h1)
   ·exact .inr (.inr (.inl (by omega)))
theorem lY {a b:aaA} (h:less a b=true):less b a=false:=by
 cases h':less b a
 ·rfl
 ·have:=lX h h';rw[fA]at this;cases this
theorem iS {a b:aaA} (h:less a b=true):(a==b)=false:=by
 cases e:a==b
 ·rfl
 ·have:=eq_of_beq e;subst this;rw[fA]at h;cases h
theorem tP :∀a b:aaA,Lib.compareBytes a b=if less a b=true then-1 else if a=b then 0 else 1
 |[],[]=>rfl
 |[],_::_=>rfl
 |_::_,[]=>rfl
 |a::x,b::y=>by
  show(if a<b then(-1:Int)else if b<a then 1 else Lib.compareBytes x y)=if(decide (a<b)||(a==b&&less x y))=true then-1 else _
  by_cases h:a<b
  ·simp[h]
  ·by_cases h2:b<a
   ·have:a≠b:=by rintro rfl;simp at h2
    simp[h,h2,this]
   ·have e:a=b:=by
     apply UInt8.toNat.inj
     simp only[UInt8.lt_iff_toNat_lt]at h h2
     omega
    subst e
    rw[if_neg h,if_neg h2,tP x y]
    simp
abbrev Srtd (l:List Pr):Prop:=l.Pairwise (fun p q=>less p.1 q.1=true)
def okp (p:Pr):Prop:=gr p.1 64=true/\gr p.2.1 256=true/\1<=p.2.2/\p.2.2<=1000000000000
structure StV (l:List Pr):Prop where
 len:l.length<=64
 each:∀p,p∈l->okp p
 srt:Srtd l
theorem StV.nil :StV []:=⟨by simp,by simp,.nil⟩
inductive View (l:List Pr) (k:aaA):Prop
 |hit (A C:List Pr) (v:aaA) (n:Int) (h:l=A++(k,v,n)::C) (hA:∀a,a∈A->less a.1 k=true) (hC:∀c,c∈C->less k c.1=true):View l k
 |miss (A C:List Pr) (h:l=A++C) (hA:∀a,a∈A->less a.1 k=true) (hC:∀c,c∈C->less k c.1=true):View l k
theorem view :∀(l:List Pr) (k:aaA),Srtd l->View l k
 |[],k,_=> .miss [] [] rfl (by simp) (by simp)
 |(x,v,n)::l,k,h=>by
  obtain⟨h1,h2⟩:=adI.1 h
  rcases rH x k with hx|rfl|hx
  ·cases view l k h2 with
   |hit A C v' n' e hA hC=>exact .hit ((x,v,n)::A) C v' n' (by rw[e];rfl) (by intro a ha;rcases abB.1 ha with rfl|ha;exact hx;exact hA a ha) hC
   |miss A C e hA hC=>exact .miss ((x,v,n)::A) C (by rw[e];rfl) (by intro a ha;rcases abB.1 ha with rfl|ha;exact hx;exact hA a ha) hC
  ·exact .hit [] l v n rfl (by simp) h1
  ·exact .miss [] ((x,v,n)::l) rfl (by simp) (by intro c hc;rcases abB.1 hc with rfl|hc;exact hx;exact lX hx (h1 c hc))
theorem lG {α:Type} (A B:List α) (i:Nat) (d:α):(A++B).getD i d=if i<A.length then A.getD i d else B.getD (i-A.length) d:=by
 split
 ·simp[aaC,abV, *]
 ·rename_i h;simp[aaC,abQ (adY h)]
theorem bQ {α:Type} (l:List α) (i:Nat) (d:α) (h:i<l.length):l.getD i d∈l:=by
 rw[aaC,aaT h];exact adG ..
theorem f207_eq (A B:List Pr) (k:aaA) (hlen:(A++B).length<=1000000) (hA:∀a,a∈A->less a.1 k=true) (hB:∀b,b∈B->less b.1 k=false):
  f186 (A++B) k=some ((A.length:Int),decide (0<B.length)&&((B.getD 0 (default:Pr)).1==k)):=by
 have h55:∀(a b:aaA) (n:Int) (y:aaA),f208 a b n y=some (Lib.compareBytes a y):=fun _ _ _ _=>rfl
 have main:∀(K:Int->Option Tq3) (c q i j:Nat),j-i<=c->c<q->i<=A.length->A.length<=j->j<=(A++B).length->gS (A++B) k K q ((i:Int),(j:Int))=K (A.length:Int):=by
  intro K c
  induction c with
  |zero=>
   intro q i j hc hq h1 h2 h3;obtain⟨q,rfl⟩:∃z,q=z+1:=⟨q-1,by omega⟩
   conv=>lhs;unfold gS
   rw[aL (by omega)]
   congr 1;omega
  |succ c ih=>
   intro q i j hc hq h1 h2 h3;obtain⟨q,rfl⟩:∃z,q=z+1:=⟨q-1,by omega⟩
   conv=>lhs;unfold gS
   by_cases hij:i<j
   ·have em:((i:Int)+(j:Int))/2^1=(((i+j)/2:Nat):Int):=by omega
    rw[aP (by omega),aA (by omega),aA (by omega),aA (by decide),em,aA (by omega),h55,aC,aA (by omega),abE,tP];generalize hm:(i+j)/2=m;have hm1:i<=m:=by omega
    have hm2:m<j:=by omega
    by_cases hmA:m<A.length
    ·have hl:less ((A++B).getD m (default:Pr)).1 k=true:=by
      rw[lG,if_pos hmA];exact hA _ (bQ _ _ _ hmA)
     rw[if_pos hl,aP (by decide),aA (by omega)];have:=ih q (m+1) j (by omega) (by omega) (by omega) h2 h3;rw[<-this];rfl
    ·have hl:less ((A++B).getD m (default:Pr)).1 k=false:=by
      rw[lG,if_neg hmA];exact hB _ (bQ _ _ _ (by rw[aaH]at h3;omega))
     rw[hl,aL (by split<;>simp_all<;>split<;>simp)];exact ih q i m (by omega) (by omega) h1 (by omega) (by omega)
   ·rw[aL (by omega)];congr 1;omega
 unfold f186 f207;simp only[jn];have e0:(0:Int)=((0:Nat):Int):=rfl;rw[e0,main _ (A++B).length bB 0 (A++B).length (by omega) (by unfold bB;omega) (abM _) (by simp) (abD _)];rw[h55,abE,lG,if_neg (agU _),agF];by_cases hb:0<B.length
 ·have h1:decide ((A.length:Int)<(((A++B).length:Nat):Int))=true:=by rw[aaH];simp;omega
  rw[h1];simp only[beq_self_eq_true,acD,hJ,aC];rw[aA (fun _=>by rw[aaH];omega),aC,tP,hB _ (bQ _ _ _ hb)];have hd:decide (0<B.length)=true:=by simp[hb]
  rw[hd];simp only[abJ,if_false,acD];by_cases e:(B.getD 0 (default:Pr)).1=k
  ·have e':((B.getD 0 (default:Pr)).1==k)=true:=by simpa using e
   rw[if_pos e,e'];rfl
  ·have e':((B.getD 0 (default:Pr)).1==k)=false:=by simpa using e
   rw[if_neg e,e'];rfl
 ·have h1:decide ((A.length:Int)<(((A++B).length:Nat):Int))=false:=by rw[aaH];simp;omega
  rw[h1];have hd:decide (0<B.length)=false:=by simp[hb]
  rw[hd];simp[gB,chk]
abbrev MV :Int:=1000000000000
theorem getD_at (A C:List Pr) (x d:Pr):(A++x::C).getD A.length d=x:=by
 rw[lG,if_neg (agU _),agF];rfl
theorem set_at :∀(A C:List Pr) (x y:Pr),(A++x::C).set A.length y=A++y::C
 |[],_,_,_=>rfl
 |a::A,C,x,y=>by
  show a::(A++x::C).set A.length y=_
  rw[set_at A C x y];rfl
theorem cQ (A C:List Pr) (x:Pr):(A++x::C).length=A.length+C.length+1:=by simp;omega
theorem drop_at (A C:List Pr) (x:Pr):(A++x::C).drop (A.length+1)=C:=by
 rw[List.drop_append];simp
theorem take_at (A C:List Pr):(A++C).take A.length=A:=by simp
theorem dropA_at (A C:List Pr):(A++C).drop A.length=C:=by simp
theorem f117_eq :∀(q n:Nat),n<10^(q+1)->n<=1000000000000000->∀k,q+1<=k->f117 k (n:Int)=some (Lib.itoa (n:Int))
 |q,n,hn,hb,k,hk=>by
  obtain⟨k,rfl⟩:∃z,k=z+1:=⟨k-1,by omega⟩
  conv=>lhs;unfold f117
  rw[Lib.itoa_nonneg]
  by_cases h:n<10
  ·rw[aP (by omega),aA (by omega),aA (by omega),Lib.decDigits_one h]
   congr 3
  ·rw[aL (by omega)]
   match q,hn,hk with
   |0,hn,_=>omega
   |q+1,hn,hk=>
    have e1:(n:Int)/10=((n/10:Nat):Int):=by omega
    have e2:(n:Int)%10=((n%10:Nat):Int):=by omega
    rw[e1,e2,f117_eq q (n/10) (by rw[agG]at hn;omega) (by omega) k (by omega),aC,aA (by omega),aA (by omega),aA (by omega),aA (by omega)]
    have hl:=Lib.itoa_length_le ((n/10:Nat):Int) (by omega) (by omega)
    rw[aA (by rw[acJ];omega),Lib.itoa_nonneg]
    conv=>rhs;rw[Lib.decDigits,dif_neg h]
    congr 3
theorem dig {n:Int} (h0:0<=n) (h1:n<=1000000000000000):f117 bB n=some (Lib.itoa n):=by
 obtain⟨m,rfl⟩:∃m:Nat,n=m:=⟨n.toNat,by omega⟩;exact f117_eq 15 m (by omega) (by omega) bB (by unfold bB;omega)
theorem ito {n:Int} (h0:0<=n) (h1:n<=1000000000000000):f58 n=some (Lib.itoa n):=by
 unfold f58 itoaO;rw[if_pos ⟨by omega,by omega⟩]
theorem ilen {n:Int} (h0:0<=n) (h1:n<=1000000000000000):(Lib.itoa n).length<=21:=Lib.itoa_length_le n (by omega) (by omega)
theorem tI (A C:List Pr) (k v:aaA) (n:Int) (hlen:(A++(k,v,n)::C).length<=1000000) (hA:∀a,a∈A->(a.1==k)=false) (hC:∀c,c∈C->(c.1==k)=false):f116 (A++(k,v,n)::C) k=some (A.length:Int):=by
 unfold f116;simp only[jn]
 rcases sW (fun q i => dS (A ++ (k, v, n) :: C) k (fun _ => some (-1)) q i) (A ++ (k, v, n) :: C) (default : Pr) (fun p => p.1 == k) (fun i => some (i : Int)) (some (-1)) (fun q i hi=>by
   show dS _ _ _ (q+1) i=_
   conv=>lhs;unfold dS
   rw [aP (by omega), aA (by omega), aA (by omega)]) (fun q=>by
   show dS _ _ _ (q+1) _=_
   conv=>lhs;unfold dS
   rw[aL (by omega)]) (A++(k,v,n)::C).length bB 0 (by omega) (fuel_lt (by omega))with⟨m,h1,h2,h3,h4,h5⟩|⟨h4,h5⟩
 ·rw[h4];rw[lG]at h3;by_cases e:m<A.length
  ·rw[if_pos e,hA _ (bQ _ _ _ e)]at h3;cases h3
  ·rw[if_neg e]at h3;by_cases e2:m=A.length
   ·rw[e2]
   ·obtain⟨z,hz⟩:∃z,m-A.length=z+1:=⟨m-A.length-1,by omega⟩;rw[hz,abP,hC _ (bQ _ _ _ (by rw[cQ]at h2;omega))]at h3;cases h3
 ·exfalso;rw[abW]at h5;have:=agR.1 h5 (k,v,n) (by simp);simp at this
theorem f116_miss (l:List Pr) (k:aaA) (hlen:l.length<=1000000) (h:∀a,a∈l->(a.1==k)=false):f116 l k=some (-1):=by
 unfold f116;simp only[jn]
 rw [aBa (fun q i => dS l k (fun _ => some (-1)) q i) l (default : Pr) (fun _ => false) none (some (-1)) (fun q i hi=>by
   show dS _ _ _ (q+1) i=_
   conv=>lhs;unfold dS
   rw[aP (by omega),aA (by omega),h _ (bQ _ _ _ hi),aA (by omega)]
   rfl) (fun q=>by
   show dS _ _ _ (q+1) _=_
   conv=>lhs;unfold dS
   rw[aL (by omega)]) bB (fuel_lt (by omega))]
 simp
def vH (k s:aaA) (z:Bool×List Pr) (a:Pr):Bool×List Pr:=
 if a.1==k then(true,z.2++[(k,s,min (a.2.2+1) MV)])else
 if(!(less a.1 k||a.1==k))&& !z.1 then(true,(z.2++[(k,s,1)])++[(a.1,a.2.1,a.2.2)])else(z.1,z.2++[(a.1,a.2.1,a.2.2)])
theorem xC (l:List Pr) (k s:aaA) (hlen:l.length<=1000000) (hv:∀a,a∈l->1<=a.2.2/\a.2.2<=MV):
  f118 l k s=some (let z:=l.foldl (vH k s) (false,[]);if z.1 then z.2 else z.2++[(k,s,1)]):=by
 unfold f118;simp only[jn]
 have hI:∀n (z:Bool×List Pr),n<l.length->z.2.length<=2 *n->(vH k s z (l.getD n (default:Pr))).2.length<=2 *(n+1):=by
  intro n z hn hz;unfold vH;split
  ·simp;omega
  ·split
   ·simp;omega
   ·simp;omega
 have:=sU (fun q (y:Nat×(Bool×List Pr))=>fY l k s (fun y=>if(!y.1)=true then chk ((y.2.length+1) *40<=140737488355328) (some (y.2++[(k,s,1)]))else some y.2) q (y.2.1,y.1,y.2.2)) l (default:Pr) (fun n z=>z.2.length<=2 *n) (vH k s)
  (fun y=>if(!y.1)=true then chk ((y.2.length+1) *40<=140737488355328) (some (y.2++[(k,s,1)]))else some y.2)
  (fun q n z hn hz=>by
   obtain⟨b,w⟩:=z;simp only at hz;show fY l k s _ (q+1) (b,n,w)=_
   conv=>lhs;unfold fY
   have hh:=hv _ (bQ l n (default:Pr) hn);simp only[MV]at hh;rw[aP (by omega)];simp only[jn];rw[aA (by omega)];unfold vH;simp only[];by_cases e:((l.getD n (default:Pr)).1==k)=true
   ·rw[if_pos e,if_pos e,aA (by omega),aA (by omega),aA (by omega),aA (by omega)]
   ·rw[if_neg e,if_neg e,aA (by omega)];by_cases e2:((!(less (l.getD n (default:Pr)).1 k||(l.getD n (default:Pr)).1==k))&& !b)=true
    ·rw[if_pos e2,if_pos e2,aA (by omega),aA (by omega),aA (by simp;omega),aA (by omega)]
    ·rw[if_neg e2,if_neg e2,aA (by omega),aA (by omega),aA (by omega)])
  hI (fun q z hz=>by
   obtain⟨b,w⟩:=z;show fY l k s _ (q+1) (b,l.length,w)=_
   conv=>lhs;unfold fY
   rw[aL (by omega)]) l.length bB 0 (false,[]) (by omega) (fuel_lt (by omega)) (abM _)
 refine Eq.trans this ?_;rw[abW];have hl:=foldl_inv (fun n (z:Bool×List Pr)=>z.2.length<=2 *n) (vH k s) (default:Pr) l hI (false,[]) (abM _);generalize l.foldl (vH k s) (false,[])=z at hl;obtain⟨b,w⟩:=z;simp only at hl;cases b
 ·simp only[adN,if_true,abJ,if_false];rw[aA (by omega)]
 ·rfl
theorem yI (k s:aaA) (b:Bool):∀(A w:List Pr),(∀a,a∈A->less a.1 k=true)->A.foldl (vH k s) (b,w)=(b,w++A)
 |[],w,_=>by simp
 |a::A,w,h=>by
  have ha:=h a (aaR ..)
  have e:vH k s (b,w) a=(b,w++[a]):=by
   unfold vH
   rw[iS ha,ha]
   simp
  rw[acR,e,yI k s b A _ fun x hx=>h x (aaQ _ hx)]
  simp
theorem vG {a b:aaA} (h:less b a=true):(a==b)=false:=by
 have:=iS h;cases e:a==b
 ·rfl
 ·have:=eq_of_beq e;subst this;rw[fA]at h;cases h
theorem yJ (k s:aaA):∀(C w:List Pr),(∀a,a∈C->less k a.1=true)->C.foldl (vH k s) (true,w)=(true,w++C)
 |[],w,_=>by simp
 |a::C,w,h=>by
  have ha:=h a (aaR ..)
  have e:vH k s (true,w) a=(true,w++[a]):=by
   unfold vH
   rw[vG ha]
   simp
  rw[acR,e,yJ k s C _ fun x hx=>h x (aaQ _ hx)]
  simp
theorem put_hit (A C:List Pr) (k v s:aaA) (n:Int) (hlen:(A++(k,v,n)::C).length<=1000000) (hv:∀a,a∈(A++(k,v,n)::C)->1<=a.2.2/\a.2.2<=MV) (hA:∀a,a∈A->less a.1 k=true) (hC:∀c,c∈C->less k c.1=true):
  f118 (A++(k,v,n)::C) k s=some (A++(k,s,min (n+1) MV)::C):=by
 rw[xC _ k s hlen hv,adD,yI k s false A [] hA,acR]
 have e:vH k s (false,[]++A) (k,v,n)=(true,A++[(k,s,min (n+1) MV)]):=by
  unfold vH;simp
 rw[e,yJ k s C _ hC];simp
theorem put_miss (A C:List Pr) (k s:aaA) (hlen:(A++C).length<=1000000) (hv:∀a,a∈(A++C)->1<=a.2.2/\a.2.2<=MV) (hA:∀a,a∈A->less a.1 k=true) (hC:∀c,c∈C->less k c.1=true):
  f118 (A++C) k s=some (A++(k,s,1)::C):=by
 rw[xC _ k s hlen hv,adD,yI k s false A [] hA]
 cases C with
 |nil=>simp
 |cons c C=>
  have hc:=hC c (aaR ..)
  have e:vH k s (false,[]++A) c=(true,A++[(k,s,1),c]):=by
   unfold vH;rw[vG hc,lY hc];simp
  rw[acR,e,yJ k s C _ fun x hx=>hC x (aaQ _ hx)];simp
theorem zD (l:List Pr) (h:l.length<=1000000):f189 l=some l:=by
 unfold f189;rw[abc_eq,aA (by omega)]
 ·rfl
 ·intro hl;rw[aA (by omega)];have:l=[]:=aeF.1 hl;rw[this];rfl
abbrev okW :aaA:=[111,107,32]
abbrev yH :aaA:=[102,117,108,108]
theorem aAw (A C:List Pr) (k v:aaA) (n:Int) (hlen:(A++(k,v,n)::C).length<=1000000) (hA:∀a,a∈A->less a.1 k=true) (hC:∀c,c∈C->less k c.1=true):f186 (A++(k,v,n)::C) k=some ((A.length:Int),true):=by
 rw[f207_eq A _ k hlen hA]
 ·simp
 ·intro b hb;rcases abB.1 hb with rfl|hb
  ·exact fA _
  ·exact lY (hC b hb)
theorem vK (A C:List Pr) (k:aaA) (hlen:(A++C).length<=1000000) (hA:∀a,a∈A->less a.1 k=true) (hC:∀c,c∈C->less k c.1=true):f186 (A++C) k=some ((A.length:Int),false):=by
 rw[f207_eq A _ k hlen hA fun b hb=>lY (hC b hb)]
 cases C with
 |nil=>simp
 |cons c C=>simp[vG (hC c (aaR ..))]
theorem putP_hit (A C:List Pr) (k v s:aaA) (n:Int) (hlen:(A++(k,v,n)::C).length<=64) (h1:1<=n) (h2:n<=MV) (hA:∀a,a∈A->less a.1 k=true) (hC:∀c,c∈C->less k c.1=true):
  aB2 (A++(k,v,n)::C) k s=some (A++(k,s,min (n+1) MV)::C,okW++Lib.itoa (min (n+1) MV)):=by
 simp only[MV]at *;have hmin:0<=min (n+1) 1000000000000/\min (n+1) 1000000000000<=1000000000000000:=by omega
 have hl:=ilen hmin.1 hmin.2;unfold aB2;rw[aAw A C k v n (by omega) hA hC,aC];simp only[acL,acI,abJ,if_false];rw[zD _ (by omega),aC];simp only[jn,abE,set_at,getD_at];rw[cQ]at hlen
 rw [aA (by rw[cQ];omega),aA (by rw[cQ];omega),aA (by rw[cQ];omega),aA (by rw[cQ];omega),aA (by omega),aA (by rw[cQ];omega),aA (by rw[cQ];omega),
  ito hmin.1 hmin.2,aC,aA (by rw[cQ];omega),aA (by rw[cQ];omega),aA (by simp;omega)]
theorem putP_miss (A C:List Pr) (k s:aaA) (hlen:(A++C).length<=64) (hA:∀a,a∈A->less a.1 k=true) (hC:∀c,c∈C->less k c.1=true):
  aB2 (A++C) k s=if 64<=(A++C).length then some (A++C,yH)else some (A++(k,s,1)::C,okW++Lib.itoa 1):=by
 have hl:=ilen (n:=1) (by omega) (by omega);unfold aB2;rw[vK A C k (by omega) hA hC,aC];by_cases hf:64<=(A++C).length
 ·rw[if_pos hf,if_pos (by simp only[adN,acD,aaY];omega)]
 rw[if_neg hf,if_neg (by simp only[adN,acD,aaY];omega),zD _ (by omega),aC];simp only[jn]
 have e58:f210 (A.length:Int) (A++C) [(k,[],(0:Int))]=some (A++(k,[],0)::C,[(k,[],0)]):=by
  unfold f210;by_cases hc:A.length<(A++C).length
  ·rw[if_pos ⟨by omega,by rw[abE];exact hc,by simp,by simp;simp at hlen;omega⟩,abE,take_at,dropA_at];simp
  ·have:C=[]:=by
    cases C with
    |nil=>rfl
    |cons c C=>simp at hc
   subst this;rw[if_neg (by rw[abE];omega)];unfold f210e;rw[adU,aA (by omega),if_neg (by simp),if_pos (by simp),aA (by simp;simp at hlen;omega)]
 simp only[adN,if_true,e58,aC,abE,set_at,getD_at];rw[aaH]at hlen hf;have e1:min ((0:Int)+1) 1000000000000=1:=by decide
 rw[e1]
 rw [aA (by rw[cQ];omega),aA (by rw[cQ];omega),aA (by rw[cQ];omega),aA (by rw[cQ];omega),aA (by omega),aA (by rw[cQ];omega),aA (by rw[cQ];omega),
  ito (by omega) (by omega),aC,aA (by rw[cQ];omega),aA (by rw[cQ];omega),aA (by simp;omega)]
def aBe (x1:List Pr) (x3:aaA) (r7:Int) (s10:aaA):Option (aaA×List Pr):=
 if((decide (r7<(0:Int)))&&(decide ((((x1).length:Nat):Int)>=(64:Int))))then(
 some (([102,117,108,108]:aaA),([]++x1))
 )else(
 (f118 x1 x3 s10).bind fun(r12:List Tq2)=>
 (f116 r12 x3).bind fun(r13:Int)=>
 (f117 bB ((r12.getD ((r13).toNat) (default:Tq2)).2.2)).bind fun(r14:aaA)=>
 chk (0<=r13/\r13<(((r12).length:Nat):Int))<|
 chk (((r13).toNat)<(r12).length)<|
 chk (([111,107,32]:aaA).length+r14.length<=9223372036854775807)<|
 some ((([111,107,32]:aaA)++r14),r12)
 )
theorem tail_hit (A C:List Pr) (k v s:aaA) (n:Int) (hlen:(A++(k,v,n)::C).length<=64) (hv:∀a,a∈(A++(k,v,n)::C)->1<=a.2.2/\a.2.2<=MV) (hA:∀a,a∈A->less a.1 k=true) (hC:∀c,c∈C->less k c.1=true):
  aBe (A++(k,v,n)::C) k (A.length:Int) s=some (okW++Lib.itoa (min (n+1) MV),A++(k,s,min (n+1) MV)::C):=by
 have hn:=hv (k,v,n) (by simp);simp only[MV]at hn;have hmin:0<=min (n+1) 1000000000000/\min (n+1) 1000000000000<=1000000000000000:=by omega
 have hl:=ilen hmin.1 hmin.2;unfold aBe;rw[if_neg (by simp;omega),put_hit A C k v s n (by omega) hv hA hC,aC];simp only[MV];rw[cQ]at hlen;rw[tI A C k s _ (by rw[cQ];omega) (fun a ha=>iS (hA a ha)) (fun c hc=>vG (hC c hc)),aC,abE,getD_at,dig hmin.1 hmin.2,aC,aA (by rw[cQ];omega),aA (by rw[cQ];omega),aA (by simp;omega)]
theorem tail_miss (A C:List Pr) (k s:aaA) (hlen:(A++C).length<=64) (hv:∀a,a∈(A++C)->1<=a.2.2/\a.2.2<=MV) (hA:∀a,a∈A->less a.1 k=true) (hC:∀c,c∈C->less k c.1=true):
  aBe (A++C) k (-1) s=if 64<=(A++C).length then some (yH,A++C)else some (okW++Lib.itoa 1,A++(k,s,1)::C):=by
 have hl:=ilen (n:=1) (by omega) (by omega);unfold aBe;by_cases hf:64<=(A++C).length
 ·rw[if_pos hf,if_pos (by simp only[aaI,aaY];omega)];rfl
 rw[if_neg hf,if_neg (by simp only[aaI,aaY];omega),put_miss A C k s (by omega) hv hA hC,aC];rw[aaH]at hlen hf;rw[tI A C k s _ (by rw[cQ];omega) (fun a ha=>iS (hA a ha)) (fun c hc=>vG (hC c hc)),aC,abE,getD_at,dig (n:=1) (by omega) (by omega),aC,aA (by rw[cQ];omega),aA (by rw[cQ];omega),aA (by simp;omega)]
theorem gr_app {v c:aaA} (hv:gr v 256=true) (hc:gr c 64=true) (h:(v++c).length<=256):gr (v++c) 256=true:=by
 unfold gr at *;simp only[aaI,adH,aaY]at *;refine⟨by rw[agA,hv.1,hc.1];rfl, ?_,by omega⟩
 cases v with
 |nil=>have:=hv.2.1;simp at this
 |cons x v=>rfl
theorem gr_up {c:aaA} (hc:gr c 64=true):gr c 256=true:=by
 unfold gr at *;simp only[aaI,aaY]at *;exact⟨hc.1,hc.2.1,by omega⟩
theorem stv_set {A C:List Pr} {k v s:aaA} {n m:Int} (h:StV (A++(k,v,n)::C)) (hs:gr s 256=true) (h1:1<=m) (h2:m<=MV):StV (A++(k,s,m)::C):=by
 refine⟨by have:=h.len;rw[cQ]at this⊢;exact this,fun p hp=> ?_, ?_⟩
 ·rcases abN.1 hp with hp|hp
  ·exact h.each p (acG _ hp)
  ·rcases abB.1 hp with rfl|hp
   ·have:=h.each (k,v,n) (by simp);exact⟨this.1,hs,h1,h2⟩
   ·exact h.each p (by simp[hp])
 ·have:=h.srt;simp only[Srtd,aeC,adI]at this⊢;refine⟨this.1,this.2.1,fun a ha b hb=> ?_⟩;rcases abB.1 hb with rfl|hb
  ·exact this.2.2 a ha (k,v,n) (aaR ..)
  ·exact this.2.2 a ha b (aaQ _ hb)
theorem stv_ins {A C:List Pr} {k s:aaA} (h:StV (A++C)) (hl:(A++C).length<64) (hk:gr k 64=true) (hs:gr s 256=true) (hA:∀a,a∈A->less a.1 k=true) (hC:∀c,c∈C->less k c.1=true):StV (A++(k,s,1)::C):=by
 refine⟨by rw[aaH]at hl;rw[cQ];omega,fun p hp=> ?_, ?_⟩
 ·rcases abN.1 hp with hp|hp
  ·exact h.each p (acG _ hp)
  ·rcases abB.1 hp with rfl|hp
   ·exact⟨hk,hs,by simp,by simp⟩
   ·exact h.each p (adV _ hp)
 ·have:=h.srt;simp only[Srtd,aeC,adI]at this⊢;refine⟨this.1,⟨hC,this.2.1⟩,fun a ha b hb=> ?_⟩;rcases abB.1 hb with rfl|hb
  ·exact hA a ha
  ·exact this.2.2 a ha b hb
theorem stv_del {A C:List Pr} {x:Pr} (h:StV (A++x::C)):StV (A++C):=by
 refine⟨by have:=h.len;rw[cQ]at this;rw[aaH];omega,fun p hp=>h.each p (by rcases abN.1 hp with hp|hp<;>simp[hp]), ?_⟩;have:=h.srt;simp only[Srtd,aeC,adI]at this⊢;exact⟨this.1,this.2.1.2,fun a ha b hb=>this.2.2 a ha b (aaQ _ hb)⟩
def ent (l:List Pr) (k:aaA):Option (aaA×Int):=(l.find? fun p=>p.1==k).map (·.2)
theorem qB {A C:List Pr} {k v:aaA} {n:Int} (hA:∀a,a∈A->less a.1 k=true):ent (A++(k,v,n)::C) k=some (v,n):=by
 unfold ent;rw[adJ,afK.2 fun a ha=>by simp[iS (hA a ha)]];simp
theorem aA6 {A C:List Pr} {k:aaA} (hA:∀a,a∈A->less a.1 k=true) (hC:∀c,c∈C->less k c.1=true):ent (A++C) k=none:=by
 unfold ent;rw[afK.2 fun a ha=>by rcases abN.1 ha with ha|ha;simp[iS (hA a ha)];simp[vG (hC a ha)]];rfl
theorem lR {A C:List Pr} {k k' v:aaA} {n:Int} (h:k'≠k):ent (A++(k,v,n)::C) k'=ent (A++C) k':=by
 unfold ent;rw[adJ,adJ,adT];have:(k==k')=false:=beq_false_of_ne fun e=>h e.symm;simp only[this]
def R (e:Option (aaA×Int)) (cnt:Nat) (k:Int) (a b c:aaA):aaA×Option (aaA×Int):=
 if gQ k a b c=false then(cs3,e)else
 if k=6 then(cs9++Lib.itoa (cnt:Int),e)else
 match e with
 |none=>if k=1\/k=4 then(if 64<=cnt then(yH,none)else(okW++Lib.itoa 1,some (c,1)))else([110,111,110,101],none)
 |some (v,n)=>
  if k=1 then(okW++Lib.itoa (min (n+1) MV),some (c,min (n+1) MV))else
  if k=2 then(qI++v++[32]++Lib.itoa n,some (v,n))else
  if k=3 then([111,107],none)else
  if k=4 then(if(v++c).length>256 then([108,111,110,103],some (v,n))else(okW++Lib.itoa (min (n+1) MV),some (v++c,min (n+1) MV)))else
  if v=b then(okW++Lib.itoa (min (n+1) MV),some (c,min (n+1) MV))else([110,111,32]++v,some (v,n))
structure Ex (l:List Pr) (k:Int) (a b c:aaA) (l':List Pr):Prop where
 prog:aBP l k a b c=some (l',(R (ent l a) l.length k a b c).1)
 spec:f85 l k a b c=some ((R (ent l a) l.length k a b c).1,l')
 ok:StV l'
 here:ent l' a=(R (ent l a) l.length k a b c).2
 there:∀k',k'≠a->ent l' k'=ent l k'
 keys:∀p,p∈l'->p.1=a\/∃q,q∈l/\q.1=p.1
 read:(k=2\/k=6)->l'=l
theorem R_bad {e:Option (aaA×Int)} {cnt:Nat} {k:Int} {a b c:aaA} (h:gQ k a b c=false):R e cnt k a b c=(cs3,e):=by
 unfold R;rw[if_pos h]
theorem nmin {n:Int} (h1:1<=n) (h2:n<=MV):1<=min (n+1) MV/\min (n+1) MV<=MV:=by
 simp only[MV]at *;omega
theorem spec_head (l:List Pr) (k:Int) (a b c:aaA) (hl:l.length<=64) (ha:a.length<=9223372036854775807) (hb:b.length<=9223372036854775807) (hc:c.length<=9223372036854775807) (h:gQ k a b c=false):f85 l k a b c=some (cs3,l):=by
 unfold f85;rw[aA (by omega),tJ k a b c ha hb hc,aC,h];rfl
theorem prog_head (l:List Pr) (k:Int) (a b c:aaA) (ha:a.length<=9223372036854775807) (hb:b.length<=9223372036854775807) (hc:c.length<=9223372036854775807) (h:gQ k a b c=false):aBP l k a b c=some (l,cs3):=by
 unfold aBP;rw[tF k a b c ha hb hc,aC,h];rfl
theorem spec_hit (A C:List Pr) (k:Int) (a b c v:aaA) (n:Int) (hV:StV (A++(a,v,n)::C)) (ha:a.length<=9223372036854775807) (hb:b.length<=9223372036854775807) (hc:c.length<=9223372036854775807) (h:gQ k a b c=true)
  (hA:∀x,x∈A->less x.1 a=true) (hC:∀x,x∈C->less a x.1=true):
  f85 (A++(a,v,n)::C) k a b c=
   if k=6 then some (cs9++Lib.itoa ((A++(a,v,n)::C).length:Int),A++(a,v,n)::C)else
   if k=2 then some (qI++v++[32]++Lib.itoa n,A++(a,v,n)::C)else
   if k=3 then some ([111,107],A++C)else
   if k=5 then(if v=b then some (okW++Lib.itoa (min (n+1) MV),A++(a,c,min (n+1) MV)::C)else some ([110,111,32]++v,A++(a,v,n)::C))else
   if k=4 then(if(v++c).length>256 then some ([108,111,110,103],A++(a,v,n)::C)else some (okW++Lib.itoa (min (n+1) MV),A++(a,v++c,min (n+1) MV)::C))else
   some (okW++Lib.itoa (min (n+1) MV),A++(a,c,min (n+1) MV)::C):=by
 have hl:=hV.len;have hp:=hV.each (a,v,n) (by simp);obtain⟨p1,p2,p3,p4⟩:=hp;simp only at p1 p2 p3 p4;have hvl:=rI p2;have hil:=ilen (n:=n) (by omega) (by omega);have hcl:=(aAk h).2.2;have hl2:=ilen (n:=(((A++(a,v,n)::C).length:Nat):Int)) (by omega) (by omega)
 have tl:∀s,aBe (A++(a,v,n)::C) a (A.length:Int) s=some (okW++Lib.itoa (min (n+1) MV),A++(a,s,min (n+1) MV)::C):=fun s=>
  tail_hit A C a v s n hl (fun x hx=>⟨(hV.each x hx).2.2.1,(hV.each x hx).2.2.2⟩) hA hC
 have hla:=cQ A C (a,v,n);unfold f85;rw[aA (by omega),tJ k a b c ha hb hc,aC,h,tI A C a v n (by omega) (fun x hx=>iS (hA x hx)) (fun x hx=>vG (hC x hx))];simp only[if_true,bne_self_eq_false,abJ,if_false,aC,jn,abE,getD_at,aeP,abY];rw[dig (n:=(((A++(a,v,n)::C).length:Nat):Int)) (by omega) (by omega),aC,aA (by have:cs9.length=6:=rfl;omega)];have hneg:decide ((A.length:Int)<0)=false:=by simp
 simp only[hneg,abJ,if_false];split
 ·rfl
 split
 ·rw[dig (n:=n) (by omega) (by omega),aC,aA (by rw[hla];omega),aA (by simp[qI];omega),aA (by simp[qI];omega),aA (by rw[hla];omega),aA (by simp[qI];omega)]
 split
 ·rw[aA (by rw[hla];omega),aA (by omega),aA (by omega),aA (by rw[hla];omega),aA (by rw[hla];omega)];have e1:((A.length:Int)+1).toNat=A.length+1:=by omega
  rw[e1,take_at,drop_at]
 split
 ·rw[aA (by rw[hla];omega)];by_cases e:v=b
  ·rw[if_pos e,if_neg (by simp[e])];exact tl c
  ·rw[if_neg e,if_pos (by simp[e]),aA (by rw[hla];omega),aA (by simp;omega)]
 split
 ·rw[aP (by omega),aA (by rw[hla];omega),aA (by omega)];by_cases e:(v++c).length>256
  ·rw[if_pos e,aP (by omega)]
  ·rw[if_neg e,aL (by omega)];exact tl (v++c)
 ·exact tl c
theorem spec_miss (A C:List Pr) (k:Int) (a b c:aaA) (hV:StV (A++C)) (ha:a.length<=9223372036854775807) (hb:b.length<=9223372036854775807) (hc:c.length<=9223372036854775807) (h:gQ k a b c=true)
  (hA:∀x,x∈A->less x.1 a=true) (hC:∀x,x∈C->less a x.1=true):
  f85 (A++C) k a b c=
   if k=6 then some (cs9++Lib.itoa ((A++C).length:Int),A++C)else
   if k=2\/k=3\/k=5 then some ([110,111,110,101],A++C)else
   if 64<=(A++C).length then some (yH,A++C)else some (okW++Lib.itoa 1,A++(a,c,1)::C):=by
 have hl:=hV.len;have hcl:=(aAk h).2.2;have hl2:=ilen (n:=(((A++C).length:Nat):Int)) (by omega) (by omega)
 have tl:aBe (A++C) a (-1) c=if 64<=(A++C).length then some (yH,A++C)else some (okW++Lib.itoa 1,A++(a,c,1)::C):=
  tail_miss A C a c hl (fun x hx=>⟨(hV.each x hx).2.2.1,(hV.each x hx).2.2.2⟩) hA hC
 unfold f85;rw[aA (by omega),tJ k a b c ha hb hc,aC,h,f116_miss (A++C) a (by omega) (fun x hx=>by rcases abN.1 hx with hx|hx;exact iS (hA x hx);exact vG (hC x hx))];simp only[if_true,bne_self_eq_false,abJ,if_false,aC,jn,aeP,abY];rw[dig (n:=(((A++C).length:Nat):Int)) (by omega) (by omega),aC,aA (by have:cs9.length=6:=rfl;omega)];have hneg:decide ((-1:Int)<0)=true:=by decide
 have hneg2:decide ((-1:Int)>=0)=false:=by decide
 simp only[hneg,hneg2,if_true,abJ,if_false];by_cases h6:k=6
 ·rw[if_pos h6,if_pos h6]
 rw[if_neg h6,if_neg h6];by_cases h2:k=2
 ·rw[if_pos h2,if_pos (.inl h2)]
 rw[if_neg h2];by_cases h3:k=3
 ·rw[if_pos h3,if_pos (.inr (.inl h3))]
 rw[if_neg h3];by_cases h5:k=5
 ·rw[if_pos h5,if_pos (.inr (.inr h5))]
 rw[if_neg h5,if_neg (show ¬(k=2\/k=3\/k=5) by omega)];split
 ·rw[aL (by omega)];exact tl
 ·exact tl
theorem okOp_is {k:Int} {a b c:aaA} (h:gQ k a b c=true):isK k=true:=by
 unfold gQ at h;simp only[aaI]at h;exact h.1.1.1
theorem okK {k:Int} {a b c:aaA} (h:gQ k a b c=true):k=1\/k=2\/k=3\/k=4\/k=5\/k=6:=by
 have h0:=(okOp_is h);rcases kinds k with h|h|h|h|h|h|h
 ·exact .inl h
 ·exact .inr (.inl h)
 ·exact .inr (.inr (.inl h))
 ·exact .inr (.inr (.inr (.inl h)))
 ·exact .inr (.inr (.inr (.inr (.inl h))))
 ·exact .inr (.inr (.inr (.inr (.inr h))))
 ·rw[h]at h0;cases h0
theorem prog_hit (A C:List Pr) (k:Int) (a b c v:aaA) (n:Int) (hV:StV (A++(a,v,n)::C)) (ha:a.length<=9223372036854775807) (hb:b.length<=9223372036854775807) (hc:c.length<=9223372036854775807) (h:gQ k a b c=true)
  (hA:∀x,x∈A->less x.1 a=true) (hC:∀x,x∈C->less a x.1=true):
  aBP (A++(a,v,n)::C) k a b c=
   if k=6 then some (A++(a,v,n)::C,cs9++Lib.itoa ((A++(a,v,n)::C).length:Int))else
   if k=1 then some (A++(a,c,min (n+1) MV)::C,okW++Lib.itoa (min (n+1) MV))else
   if k=2 then some (A++(a,v,n)::C,qI++v++[32]++Lib.itoa n)else
   if k=3 then some (A++C,[111,107])else
   if k=4 then(if(v++c).length>256 then some (A++(a,v,n)::C,[108,111,110,103])else some (A++(a,v++c,min (n+1) MV)::C,okW++Lib.itoa (min (n+1) MV)))else
   if v=b then some (A++(a,c,min (n+1) MV)::C,okW++Lib.itoa (min (n+1) MV))else some (A++(a,v,n)::C,[110,111,32]++v):=by
 have hl:=hV.len;have hp:=hV.each (a,v,n) (by simp);obtain⟨p1,p2,p3,p4⟩:=hp;simp only at p1 p2 p3 p4;have hvl:=rI p2;have hil:=ilen (n:=n) (by omega) (by omega);have hcl:=(aAk h).2.2;have hl2:=ilen (n:=(((A++(a,v,n)::C).length:Nat):Int)) (by omega) (by omega);have hla:=cQ A C (a,v,n);have put:∀s,aB2 (A++(a,v,n)::C) a s=some (A++(a,s,min (n+1) MV)::C,okW++Lib.itoa (min (n+1) MV)):=fun s=>putP_hit A C a v s n hl p3 p4 hA hC;unfold aBP;rw[tF k a b c ha hb hc,aC,h];simp only[acL,abJ,if_false];rw[aAw A C a v n (by omega) hA hC,aC];simp only[abY,acL,Bool.and_false,abJ,if_false,abE,getD_at];split
 ·rw[ito (n:=(((A++(a,v,n)::C).length:Nat):Int)) (by omega) (by omega),aC,aA (by have:cs9.length=6:=rfl;omega)]
 split
 ·rw[put,aC]
 rw[aA (by rw[hla];omega)];split
 ·rw[ito (n:=n) (by omega) (by omega),aC,aA (by have:qI.length=6:=rfl;omega),aA (by simp[qI];omega),aA (by simp[qI];omega)]
 split
 ·rw[zD _ (by omega),aC];unfold f188;have e1:((A.length:Int)+1).toNat=A.length+1:=by omega
  rw[if_pos ⟨by omega,by omega,by rw[e1,hla];omega⟩,aC,aA (by omega),e1,abE,take_at,drop_at]
 split
 ·rw[aA (by omega)];by_cases e:(v++c).length>256
  ·rw[if_pos e,aP (by rw[aaH]at e;omega)]
  ·rw[if_neg e,aL (by rw[aaH]at e;omega),put,aC,aA (by omega)]
 ·by_cases e:v=b
  ·rw[if_pos e,if_neg (by simp[e]),put,aC]
  ·rw[if_neg e,if_pos (by simp[e]),aA (by simp;omega)]
theorem prog_miss (A C:List Pr) (k:Int) (a b c:aaA) (hV:StV (A++C)) (ha:a.length<=9223372036854775807) (hb:b.length<=9223372036854775807) (hc:c.length<=9223372036854775807) (h:gQ k a b c=true)
  (hA:∀x,x∈A->less x.1 a=true) (hC:∀x,x∈C->less a x.1=true):
  aBP (A++C) k a b c=
   if k=6 then some (A++C,cs9++Lib.itoa ((A++C).length:Int))else
   if k=1\/k=4 then(if 64<=(A++C).length then some (A++C,yH)else some (A++(a,c,1)::C,okW++Lib.itoa 1))else
   some (A++C,[110,111,110,101]):=by
 have hl:=hV.len;have hl2:=ilen (n:=(((A++C).length:Nat):Int)) (by omega) (by omega);have put:=putP_miss A C a c hl hA hC
 have put':((aB2 (A++C) a c).bind fun r=>some (r.1,r.2))=if 64<=(A++C).length then some (A++C,yH)else some (A++(a,c,1)::C,okW++Lib.itoa 1):=by
  rw[put];split<;>rfl
 unfold aBP;rw[tF k a b c ha hb hc,aC,h];simp only[acL,abJ,if_false];rw[vK A C a (by omega) hA hC,aC];simp only[abY,adN,Bool.and_true,if_true];split
 ·rw[ito (n:=(((A++C).length:Nat):Int)) (by omega) (by omega),aC,aA (by have:cs9.length=6:=rfl;omega)]
 by_cases h1:k=1
 ·rw[if_pos h1,if_pos (.inl h1)];exact put'
 by_cases h4:k=4
 ·rw[if_neg h1,if_pos h4,if_pos (.inr h4)];exact put'
 ·rw[if_neg h1,if_neg h4,if_neg (by omega)]
theorem exec (l:List Pr) (k:Int) (a b c:aaA) (hV:StV l) (ha:a.length<=9223372036854775807) (hb:b.length<=9223372036854775807) (hc:c.length<=9223372036854775807):∃l',Ex l k a b c l':=by
 cases h:gQ k a b c
 ·exact⟨l,by rw[R_bad h];exact prog_head l k a b c ha hb hc h,by rw[R_bad h];exact spec_head l k a b c hV.len ha hb hc h,hV,by rw[R_bad h],fun _ _=>rfl,fun p hp=> .inr ⟨p,hp,rfl⟩,fun _=>rfl⟩
 have hk:=okK h
 have hcg:k=1\/k=4\/k=5->gr c 64=true:=by
  unfold gQ at h;simp only[aaI]at h;have:=h.2;rintro(rfl|rfl|rfl)<;>exact this
 have hag:k≠6->gr a 64=true:=by
  unfold gQ at h;simp only[aaI]at h;have:=h.1.1.2;rcases hk with rfl|rfl|rfl|rfl|rfl|rfl<;>intro h6<;>first|exact this|exact absurd rfl h6
 have hf:gQ k a b c=false↔False:=by rw[h];simp
 cases view l a hV.srt with
 |hit A C v n e hA hC=>
  subst e;have p:=prog_hit A C k a b c v n hV ha hb hc h hA hC;have s:=spec_hit A C k a b c v n hV ha hb hc h hA hC;have hp:=hV.each (a,v,n) (by simp);have e0:=qB (C:=C) (v:=v) (n:=n) hA;have hm:=nmin hp.2.2.1 hp.2.2.2
  have keysS:∀s m,∀p,p∈A++(a,s,m)::C->p.1=a\/∃q,q∈A++(a,v,n)::C/\q.1=p.1:=by
   intro s m p hp;rcases abN.1 hp with hp|hp
   ·exact .inr ⟨p,acG _ hp,rfl⟩
   ·rcases abB.1 hp with rfl|hp
    ·exact .inl rfl
    ·exact .inr ⟨p,by simp[hp],rfl⟩
  have setS:∀s,gr s 256=true->StV (A++(a,s,min (n+1) MV)::C):=fun s hs=>stv_set hV hs hm.1 hm.2;have there:∀(s:aaA) (m:Int),∀k',k'≠a->ent (A++(a,s,m)::C) k'=ent (A++(a,v,n)::C) k':=fun s m k' hk'=>by rw[lR hk',lR hk']
  rcases hk with rfl|rfl|rfl|rfl|rfl|rfl
  ·refine⟨A++(a,c,min (n+1) MV)::C, ?_, ?_,setS c (gr_up (hcg (.inl rfl))), ?_,there _ _,keysS _ _,fun h=>by omega⟩
   ·rw[p,e0];simp[R,hf]
   ·rw[s,e0];simp[R,hf]
   ·rw[e0,qB hA];simp[R,hf]
  ·refine⟨A++(a,v,n)::C, ?_, ?_,hV, ?_,there _ _,keysS _ _,fun _=>rfl⟩
   ·rw[p,e0];simp[R,hf]
   ·rw[s,e0];simp[R,hf]
   ·rw[e0];simp[R,hf]
  ·refine⟨A++C, ?_, ?_,stv_del hV, ?_,fun k' hk'=>by rw[lR hk'],fun p hp=> .inr ⟨p,by rcases abN.1 hp with hp|hp<;>simp[hp],rfl⟩,fun h=>by omega⟩
   ·rw[p,e0];simp[R,hf]
   ·rw[s,e0];simp[R,hf]
   ·rw[e0,aA6 hA hC];simp[R,hf]
  ·by_cases hlong:(v++c).length>256
   ·refine⟨A++(a,v,n)::C, ?_, ?_,hV, ?_,there _ _,keysS _ _,fun h=>by omega⟩
    ·rw[p,e0];simp only[R,hf,hlong];simp
    ·rw[s,e0];simp only[R,hf,hlong];simp
    ·rw[e0];simp only[R,hf,hlong];simp
   ·refine⟨A++(a,v++c,min (n+1) MV)::C, ?_, ?_,setS _ (gr_app hp.2.1 (hcg (.inr (.inl rfl))) (by omega)), ?_,there _ _,keysS _ _,fun h=>by omega⟩
    ·rw[p,e0];simp only[R,hf,hlong];simp
    ·rw[s,e0];simp only[R,hf,hlong];simp
    ·rw[e0,qB hA];simp only[R,hf,hlong];simp
  ·by_cases hvb:v=b
   ·refine⟨A++(a,c,min (n+1) MV)::C, ?_, ?_,setS c (gr_up (hcg (.inr (.inr rfl)))), ?_,there _ _,keysS _ _,fun h=>by omega⟩
    ·rw[p,e0];simp[R,hf,hvb]
    ·rw[s,e0];simp[R,hf,hvb]
    ·rw[e0,qB hA];simp[R,hf,hvb]
   ·refine⟨A++(a,v,n)::C, ?_, ?_,hV, ?_,there _ _,keysS _ _,fun h=>by omega⟩
    ·rw[p,e0];simp[R,hf,hvb]
    ·rw[s,e0];simp[R,hf,hvb]
    ·rw[e0];simp[R,hf,hvb]
  ·refine⟨A++(a,v,n)::C, ?_, ?_,hV, ?_,there _ _,keysS _ _,fun _=>rfl⟩
   ·rw[p,e0];simp only[R,hf,if_true,if_false]
   ·rw[s,e0];simp only[R,hf,if_true,if_false]
   ·rw[e0];simp only[R,hf,if_true,if_false]
 |miss A C e hA hC=>
  subst e;have p:=prog_miss A C k a b c hV ha hb hc h hA hC;have s:=spec_miss A C k a b c hV ha hb hc h hA hC;have e0:=aA6 hA hC;have keep:∀p,p∈A++C->p.1=a\/∃q,q∈A++C/\q.1=p.1:=fun p hp=> .inr ⟨p,hp,rfl⟩
  have keysS:∀s m,∀p,p∈A++(a,s,m)::C->p.1=a\/∃q,q∈A++C/\q.1=p.1:=by
   intro s m p hp;rcases abN.1 hp with hp|hp
   ·exact .inr ⟨p,acG _ hp,rfl⟩
   ·rcases abB.1 hp with rfl|hp
    ·exact .inl rfl
    ·exact .inr ⟨p,by simp[hp],rfl⟩
  have ins:(k=1\/k=4)->∃l',Ex (A++C) k a b c l':=by
   intro h14;have h6:k≠6:=by omega
   have h235:¬(k=2\/k=3\/k=5):=by omega
   by_cases hfull:64<=(A++C).length
   ·refine⟨A++C, ?_, ?_,hV, ?_,fun _ _=>rfl,keep,fun _=>rfl⟩
    ·rw[p,e0,if_neg h6,if_pos h14,if_pos hfull];simp only[R,hf,if_false,if_neg h6,if_pos h14,if_pos hfull]
    ·rw[s,e0,if_neg h6,if_neg h235,if_pos hfull];simp only[R,hf,if_false,if_neg h6,if_pos h14,if_pos hfull]
    ·rw[e0];simp only[R,hf,if_false,if_neg h6,if_pos h14,if_pos hfull]
   ·refine⟨A++(a,c,1)::C, ?_, ?_,stv_ins hV (by omega) (hag h6) (gr_up (hcg (by omega))) hA hC, ?_,fun k' hk'=>by rw[lR hk'],keysS _ _,fun h=>by omega⟩
    ·rw[p,e0,if_neg h6,if_pos h14,if_neg hfull];simp only[R,hf,if_false,if_neg h6,if_pos h14,if_neg hfull]
    ·rw[s,e0,if_neg h6,if_neg h235,if_neg hfull];simp only[R,hf,if_false,if_neg h6,if_pos h14,if_neg hfull]
    ·rw[e0,qB hA];simp only[R,hf,if_false,if_neg h6,if_pos h14,if_neg hfull]
  have non:(k=2\/k=3\/k=5)->∃l',Ex (A++C) k a b c l':=by
   intro h235;have h6:k≠6:=by omega
   have h14:¬(k=1\/k=4):=by omega
   refine⟨A++C, ?_, ?_,hV, ?_,fun _ _=>rfl,keep,fun _=>rfl⟩
   ·rw[p,e0,if_neg h6,if_neg h14];simp only[R,hf,if_false,if_neg h6,if_neg h14]
   ·rw[s,e0,if_neg h6,if_pos h235];simp only[R,hf,if_false,if_neg h6,if_neg h14]
   ·rw[e0];simp only[R,hf,if_false,if_neg h6,if_neg h14]
  rcases hk with h|h|h|h|h|rfl
  ·exact ins (.inl h)
  ·exact non (.inl h)
  ·exact non (.inr (.inl h))
  ·exact ins (.inr h)
  ·exact non (.inr (.inr h))
  ·refine⟨A++C, ?_, ?_,hV, ?_,fun _ _=>rfl,keep,fun _=>rfl⟩
   ·rw[p,e0];simp only[R,hf,if_true,if_false]
   ·rw[s,e0];simp only[R,hf,if_true,if_false]
   ·rw[e0];simp only[R,hf,if_true,if_false]
abbrev Ss :=Int×Int×aaA
structure SesV (l:List Ss):Prop where
 rng:∀p,p∈l->0<=p.1/\p.1<6
 srt:l.Pairwise (fun p q=>p.1<q.1)
theorem SesV.nil :SesV []:=⟨by simp,.nil⟩
theorem ses_len :∀(l:List Ss) (k:Int),l.Pairwise (fun p q=>p.1<q.1)->(∀p,p∈l->k<=p.1/\p.1<6)->(l.length:Int)<=max 0 (6-k)
 |[],k,_,_=>by simp;omega
 |a::l,k,h,hr=>by
  obtain⟨h1,h2⟩:=adI.1 h
  have ha:=hr a (aaR ..)
  have:=ses_len l (a.1+1) h2 fun p hp=>⟨by have:=h1 p hp;omega,(hr p (aaQ _ hp)).2⟩
  simp only[aaS]
  omega
theorem SesV.len {l:List Ss} (h:SesV l):l.length<=6:=by
 have:=ses_len l 0 h.srt h.rng;omega
inductive SView (l:List Ss) (c:Int):Prop
 |hit (A C:List Ss) (n:Int) (r:aaA) (h:l=A++(c,n,r)::C) (hA:∀a,a∈A->a.1<c) (hC:∀b,b∈C->c<b.1):SView l c
 |miss (A C:List Ss) (h:l=A++C) (hA:∀a,a∈A->a.1<c) (hC:∀b,b∈C->c<b.1):SView l c
theorem sview :∀(l:List Ss) (c:Int),l.Pairwise (fun p q=>p.1<q.1)->SView l c
 |[],c,_=> .miss [] [] rfl (by simp) (by simp)
 |(x,n,r)::l,c,h=>by
  obtain⟨h1,h2⟩:=adI.1 h
  by_cases hx:x<c
  ·cases sview l c h2 with
   |hit A C n' r' e hA hC=>exact .hit ((x,n,r)::A) C n' r' (by rw[e];rfl) (by intro a ha;rcases abB.1 ha with rfl|ha;exact hx;exact hA a ha) hC
   |miss A C e hA hC=>exact .miss ((x,n,r)::A) C (by rw[e];rfl) (by intro a ha;rcases abB.1 ha with rfl|ha;exact hx;exact hA a ha) hC
  ·by_cases he:x=c
   ·subst he
    exact .hit [] l n r rfl (by simp) h1
   ·exact .miss [] ((x,n,r)::l) rfl (by simp) (by intro b hb;rcases abB.1 hb with rfl|hb;simp only;omega;have:=h1 b hb;simp only at this;omega)
theorem iT (A B:List Ss) (i:Nat) (d:Ss):(A++B).getD i d=if i<A.length then A.getD i d else B.getD (i-A.length) d:=by
 split
 ·simp[aaC,abV, *]
 ·rename_i h;simp[aaC,abQ (adY h)]
theorem f151_eq (A B:List Ss) (c:Int) (hc:0<=c/\c<6) (hr:∀p,p∈A++B->0<=p.1/\p.1<6) (hlen:(A++B).length<=1000000) (hA:∀a,a∈A->a.1<c) (hB:∀b,b∈B->¬b.1<c):
  f151 (A++B) c=some ((A.length:Int),decide (0<B.length)&&((B.getD 0 (default:Ss)).1==c)):=by
 have h24:∀(p:Ss),p∈A++B->f180 p.1 p.2.1 p.2.2 c=some (p.1-c):=fun p hp=>by
  have:=hr p hp;unfold f180;rw[fR (k:= .i64) (show-9223372036854775808<=p.1-c/\p.1-c<=9223372036854775807 by omega)]
 have main:∀(K:Int->Option Tq3) (d q i j:Nat),j-i<=d->d<q->i<=A.length->A.length<=j->j<=(A++B).length->gT (A++B) c K q ((i:Int),(j:Int))=K (A.length:Int):=by
  intro K d
  induction d with
  |zero=>
   intro q i j hd hq h1 h2 h3;obtain⟨q,rfl⟩:∃z,q=z+1:=⟨q-1,by omega⟩
   conv=>lhs;unfold gT
   rw[aL (by omega)]
   congr 1;omega
  |succ d ih=>
   intro q i j hd hq h1 h2 h3;obtain⟨q,rfl⟩:∃z,q=z+1:=⟨q-1,by omega⟩
   conv=>lhs;unfold gT
   by_cases hij:i<j
   ·have em:((i:Int)+(j:Int))/2^1=(((i+j)/2:Nat):Int):=by omega
    rw[aP (by omega),aA (by omega),aA (by omega),aA (by decide),em,aA (by omega),abE];generalize hm:(i+j)/2=m;have hm1:i<=m:=by omega
    have hm2:m<j:=by omega
    rw[h24 _ (bQ _ _ _ (by omega)),aC,aA (by omega)];by_cases hmA:m<A.length
    ·have hl:((A++B).getD m (default:Ss)).1<c:=by
      rw[iT,if_pos hmA];exact hA _ (bQ _ _ _ hmA)
     rw[aP (by omega),aA (by omega)];have:=ih q (m+1) j (by omega) (by omega) (by omega) h2 h3;rw[<-this];rfl
    ·have hl:¬((A++B).getD m (default:Ss)).1<c:=by
      rw[iT,if_neg hmA];exact hB _ (bQ _ _ _ (by rw[aaH]at h3;omega))
     rw[aL (by omega)];exact ih q i m (by omega) (by omega) h1 (by omega) (by omega)
   ·rw[aL (by omega)];congr 1;omega
 unfold f151 f179;simp only[jn];have e0:(0:Int)=((0:Nat):Int):=rfl;rw[e0,main _ (A++B).length bB 0 (A++B).length (by omega) (by unfold bB;omega) (abM _) (by simp) (abD _)];rw[abE];by_cases hb:0<B.length
 ·have h1:decide ((A.length:Int)<(((A++B).length:Nat):Int))=true:=by rw[aaH];simp;omega
  rw[h24 _ (bQ _ _ _ (by rw[aaH];omega)),h1,iT,if_neg (agU _),agF];simp only[beq_self_eq_true,acD,hJ,aC];rw[aA (fun _=>by rw[aaH];omega),aC];have hd:decide (0<B.length)=true:=by simp[hb]
  rw[hd];by_cases e:(B.getD 0 (default:Ss)).1=c
  ·have e':((B.getD 0 (default:Ss)).1==c)=true:=by simpa using e
   have e2:((B.getD 0 (default:Ss)).1-c==((0:Nat):Int))=true:=by simp only[abY];omega
   rw[e',e2];rfl
  ·have e':((B.getD 0 (default:Ss)).1==c)=false:=by simpa using e
   have e2:((B.getD 0 (default:Ss)).1-c==((0:Nat):Int))=false:=by
    cases h:((B.getD 0 (default:Ss)).1-c==((0:Nat):Int))
    ·rfl
    ·simp only[abY]at h;omega
   rw[e',e2];rfl
 ·have h1:decide ((A.length:Int)<(((A++B).length:Nat):Int))=false:=by rw[aaH];simp;omega
  rw[h1];have hd:decide (0<B.length)=false:=by simp[hb]
  rw[hd];simp[gB,chk]
def num (l:List Ss) (c:Int):Int:=match l.find? (fun p=>p.1==c)with|some p=>p.2.1|none=>0
theorem oY {A C:List Ss} {c n:Int} {r:aaA} (hA:∀a,a∈A->a.1<c):num (A++(c,n,r)::C) c=n:=by
 unfold num;rw[adJ,afK.2 fun a ha=>by have:=hA a ha;simp;omega];simp
theorem num_miss {A C:List Ss} {c:Int} (hA:∀a,a∈A->a.1<c) (hC:∀b,b∈C->c<b.1):num (A++C) c=0:=by
 unfold num
 rw [afK.2 fun a ha=>by
  rcases abN.1 ha with ha|ha
  ·have:=hA a ha;simp;omega
  ·have:=hC a ha;simp;omega]
theorem oX {A C:List Ss} {c c' n:Int} {r:aaA} (h:c'≠c):num (A++(c,n,r)::C) c'=num (A++C) c':=by
 unfold num;have e:((c,n,r).1==c')=false:=by simp;omega
 rw[adJ,adJ,adT];simp only[e]
def kV (q:Ss):Bool:=(((((decide (q.1>=0))&&(decide (q.1<6)))&&(decide (q.2.1>=1)))&&(decide (q.2.1<=1000000)))&& !(q.2.2==[]))&&decide (((q.2.2.length:Nat):Int)<=200)
theorem fT {q:Ss} (h:kV q=true):0<=q.1/\q.1<6/\1<=q.2.1/\q.2.1<=1000000/\q.2.2.length<=200:=by
 unfold kV at h;simp only[aaI,aaY]at h;omega
abbrev Mc :=List Pr×List Ss
structure McV (m:Mc):Prop where
 st:StV m.1
 se:SesV m.2
theorem ses_set {A C:List Ss} {c n n':Int} {r r':aaA} (h:SesV (A++(c,n,r)::C)):SesV (A++(c,n',r')::C):=by
 refine⟨fun p hp=> ?_, ?_⟩
 ·rcases abN.1 hp with hp|hp
  ·exact h.rng p (acG _ hp)
  ·rcases abB.1 hp with rfl|hp
   ·exact h.rng (c,n,r) (by simp)
   ·exact h.rng p (by simp[hp])
 ·have:=h.srt;simp only[aeC,adI]at this⊢;refine⟨this.1,this.2.1,fun a ha b hb=> ?_⟩;rcases abB.1 hb with rfl|hb
  ·exact this.2.2 a ha (c,n,r) (aaR ..)
  ·exact this.2.2 a ha b (aaQ _ hb)
theorem ses_ins {A C:List Ss} {c n:Int} {r:aaA} (h:SesV (A++C)) (hc:0<=c/\c<6) (hA:∀a,a∈A->a.1<c) (hC:∀b,b∈C->c<b.1):SesV (A++(c,n,r)::C):=by
 refine⟨fun p hp=> ?_, ?_⟩
 ·rcases abN.1 hp with hp|hp
  ·exact h.rng p (acG _ hp)
  ·rcases abB.1 hp with rfl|hp
   ·exact hc
   ·exact h.rng p (adV _ hp)
 ·have:=h.srt;simp only[aeC,adI]at this⊢;refine⟨this.1,⟨hC,this.2.1⟩,fun a ha b hb=> ?_⟩;rcases abB.1 hb with rfl|hb
  ·exact hA a ha
  ·exact this.2.2 a ha b hb
theorem setS_at :∀(A C:List Ss) (x y:Ss),(A++x::C).set A.length y=A++y::C
 |[],_,_,_=>rfl
 |a::A,C,x,y=>by
  show a::(A++x::C).set A.length y=_
  rw[setS_at A C x y];rfl
theorem getS_at (A C:List Ss) (x d:Ss):(A++x::C).getD A.length d=x:=by
 rw[iT,if_neg (agU _),agF];rfl
theorem f154_eq (l:List Ss) (h:l.length<=1000000):f154 l=some l:=by
 unfold f154;rw[abc_eq,aA (by omega)]
 ·rfl
 ·intro hl;rw[aA (by omega)];have:l=[]:=aeF.1 hl;rw[this];rfl
structure Ap (m:Mc) (q:Ss) (m':Mc):Prop where
 ok:McV m'
 bad:kV q=false->m'=m
 old:kV q=true->q.2.1<=num m.2 q.1->m'=m
 new:kV q=true->q.2.1<=num m'.2 q.1
 mono:∀c,num m.2 c<=num m'.2 c
theorem rD (x:aaA) (hx:x.length<=1000):∃k a b c e,f152 x=some (k,a,b,c,e)/\f84 x=some (k,a,b,c,e)/\a.length<=1000/\b.length<=1000/\c.length<=1000:=by
 by_cases h:NoOp x
 ·exact⟨_,_,_,_,_,f152_miss h (by omega),f84_miss h (by omega),by simp,by simp,by simp⟩
 ·obtain⟨k,a,b,c,hk,rfl⟩:∃k a b c,gQ k a b c=true/\txt k a b c=x:=by
   refine Classical.byContradiction fun hn=>h fun k a b c hk hx=>hn ⟨k,a,b,c,hk,hx⟩
  obtain⟨t1,t2,t3⟩:= @txt_len k a b c;exact⟨_,_,_,_,_,f152_hit hk (by omega),f84_hit hk (by omega),by omega,by omega,by omega⟩
theorem xI :∀(q n:Nat),n<10^(q+1)->n<=1000000000000000->∀k,q+1<=k->f88 k (n:Int)=some (Lib.itoa (n:Int))
 |q,n,hn,hb,k,hk=>by
  obtain⟨k,rfl⟩:∃z,k=z+1:=⟨k-1,by omega⟩
  conv=>lhs;unfold f88
  rw[Lib.itoa_nonneg]
  by_cases h:n<10
  ·rw[aP (by omega),aA (by omega),aA (by omega),Lib.decDigits_one h]
   congr 3
  ·rw[aL (by omega)]
   match q,hn,hk with
   |0,hn,_=>omega
   |q+1,hn,hk=>
    have e1:(n:Int)/10=((n/10:Nat):Int):=by omega
    have e2:(n:Int)%10=((n%10:Nat):Int):=by omega
    rw[e1,e2,xI q (n/10) (by rw[agG]at hn;omega) (by omega) k (by omega),aC,aA (by omega),aA (by omega),aA (by omega),aA (by omega)]
    have hl:=Lib.itoa_length_le ((n/10:Nat):Int) (by omega) (by omega)
    rw[aA (by rw[acJ];omega),Lib.itoa_nonneg]
    conv=>rhs;rw[Lib.decDigits,dif_neg h]
    congr 3
theorem qE {n:Int} (h0:0<=n) (h1:n<=1000000000000000):f88 bB n=some (Lib.itoa n):=by
 obtain⟨m,rfl⟩:∃m:Nat,n=m:=⟨n.toNat,by omega⟩;exact xI 15 m (by omega) (by omega) bB (by unfold bB;omega)
theorem jS (n:Nat) (hn:n<128) (k:Nat):aB3 (k+1) (n:Int)=some [UInt8.ofNat n]:=by
 conv=>lhs;unfold aB3
 rw[aP (by omega),aA (by omega),abE]
theorem aAV (n:Nat) (hn:n<16384):∃r,aB3 bB (n:Int)=some r/\r.length<=2:=by
 obtain⟨k,hk⟩:∃k,bB=k+2:=⟨bB-2,by unfold bB;omega⟩;rw[hk];by_cases h:n<128
 ·exact⟨_,jS n h (k+1),by simp⟩
 ·conv=>arg 1;intro r;lhs;lhs;unfold aB3
  have e1:(n:Int)/128=((n/128:Nat):Int):=by omega
  rw[aL (by omega),e1,jS (n/128) (by omega) k,aC,aA (by omega),aA (by omega),aA (by omega),aA (by omega),aA (by simp)];exact⟨_,rfl,by simp⟩
theorem f87_len (x:List Ty1) (hx:∀s,s∈x->s.length<=200) (hl:x.length<=100) (K:aaA->Option Ty1):∀c k n s,n+c=x.length->c<k->s.length<=2000000-c *10000->∃r,iV x K k (s,n)=K r/\r.length<=s.length+c *202
 |0,k,n,s,hn,hk,hs=>by
  obtain⟨k,rfl⟩:∃z,k=z+1:=⟨k-1,by omega⟩
  obtain rfl:n=x.length:=by omega
  refine⟨s, ?_,by omega⟩
  conv=>lhs;unfold iV
  rw[aL (by omega)]
 |c+1,k,n,s,hn,hk,hs=>by
  obtain⟨k,rfl⟩:∃z,k=z+1:=⟨k-1,by omega⟩
  have hlt:n<x.length:=by omega
  have hxn:(x.getD n []).length<=200:=by
   rw[aaC,aaT hlt]
   exact hx _ (adG ..)
  obtain⟨r,hr,hr2⟩:=aAV (x.getD n []).length (by omega)
  have hsl:(s++r).length=s.length+r.length:=aaH
  have hsl2:((s++r)++x.getD n []).length=s.length+r.length+(x.getD n []).length:=by rw[aaH,aaH]
  obtain⟨r',h1,h2⟩:=f87_len x hx hl K c k (n+1) ((s++r)++x.getD n []) (by omega) (by omega) (by omega)
  refine⟨r', ?_,by omega⟩
  conv=>lhs;unfold iV
  rw[aP (by omega),hr,aC,aA (by omega),aA (by omega),aA (by omega),aA (by omega),aA (by omega)]
  exact h1
theorem f87_tot (x:List Ty1) (hx:∀s,s∈x->s.length<=200) (hl:x.length<=4):∃r,f87 x=some r/\r.length<=2000:=by
 obtain⟨r0,h0,h02⟩:=aAV x.length (by omega);unfold f87;rw[h0,aC,bO];obtain⟨r,h1,h2⟩:=f87_len x hx (by omega) (fun s6=>some s6) x.length bB 0 r0 (by omega) (fuel_lt (by omega)) (by omega);exact⟨r,h1,by omega⟩
theorem f65_tot (c n:Int) (op:aaA) (hc:0<=c/\c<6) (hn:1<=n/\n<=1000000) (hop:op.length<=200):∃r,f65 1 0 [(c,n,op)]=some r/\r.length<=2000:=by
 have l1:=Lib.itoa_length_le c (by omega) (by omega);have l2:=Lib.itoa_length_le n (by omega) (by omega)
 obtain ⟨r, hr, hr2⟩ := f87_tot [cs2, Lib.itoa c, Lib.itoa n, op] (by
  intro s hs;simp only[abB,aeJ,or_false]at hs;rcases hs with rfl|rfl|rfl|rfl
  ·decide
  ·omega
  ·omega
  ·exact hop) (by simp)
 obtain⟨k,hk⟩:∃k,bB=k+2:=⟨bB-2,by unfold bB;omega⟩;have hd1:=qE (n:=c) (by omega) (by omega);have hd2:=qE (n:=n) (by omega) (by omega)
 have hL:∀K:List Ty1->Option Ty1,iY [(c,n,op)] K bB (0,[cs2])=K [cs2,Lib.itoa c,Lib.itoa n,op]:=by
  intro K;rw[hk]
  conv=>lhs;unfold iY
  rw[aP (by simp)];simp only[abH,aaS,abT];rw[aA (by omega),hd1,aC,hd2,aC,aA (by omega),aA (by omega)]
  conv=>lhs;unfold iY
  rw[aL (by simp)];rfl
 unfold f65;rw[if_neg (by decide),if_neg (by decide),bO,hL,hr];exact⟨r,rfl,hr2⟩
theorem f64_eq (c n:Int) (op:aaA):∃v,f64 1 0 [(c,n,op)]=some v/\(v=0↔kV (c,n,op)=true):=by
 have hg:kV (c,n,op)=true↔(0<=c/\c<6/\1<=n/\n<=1000000/\op≠[]/\op.length<=200):=by
  unfold kV;simp only[aaI,aaY,adH,beq_eq_false_iff_ne];constructor
  ·rintro⟨⟨⟨⟨⟨h1,h2⟩,h3⟩,h4⟩,h5⟩,h6⟩;exact⟨h1,h2,h3,h4,h5,by omega⟩
  ·rintro⟨h1,h2,h3,h4,h5,h6⟩;exact⟨⟨⟨⟨⟨h1,h2⟩,h3⟩,h4⟩,h5⟩,by omega⟩
 obtain⟨k,hk⟩:∃k,bB=k+2:=⟨bB-2,by unfold bB;omega⟩
 have h47:f120 [] c n op=some false:=by
  unfold f120;rw[bO,hk]
  conv=>lhs;unfold gW
  rw[aL (by simp)]
 have h114:∃v,f119 c n op=some v/\(v=0↔kV (c,n,op)=true):=by
  unfold f119;rw[hg];by_cases h1:0<=c/\c<6/\1<=n/\n<=1000000
  ·rw[if_neg (by simp;omega)];by_cases h2:op=[]
   ·rw[if_pos (by simp[h2])];exact⟨_,rfl,by simp[h2]⟩
   ·rw[if_neg (by simpa using h2)];by_cases h3:op.length<=200
    ·rw[aL (by omega)];exact⟨_,rfl,by simp[h1,h2,h3]⟩
    ·rw[aP (by omega)];exact⟨_,rfl,by simp;omega⟩
  ·rw[if_pos (by simp;omega)];exact⟨_,rfl,by simp;omega⟩
 obtain⟨v,hv,hvg⟩:=h114
 have h73:f86 [(c,n,op)]=some v:=by
  unfold f86;rw[bO,hk]
  conv=>lhs;unfold jY
  rw[aP (by simp)];simp only[abH,aaS,abT];rw[hv,aC,aA (by omega)];by_cases h0:v=0
  ·subst h0;rw[if_neg (by simp),show List.take 0 [(c,n,op)]=[]from rfl,h47,aC,aA (by omega),aA (by omega),if_neg (by simp),aA (by omega)]
   conv=>lhs;unfold jY
   rw[aL (by simp)]
  ·rw[if_pos (by simpa using h0)]
 unfold f64;rw[aA (by simp),aA (by simp),if_neg (by simp),aL (by simp),h73,aC];by_cases h0:v=0
 ·have:=fT (hvg.1 h0);simp only at this;obtain⟨r,hr,hr2⟩:=f65_tot c n op (by omega) (by omega) (by omega);rw[if_neg (by simpa using h0),hr,aC,aL (by omega)];exact⟨0,rfl,by rw[<-hvg];simp[h0]⟩
 ·rw[if_pos (by simpa using h0)];exact⟨v,rfl,hvg⟩
theorem f83_hit (p:List Pr) (A C:List Ss) (c n:Int) (r:aaA) (hlen:(A++(c,n,r)::C).length<=1000000) (hA:∀a,a∈A->a.1<c) (hC:∀b,b∈C->c<b.1):f83 p (A++(c,n,r)::C) c=some (c,n,r,true):=by
 have hla:(A++(c,n,r)::C).length=A.length+C.length+1:=by simp;omega
 unfold f83;rw[bO]
 rcases sW (fun q i => fC (A ++ (c, n, r) :: C) c (fun _ => some (0, 0, [], false)) q i) (A ++ (c, n, r) :: C) (default : Ss) (fun x => x.1 == c) (fun i => some ((((A ++ (c, n, r) :: C).getD i (default : Ss)).1), (((A ++ (c, n, r) :: C).getD i (default : Ss)).2.1), (((A ++ (c, n, r) :: C).getD i (default : Ss)).2.2), true)) (some (0, 0, [], false)) (fun q i hi=>by
   show fC _ _ _ (q+1) i=_
   conv=>lhs;unfold fC
   rw [aP (by omega), aA (by omega), aA (by omega), aA (by omega)]) (fun q=>by
   show fC _ _ _ (q+1) _=_
   conv=>lhs;unfold fC
   rw[aL (by omega)]) (A++(c,n,r)::C).length bB 0 (by omega) (fuel_lt (by omega))with⟨m,h1,h2,h3,h4,h5⟩|⟨h4,h5⟩
 ·rw[h4]
  have hm:m=A.length:=by
   rw[iT]at h3;by_cases e:m<A.length
   ·rw[if_pos e]at h3;have:=hA _ (bQ A m (default:Ss) e);have h6:(A.getD m (default:Ss)).1=c:=beq_iff_eq.1 h3;omega
   ·rw[if_neg e]at h3;by_cases e2:m=A.length
    ·exact e2
    ·obtain⟨z,hz⟩:∃z,m-A.length=z+1:=⟨m-A.length-1,by omega⟩;rw[hz,abP]at h3;have:=hC _ (bQ C z (default:Ss) (by omega));have h6:(C.getD z (default:Ss)).1=c:=beq_iff_eq.1 h3;omega
  rw[hm,getS_at]
 ·exfalso;rw[abW]at h5;have:=agR.1 h5 (c,n,r) (by simp);simp at this
theorem aAy (p:List Pr) (l:List Ss) (c:Int) (hlen:l.length<=1000000) (h:∀a,a∈l->(a.1==c)=false):f83 p l c=some (0,0,[],false):=by
 unfold f83
 rw [bO, aBa (fun q i => fC l c (fun _ => some (0, 0, [], false)) q i) l (default : Ss) (fun _ => false) none (some (0, 0, [], false)) (fun q i hi=>by
   show fC _ _ _ (q+1) i=_
   conv=>lhs;unfold fC
   rw [aP (by omega), aA (by omega), h _ (bQ _ _ _ hi), if_neg (by simp), aA (by omega), if_neg (by simp)]) (fun q=>by
   show fC _ _ _ (q+1) _=_
   conv=>lhs;unfold fC
   rw[aL (by omega)]) bB (fuel_lt (by omega))]
 simp
abbrev RApp :=Option (List Pr×List Ss×aaA)
theorem f62_L0_eq (x:List Ss) (c:Int) (K:List Ss->RApp) (hl:x.length<=1000) (F:Nat) (hF:x.length<F):lL x c K F (0,[])=K (x.foldl (fun s a=>if a.1<c then s++[a]else s) []):=by
 have := sU (lL x c K) x default (fun n s => s.length <= n) (fun s a => if a.1 < c then s ++ [a] else s) K (fun k n s hn hi=>by
  conv=>lhs;unfold lL
  rw[aP (by omega),bO,aA (by omega)];by_cases h:(x.getD n (default:Ss)).1<c
  ·rw[aP h,if_pos h,aA (by omega),aA (by omega)];simp only[];rw[aA (by omega)]
  ·rw[aL h,if_neg h];simp only[]
   rw [aA (by omega)]) (fun n s hn hi=>by
  split
  ·simp;omega
  ·omega) (fun k s _=>by
  conv=>lhs;unfold lL
  rw[aL (by omega)]) x.length F 0 [] (by omega) hF (abD _)
 rw[abW]at this;exact this
theorem f62_L1_eq (x:List Ss) (c:Int) (K:List Ss->RApp) (hl:x.length<=1000) (s0:List Ss) (hs:s0.length<=1000) (F:Nat) (hF:x.length<F):lK x c K F (0,s0)=K (x.foldl (fun s a=>if a.1>c then s++[a]else s) s0):=by
 have := sU (lK x c K) x default (fun n s => s.length <= n + 1000) (fun s a => if a.1 > c then s ++ [a] else s) K (fun k n s hn hi=>by
  conv=>lhs;unfold lK
  rw[aP (by omega),bO,aA (by omega)];by_cases h:(x.getD n (default:Ss)).1>c
  ·rw[aP h,if_pos h,aA (by omega),aA (by omega)];simp only[];rw[aA (by omega)]
  ·rw[aL h,if_neg h];simp only[]
   rw [aA (by omega)]) (fun n s hn hi=>by
  split
  ·simp;omega
  ·omega) (fun k s _=>by
  conv=>lhs;unfold lK
  rw[aL (by omega)]) x.length F 0 s0 (by omega) hF (by omega)
 rw[abW]at this;exact this
theorem sV (p:Ss->Prop) [DecidablePred p]:∀(A s:List Ss),(∀a,a∈A->p a)->A.foldl (fun s a=>if p a then s++[a]else s) s=s++A
 |[],s,_=>by simp
 |a::A,s,h=>by
  rw[acR,if_pos (h a (aaR ..)),sV p A _ fun x hx=>h x (aaQ _ hx)]
  simp
theorem kL (p:Ss->Prop) [DecidablePred p]:∀(A s:List Ss),(∀a,a∈A->¬p a)->A.foldl (fun s a=>if p a then s++[a]else s) s=s
 |[],s,_=>rfl
 |a::A,s,h=>by
  rw[acR,if_neg (h a (aaR ..)),kL p A _ fun x hx=>h x (aaQ _ hx)]
theorem spec_ses (A C mid:List Ss) (c n:Int) (s:aaA) (hmid:∀a,a∈mid->a.1=c) (hA:∀a,a∈A->a.1<c) (hC:∀b,b∈C->c<b.1):
  ((A++mid++C).foldl (fun s a=>if a.1>c then s++[a]else s) (((A++mid++C).foldl (fun s a=>if a.1<c then s++[a]else s) [])++[(c,n,s)]))=A++(c,n,s)::C:=by
 have e1:(A++mid++C).foldl (fun s a=>if a.1<c then s++[a]else s) []=A:=by
  rw[adD,adD,sV (fun a:Ss=>a.1<c) A [] hA,kL (fun a:Ss=>a.1<c) mid _ (fun a ha=>by have:=hmid a ha;omega),kL (fun a:Ss=>a.1<c) C _ (fun a ha=>by have:=hC a ha;omega)];simp
 rw[e1,adD,adD,kL (fun a:Ss=>a.1>c) A _ (fun a ha=>by have:=hA a ha;omega),kL (fun a:Ss=>a.1>c) mid _ (fun a ha=>by have:=hmid a ha;omega),sV (fun a:Ss=>a.1>c) C _ (fun a ha=>by have:=hC a ha;omega)];simp
theorem pars_both (l1:List Pr) (op:aaA) (hop:op.length<=200) (hst:StV l1):∃s l1',StV l1'/\
  (∀ K : aaA × List Pr -> RApp, ((f152 op).bind fun(r8:Tq9)=>
   if(r8.2.2.2.2==(0:Int))=true then(aBP l1 r8.1 r8.2.1 r8.2.2.1 r8.2.2.2.1).bind fun(r9:List Pr×aaA)=>K (r9.2,r9.1)else K (cs5,l1))=K (s,l1'))/\
  (∀ K : aaA × List Pr -> RApp, ((f84 op).bind fun(r8:Tq9)=>
   if(r8.2.2.2.2==(0:Int))=true then(f85 l1 r8.1 r8.2.1 r8.2.2.1 r8.2.2.2.1).bind fun(r9:aaA×List Pr)=>K (r9.1,r9.2)else K (cs5,l1))=K (s,l1')):=by
 obtain⟨k,a,b,d,e,hp,hp2,ha,hb,hd⟩:=rD op (by omega);obtain⟨l',hx⟩:=exec l1 k a b d hst (by omega) (by omega) (by omega);rw[hp,hp2];cases he:e==0
 ·refine⟨cs5,l1,hst,fun K=> ?_,fun K=> ?_⟩
  ·show(if(e==0)=true then(aBP l1 k a b d).bind (fun r9=>K (r9.2,r9.1))else K (cs5,l1))=_;rw[he];rfl
  ·show(if(e==0)=true then(f85 l1 k a b d).bind (fun r9=>K (r9.1,r9.2))else K (cs5,l1))=_;rw[he];rfl
 ·refine⟨(R (ent l1 a) l1.length k a b d).1,l',hx.ok,fun K=> ?_,fun K=> ?_⟩
  ·show(if(e==0)=true then(aBP l1 k a b d).bind (fun r9=>K (r9.2,r9.1))else K (cs5,l1))=_;rw[he,if_pos rfl,hx.prog];rfl
  ·show(if(e==0)=true then(f85 l1 k a b d).bind (fun r9=>K (r9.1,r9.2))else K (cs5,l1))=_;rw[he,if_pos rfl,hx.spec];rfl
theorem aAf (l1:List Pr) (l2:List Ss) (c n:Int) (op:aaA) (hg:kV (c,n,op)=false):f62 l1 l2 c n op=some (l1,l2,cs3):=by
 obtain⟨v,hv,hvg⟩:=f64_eq c n op;have h0:v≠0:=fun h=>Bool.noConfusion (hg.symm.trans (hvg.1 h));unfold f62;rw[hv,aC,if_pos (by simpa using h0)]
theorem lB (l1:List Pr) (l2 A mid C:List Ss) (c n:Int) (op:aaA) (hg:kV (c,n,op)=true) (hl2:l2=A++mid++C) (hl6:l2.length<=6) (hmid:∀a,a∈mid->a.1=c) (hA:∀a,a∈A->a.1<c) (hC:∀b,b∈C->c<b.1)
  (x n':Int) (r':aaA) (has:Bool) (hf:f83 l1 l2 c=some (x,n',r',has)) (s:aaA) (l1':List Pr)
  (hK : ∀ K : aaA × List Pr -> RApp, ((f84 op).bind fun(r8:Tq9)=>
   if(r8.2.2.2.2==(0:Int))=true then(f85 l1 r8.1 r8.2.1 r8.2.2.1 r8.2.2.2.1).bind fun(r9:aaA×List Pr)=>K (r9.1,r9.2)else K (cs5,l1))=K (s,l1')):
  f62 l1 l2 c n op=if(has&&decide (n'>n))=true then some (l1,l2,cs4)else if(has&&(n'==n))=true then some (l1,l2,r')else some (l1',A++(c,n,s)::C,s):=by
 obtain⟨v,hv,hvg⟩:=f64_eq c n op;have h0:v=0:=hvg.2 hg;subst h0;unfold f62;have hF:1000<bB:=fuel_lt (by omega);generalize bB=F at hF;rw[hv,aC,if_neg (by simp),hf,aC];simp only[];split
 ·rfl
 split
 ·rfl
 have hj : ∀ (J : aaA × List Pr -> RApp), ((f84 op).bind fun(r8:Tq9)=>jn J fun K1=>
   if(r8.2.2.2.2==(0:Int))=true then(f85 l1 r8.1 r8.2.1 r8.2.2.1 r8.2.2.2.1).bind fun(r9:aaA×List Pr)=>K1 (r9.1,r9.2)else K1 (cs5,l1))=J (s,l1'):=hK
 rw[hj];simp only[];rw[bO,f62_L0_eq l2 c _ (by omega) F (by omega)]
 have hle:((l2.foldl (fun s a=>if a.1<c then s++[a]else s) []).length)<=6:=by
  rw[hl2,adD,adD,sV (fun a:Ss=>a.1<c) A [] hA,kL (fun a:Ss=>a.1<c) mid _ (fun a ha=>by have:=hmid a ha;omega),kL (fun a:Ss=>a.1<c) C _ (fun a ha=>by have:=hC a ha;omega)];rw[hl2,aaH,aaH]at hl6;simp;omega
 rw[aA (by omega),bO,f62_L1_eq l2 c _ (by omega) _ (by simp;omega) F (by omega),hl2,spec_ses A C mid c n s hmid hA hC]
theorem sD (m:Mc) (q:Ss) (hm:McV m):∃m' s,f123 m.1 m.2 q.1 q.2.1 q.2.2=some (m'.1,m'.2,s)/\f62 m.1 m.2 q.1 q.2.1 q.2.2=some (m'.1,m'.2,s)/\Ap m q m':=by
 obtain⟨l1,l2⟩:=m;obtain⟨c,n,op⟩:=q;obtain⟨hst,hse⟩:=hm;simp only at hst hse⊢
 have hgd:(((!((((decide (c>=0))&&(decide (c<6)))&&(decide (n>=1)))&&(decide (n<=1000000))))||(op==[]))||decide (((op.length:Nat):Int)>200))= !kV (c,n,op):=by
  unfold kV;simp only
  have e:decide (((op.length:Nat):Int)>200)= !decide (((op.length:Nat):Int)<=200):=by
   by_cases h:((op.length:Nat):Int)<=200
   ·simp[h]<;>omega
   ·simp[h]<;>omega
  rw[e];cases(((decide (c>=0))&&(decide (c<6)))&&(decide (n>=1)))&&(decide (n<=1000000))<;>cases op==[]<;>cases decide (((op.length:Nat):Int)<=200)<;>rfl
 unfold f123 f150;rw[aC,hgd];cases hg:kV (c,n,op)
 ·refine⟨(l1,l2),cs3,by simp,aAf l1 l2 c n op hg,⟨⟨hst,hse⟩,fun _=>rfl,fun h=>Bool.noConfusion (hg.symm.trans h),fun h=>Bool.noConfusion (hg.symm.trans h),fun _=>aeI _⟩⟩
 obtain⟨c0,c6,n1,n2,hop⟩:=fT hg;simp only at c0 c6 n1 n2 hop;have hl6:=hse.len;rw[if_neg (by simp)];obtain⟨s,l1',hv',hK,hK2⟩:=pars_both l1 op hop hst;simp only[hK]
 cases sview l2 c hse.srt with
 |hit A C n' r' e hA hC=>
  subst e
  have hf := f151_eq A ((c, n', r') :: C) c ⟨c0, c6⟩ hse.rng (by omega) hA (fun b hb=>by
   rcases abB.1 hb with rfl|hb
   ·simp
   ·have:=hC b hb;omega)
  have hf':f151 (A++(c,n',r')::C) c=some ((A.length:Int),true):=by rw[hf];simp
  have hla:(A++(c,n',r')::C).length=A.length+C.length+1:=by simp;omega
  have hnum:=oY (n:=n') (r:=r') (C:=C) hA;have hsp:=lB l1 (A++(c,n',r')::C) A [(c,n',r')] C c n op hg (by simp) hl6 (fun a ha=>by rw[acU.1 ha]) hA hC c n' r' true (f83_hit l1 A C c n' r' (by omega) hA hC) s l1' hK2;simp only[acD]at hsp;rw[hf',aC];simp only[abE,getS_at,acD];rw[aA (fun _=>by rw[hla];omega)];by_cases h1:n'>n
  ·rw[aP h1];rw[aP h1]at hsp;exact⟨(l1,A++(c,n',r')::C),_,rfl,hsp,⟨⟨hst,hse⟩,fun _=>rfl,fun _ _=>rfl,fun _=>(by simp only;rw[hnum];omega),fun _=>aeI _⟩⟩
  rw[aL h1,aA (fun _=>by rw[hla];omega)];rw[aL h1]at hsp;by_cases h2:n'=n
  ·have e2:(n'==n)=true:=by simp[h2]
   rw[e2,if_pos rfl,aA (by rw[hla];omega)];rw[e2,if_pos rfl]at hsp;exact⟨(l1,A++(c,n',r')::C),_,rfl,hsp,⟨⟨hst,hse⟩,fun _=>rfl,fun _ _=>rfl,fun _=>(by simp only;rw[hnum];omega),fun _=>aeI _⟩⟩
  ·have e2:(n'==n)=false:=by simp[h2]
   rw[e2,if_neg (by simp),bO];rw[e2,if_neg (by simp)]at hsp;refine⟨(l1',A++(c,n,s)::C),s, ?_,hsp,⟨⟨hv',ses_set hse⟩,fun h=>Bool.noConfusion (hg.symm.trans h),fun _ h=>(by simp only at h;rw[hnum]at h;omega),fun _=>(by simp only;rw[oY hA];exact aeI _),fun c'=> ?_⟩⟩
   ·simp only[];rw[f154_eq _ (by omega),aC,bO,if_pos (by simp),aA (by rw[hla];omega),aA (by rw[hla];omega),setS_at]
   ·simp only;by_cases hc:c'=c
    ·rw[hc,hnum,oY hA];omega
    ·rw[oX hc,oX hc];exact aeI _
 |miss A C e hA hC=>
  subst e;have hf:=f151_eq A C c ⟨c0,c6⟩ hse.rng (by omega) hA (fun b hb=>by have:=hC b hb;omega)
  have hf':f151 (A++C) c=some ((A.length:Int),false):=by
   rw[hf]
   cases C with
   |nil=>simp
   |cons b C=>
    have:=hC b (aaR ..);have e:(b.1==c)=false:=by simp;omega
    simp[e]
  have hnum:=num_miss hA hC;have hsp:=lB l1 (A++C) A [] C c n op hg (by simp) hl6 (fun a ha=>(aeJ ha).elim) hA hC 0 0 [] false (aAy l1 (A++C) c (by omega) (fun a ha=>beq_eq_false_iff_ne.2 (by rcases abN.1 ha with ha|ha;have:=hA a ha;omega;have:=hC a ha;omega))) s l1' hK2;rw[acI,acI,if_neg (by simp),if_neg (by simp)]at hsp;rw[hf',aC];simp only[acI,abJ,if_false];rw[aA (fun h=>by cases h),aA (fun h=>by cases h),bO]
  have e16:f155 (A.length:Int) (A++C) [(c,n,s)]=some (A++(c,n,s)::C,[(c,n,s)]):=by
   unfold f155;by_cases hc:A.length<(A++C).length
   ·rw[if_pos ⟨by omega,by rw[abE];exact hc,by simp,by simp;simp at hl6;omega⟩,abE];simp
   ·have:C=[]:=by
     cases C with
     |nil=>rfl
     |cons b C=>simp at hc
    subst this;rw[if_neg (by rw[abE];omega)];unfold f155e;rw[adU,aA (by omega),if_neg (by simp),if_pos (by simp),aA (by simp;simp at hl6;omega)]
  refine⟨(l1',A++(c,n,s)::C),s, ?_,hsp,⟨⟨hv',ses_ins hse ⟨c0,c6⟩ hA hC⟩,fun h=>Bool.noConfusion (hg.symm.trans h),fun _ h=>(by simp only at h;rw[hnum]at h;omega),fun _=>(by simp only;rw[oY hA];exact aeI _),fun c'=> ?_⟩⟩
  ·simp only[];rw[f154_eq _ (by omega),aC,bO,e16,aC]
  ·simp only;by_cases hc:c'=c
   ·rw[hc,oY hA,hnum];omega
   ·rw[oX hc];exact aeI _
def qK (m:Mc) (q:Ss):Mc:=let t:=(f62 m.1 m.2 q.1 q.2.1 q.2.2).getD ([],[],[]);(t.1,t.2.1)
theorem stpR_ex {m:Mc} (q:Ss) (hm:McV m):∃s,f123 m.1 m.2 q.1 q.2.1 q.2.2=some ((qK m q).1,(qK m q).2,s)/\f62 m.1 m.2 q.1 q.2.1 q.2.2=some ((qK m q).1,(qK m q).2,s)/\Ap m q (qK m q):=by
 obtain⟨m',s,h1,h2,ha⟩:=sD m q hm
 have e:qK m q=m':=by
  unfold qK;rw[h2];rfl
 rw[e];exact⟨s,h1,h2,ha⟩
open Go
theorem bits_u8 (x y:Int):0<=dU .and .u8 x y/\dU .and .u8 x y<=255:=by
 unfold dU;generalize((BitVec.ofInt IntKind.u8.bits x&&&BitVec.ofInt IntKind.u8.bits y).toNat:Int)=n;unfold IntKind.wrap;simp[IntKind.bits,IntKind.signed];omega
theorem bits_u64 (x y:Int):0<=dU .or .u64 x y/\dU .or .u64 x y<=18446744073709551615:=by
 unfold dU;generalize((BitVec.ofInt IntKind.u64.bits x|||BitVec.ofInt IntKind.u64.bits y).toNat:Int)=n;unfold IntKind.wrap;simp[IntKind.bits,IntKind.signed];omega
theorem or64 (a b:Nat) (ha:a<2^64) (hb:b<2^64):dU .or .u64 (a:Int) (b:Int)=((a|||b:Nat):Int):=by
 have h:(BitVec.ofInt IntKind.u64.bits (a:Int)|||BitVec.ofInt IntKind.u64.bits (b:Int)).toNat=a|||b:=by
  have e:IntKind.u64.bits=64:=rfl;rw[e,BitVec.toNat_or,BitVec.ofInt_natCast,BitVec.ofInt_natCast,BitVec.toNat_ofNat,BitVec.toNat_ofNat,aeT ha,aeT hb]
 unfold dU;simp only[h];have:=Nat.or_lt_two_pow ha hb;exact fR (k:= .u64) (show 0<=((a|||b:Nat):Int)/\((a|||b:Nat):Int)<=18446744073709551615 by omega)
theorem and127 :∀m:Fin 256,dU .and .u8 ((m.val:Nat):Int) 127=((m.val%128:Nat):Int):=by decide+kernel
def chk8 (c:Nat):Option Int->Bool
 |some r=>decide (c<2^r.toNat)&&decide (0<=r)&&decide (r<=8)
 |none=>false
theorem len8 :∀c:Fin 128,chk8 c.val (f192 ((c.val:Nat):Int))=true:=by decide+kernel
theorem len8' (c:Nat) (h:c<128):∃t:Nat,f192 (c:Int)=some (t:Int)/\c<2^t/\t<=8:=by
 have h1:=len8 ⟨c,h⟩;simp only at h1;generalize f192 ((c:Nat):Int)=q at h1
 cases q with
 |none=>cases h1
 |some r=>
  simp only[chk8,aaI,aaY]at h1;obtain⟨⟨h3,h4⟩,h5⟩:=h1;exact⟨r.toNat,by rw[aeH h4],h3,by omega⟩
theorem shl_ok (c t n:Nat) (hc:c<2^t) (h:t+7 *n<=64):c *2^(7 *n)<18446744073709551616:=by
 have h1:c *2^(7 *n)<2^t *2^(7 *n):=Nat.mul_lt_mul_of_pos_right hc (Nat.pow_pos (by decide));rw[<-Nat.pow_add]at h1;have h2:2^(t+7 *n)<=2^64:=aeR (by decide) h;omega
theorem sR (x:aaA) (K:Unit->Option Tq6) (i:Int) (n k c:Nat) (hn:n<min x.length 10) (hx:x.length<=1000000) (hc:(x.getD n 0).toNat=c) (h8:c<128):
  ∃t:Nat,f192 (c:Int)=some (t:Int)/\eA x K (k+1) (i,n)=if 64<t+7 *n then some (0,0,7)else if c=0/\0<n then some (0,0,2)else some (dU .or .u64 i (((c *2^(7 *n):Nat):Int)),((n+1:Nat):Int),0):=by
 obtain⟨t,ht,h1,h2⟩:=len8' c h8;refine⟨t,ht, ?_⟩
 conv=>lhs;unfold eA
 rw[hc,aP (by omega),aA (by omega),aL (by omega),ht,aC,aA (by omega),aA (by omega)];by_cases h64:64<t+7 *n
 ·rw[aP (by omega),if_pos h64]
 ·rw[aL (by omega),if_neg h64];by_cases hz:c=0/\0<n
  ·rw[if_pos (by simp;omega),if_pos hz]
  ·rw[if_neg (by simp;omega),if_neg hz,aA (by omega),aA (by omega)];have hs:=shl_ok c t n h1 (by omega);have hb:IntKind.bits .u64=64:=rfl
   have e:((c:Int) *2^(7 *n))=((c *2^(7 *n):Nat):Int):=by
    rw[Int.natCast_mul,Int.natCast_pow];rfl
   rw[e,aA ⟨by omega,by omega,by omega⟩,aA (by omega)]
theorem aAq (x:aaA) (K:Unit->Option Tq6) (i:Int) (n k c:Nat) (hn:n<min x.length 10) (hx:x.length<=1000000) (hc:(x.getD n 0).toNat=c) (h8:128<=c):
  eA x K (k+1) (i,n)=eA x K k (dU .or .u64 i (IntKind.wrap .u64 (dU .and .u8 (c:Int) 127 *2^min (7 *n) (IntKind.bits .u64))),n+1):=by
 have hb:=bits_u8 (c:Int) 127
 conv=>lhs;unfold eA
 rw[hc,aP (by omega),aA (by omega),aP (by omega),aA (by omega),aA (by omega),aA (by omega)]
theorem get_end (x:aaA) (K:Unit->Option Tq6) (i:Int) (n k:Nat) (hn:¬n<min x.length 10):eA x K (k+1) (i,n)=K ():=by
 conv=>lhs;unfold eA
 rw[aL (by omega)]
theorem nO (x:aaA) (hx:x.length<=1000000) (K:Unit->Option Tq6) (hK:∃e,K ()=some (0,0,e)/\e≠0):∀(c k n:Nat) (i:Int),n+c=min x.length 10->c<k->
  ∃v j e,eA x K k (i,n)=some (v,j,e)/\(e=0->0<=v/\v<=18446744073709551615/\1<=j/\j<=(x.length:Int))
 |0,k,n,i,hn,hk=>by
  obtain⟨k,rfl⟩:∃z,k=z+1:=⟨k-1,by omega⟩
  obtain⟨e,he,h0⟩:=hK
  rw[get_end x K i n k (by omega),he]
  exact⟨0,0,e,rfl,fun h=>absurd h h0⟩
 |c+1,k,n,i,hn,hk=>by
  obtain⟨k,rfl⟩:∃z,k=z+1:=⟨k-1,by omega⟩
  by_cases h8:(x.getD n 0).toNat<128
  ·obtain⟨t,_,h⟩:=sR x K i n k _ (by omega) hx rfl h8
   rw[h]
   split
   ·exact⟨_,_,_,rfl,fun h=>by cases h⟩
   ·split
    ·exact⟨_,_,_,rfl,fun h=>by cases h⟩
    ·have:=bits_u64 i (((x.getD n 0).toNat *2^(7 *n):Nat):Int)
     exact⟨_,_,_,rfl,fun _=>⟨this.1,this.2,by omega,by omega⟩⟩
  ·rw[aAq x K i n k _ (by omega) hx rfl (by omega)]
   exact nO x hx K hK c k (n+1) _ (by omega) (by omega)
theorem wR (x:aaA) (hx:x.length<=1000000):∃v j e,f156 x=some (v,j,e)/\(e=0->0<=v/\v<=18446744073709551615/\1<=j/\j<=(x.length:Int)):=by
 unfold f156;rw[bO];refine nO x hx _ ?_ (min x.length 10) bB 0 0 (by omega) (fuel_lt (by omega));by_cases h:x.length<10
 ·exact⟨9,by rw[aP (by omega)],by decide⟩
 ·exact⟨7,by rw[aL (by omega)],by decide⟩
theorem wQ (n:Nat) (r:aaA) (hn:n<16384) (hx:(dO n++r).length<=1000000):f156 (dO n++r)=some ((n:Int),((dO n).length:Int),0):=by
 obtain⟨k,hk⟩:∃k,bB=k+2:=⟨bB-2,by unfold bB;omega⟩;unfold f156;rw[bO,hk];by_cases h:n<128
 ·rw[eV h]at hx⊢;have e:([UInt8.ofNat n]++r).getD 0 0=UInt8.ofNat n:=rfl;have e2:(([UInt8.ofNat n]++r).getD 0 0).toNat=n:=by rw[e];simp[UInt8.toNat_ofNat'];omega
  obtain⟨t,ht,h1⟩:=sR ([UInt8.ofNat n]++r) (fun(_:Unit)=>if(decide (((([UInt8.ofNat n]++r).length:Nat):Int)<(10:Int)))then some ((0:Int),(0:Int),(9:Int))else some ((0:Int),(0:Int),(7:Int))) 0 0 (k+1) n (by simp;omega) hx e2 h;obtain⟨t',ht',_,h8⟩:=len8' n h;rw[ht]at ht';cases ht';rw[h1,if_neg (by omega),if_neg (by omega)];have:=or64 0 n (by omega) (by omega);rw[Nat.zero_or]at this;simpa using this
 ·rw[lU h,eV (show n/128<128 by omega)]at hx⊢;generalize hy:UInt8.ofNat (n%128+128)::[UInt8.ofNat (n/128)]++r=y at hx⊢;have e0:(y.getD 0 0).toNat=n%128+128:=by rw[<-hy];simp[UInt8.toNat_ofNat'];omega
  have e1:(y.getD 1 0).toNat=n/128:=by rw[<-hy];simp[UInt8.toNat_ofNat'];omega
  have hl:2<=y.length:=by rw[<-hy];simp
  rw[aAq y _ 0 0 (k+1) _ (by omega) hx e0 (by omega)];have ea:=and127 ⟨n%128+128,by omega⟩;simp only at ea;rw[ea];have em:(n%128+128)%128=n%128:=by omega
  have ew:IntKind.wrap .u64 (((n%128+128)%128:Nat) *2^min (7 *0) (IntKind.bits .u64))=((n%128:Nat):Int):=by
   rw[em];have:((2:Int)^min (7 *0) (IntKind.bits .u64))=1:=rfl;rw[this,Int.mul_one];exact fR (k:= .u64) (show 0<=((n%128:Nat):Int)/\((n%128:Nat):Int)<=18446744073709551615 by omega)
  rw[ew];have eo:=or64 0 (n%128) (by omega) (by omega);rw[Nat.zero_or]at eo;have eo':dU .or .u64 0 ((n%128:Nat):Int)=((n%128:Nat):Int):=eo;rw[eo'];obtain⟨t',ht',_,h8⟩:=len8' (n/128) (by omega);obtain⟨t,ht,h1⟩:=sR y (fun(_:Unit)=>if(decide (((y.length:Nat):Int)<(10:Int)))then some ((0:Int),(0:Int),(9:Int))else some ((0:Int),(0:Int),(7:Int))) ((n%128:Nat):Int) 1 k (n/128) (by omega) hx e1 (by omega);rw[ht]at ht';cases ht';rw[h1,if_neg (by omega),if_neg (by omega)];have e3:=or64 (n%128) (n/128 *2^(7 *1)) (by omega) (by omega)
  have e4:(n%128|||n/128 *2^(7 *1))=n:=by
   have:=Nat.two_pow_add_eq_or_of_lt (i:=7) (b:=n%128) (by omega) (n/128);rw[Nat.or_comm,show n/128 *2^(7 *1)=2^7 *(n/128) by omega,<-this];omega
  rw[e3,e4];rfl
theorem f126_some (x:aaA) (hx:x.length<=1000000):∃s j e,f126 x=some (s,j,e)/\(e=0->1<=j/\j<=(x.length:Int)/\s.length<=x.length):=by
 obtain⟨v,j,e,h,hb⟩:=wR x hx;unfold f126;rw[h,aC];by_cases he:e=0
 ·subst he;obtain⟨h1,h2,h3,h4⟩:=hb rfl;rw[if_neg (by simp)];dsimp only;rw[aA (by omega),aA (by omega)];by_cases hv:v>(x.length:Int)-j
  ·rw[aP hv];exact⟨_,_,_,rfl,fun h=>by cases h⟩
  ·rw[aL hv,aA (by omega),aA (by omega),aA (by omega)];refine⟨_,_,_,rfl,fun _=>⟨by omega,by omega, ?_⟩⟩;simp only[aaZ,abG];omega
 ·rw[if_pos (by simpa using he)];exact⟨_,_,_,rfl,fun h=>absurd h he⟩
def item (s:aaA):aaA:=dO s.length++s
theorem f126_item (s r:aaA) (hs:s.length<16384) (hx:(item s++r).length<=1000000):f126 (item s++r)=some (s,((item s).length:Int),0):=by
 unfold item at hx⊢;rw[acA]at hx⊢;unfold f126;rw[wQ s.length (s++r) hs hx,aC];have hl:(dO s.length++(s++r)).length=(dO s.length).length+(s.length+r.length):=by simp
 have hl2:(dO s.length++s).length=(dO s.length).length+s.length:=by simp
 rw[if_neg (by simp)];dsimp only;rw[aA (by omega),aA (by omega),aL (by omega),aA (by omega),aA (by omega),aA (by omega)];have e:((dO s.length).length:Int)+(s.length:Int)=(((dO s.length).length+s.length:Nat):Int):=by omega
 rw[e,abE,abE,<-acA,<-hl2,aeA,agM]
def fK (L:List Ty1):aaA:=(L.map item).flatten
theorem gP (L:List Ty1):cR L=dO L.length++fK L:=rfl
theorem cM (s:aaA) (L:List Ty1):fK (s::L)=item s++fK L:=rfl
theorem wX (x:aaA) (hx:x.length<=1000000) (r2:Tq6) (K:Int×List Ty1->Option (Int×Int×List Ty1)) (hK:∀i l,∃j e l',K (i,l)=some (j,e,l')/\l'=l):
  ∀(c k i n:Nat) (l:List Ty1),i+c=x.length->c<k->n<=i->l.length=n->(∀s,s∈l->s.length<=x.length)->∃j e l',eK x r2 K k ((i:Int),n,l)=some (j,e,l')/\(∀s,s∈l'->s.length<=x.length)/\l'.length<=x.length:=by
 intro c
 induction c using Nat.strongRecOn with
 |ind c ih=>
  intro k i n l hi hk hn hl hs;obtain⟨k,rfl⟩:∃z,k=z+1:=⟨k-1,by omega⟩;by_cases hr:(n:Int)<r2.1
  ·obtain⟨s,j,e,h,hb⟩:=f126_some (x.drop i) (by rw[aaZ];omega);rw[aaZ]at hb
   have hu:eK x r2 K (k+1) ((i:Int),n,l)=if(e !=0)=true then some (0,e,[])else chk ((l.length+1) *16<=140737488355328) (chk (-9223372036854775808<=(i:Int)+j/\(i:Int)+j<=9223372036854775807) (chk ((n:Int)+1<=18446744073709551615) (eK x r2 K k ((i:Int)+j,n+1,l++[s])))):=by
    conv=>lhs;unfold eK
    rw[aP hr,abE,h,aC,aA (by omega)]
   rw[hu];by_cases he:e=0
   ·subst he;obtain⟨h1,h2,h3⟩:=hb rfl;rw[if_neg (by simp),aA (by omega),aA (by omega),aA (by omega)];obtain⟨m,rfl⟩:∃m:Nat,j=m:=⟨j.toNat,by omega⟩
    have := ih (c - m) (by omega) k (i + m) (n + 1) (l ++ [s]) (by omega) (by omega) (by omega) (by simp [hl]) (fun t ht=>by
     rcases abN.1 ht with ht|ht
     ·exact hs t ht
     ·simp only[acU]at ht;subst ht;omega)
    simpa using this
   ·rw[if_pos (by simpa using he)];exact⟨_,_,_,rfl,by simp,by simp⟩
  ·obtain⟨j,e,l',h,rfl⟩:=hK i l;refine⟨j,e,l', ?_,hs,by omega⟩
   conv=>lhs;unfold eK
   rw[aL hr];exact h
theorem f96_some (x:aaA) (hx:x.length<=1000000):∃j e l,f96 x=some (j,e,l)/\(∀s,s∈l->s.length<=x.length)/\l.length<=x.length:=by
 obtain⟨v,j,e,h,hb⟩:=wR x hx
 have h119:∃j e l,f125 x=some (j,e,l)/\(∀s,s∈l->s.length<=x.length)/\l.length<=x.length:=by
  unfold f125;rw[h,aC];by_cases he:e=0
  ·subst he;obtain⟨h1,h2,h3,h4⟩:=hb rfl;rw[if_neg (by simp),bO];obtain⟨m,rfl⟩:∃m:Nat,j=m:=⟨j.toNat,by omega⟩;exact wX x hx _ _ (fun i l=>⟨i,0,l,rfl,rfl⟩) (x.length-m) bB m 0 [] (by omega) (fuel_lt (by omega)) (by omega) rfl (by simp)
  ·rw[if_pos (by simpa using he)];exact⟨_,_,_,rfl,by simp,by simp⟩
 obtain⟨j,e,l,h,hs⟩:=h119;unfold f96;rw[h];exact⟨j,e,l,rfl,hs⟩
theorem sF (n:Nat):1<=(dO n).length:=by
 rw[dO];split<;>simp
theorem item_pos (s:aaA):1<=(item s).length:=by
 unfold item;have:=sF s.length;rw[aaH];omega
theorem lQ (x:aaA) (hx:x.length<=1000000) (r2:Tq6) (K:Int×List Ty1->Option (Int×Int×List Ty1)) (L:List Ty1) (hr:r2.1=(L.length:Int)):
  ∀(M:List Ty1) (A:aaA) (D:List Ty1) (k:Nat),(∀s,s∈M->s.length<16384)->x=A++fK M->L=D++M->D.length<=A.length->M.length<k->eK x r2 K k ((A.length:Int),D.length,D)=K ((x.length:Int),L)
 |[],A,D,k,_,hxe,hL,_,hk=>by
  obtain⟨k,rfl⟩:∃z,k=z+1:=⟨k-1,by omega⟩
  have e1:x.length=A.length:=by rw[hxe];simp[fK]
  have e2:L=D:=by rw[hL];simp
  conv=>lhs;unfold eK
  rw[aL (by rw[hr,e2];omega),e1,e2]
 |s::M,A,D,k,hM,hxe,hL,hD,hk=>by
  obtain⟨k,rfl⟩:∃z,k=z+1:=⟨k-1,by omega⟩
  simp only[aaS]at hk
  have hl:L.length=D.length+(M.length+1):=by rw[hL];simp
  have e1:x.drop A.length=item s++fK M:=by rw[hxe,agM,cM]
  have hxl:x.length=A.length+((item s).length+(fK M).length):=by rw[hxe,cM];simp
  have h:=f126_item s (fK M) (hM s (aaR ..)) (by rw[<-e1,aaZ];omega)
  have hp:=item_pos s
  have ih := lQ x hx r2 K L hr M (A ++ item s) (D ++ [s]) k (fun t ht => hM t (aaQ _ ht)) (by rw [hxe, cM]; simp) (by rw [hL]; simp) (by
   simp only[aaH,acJ]
   omega) (by omega)
  conv=>lhs;unfold eK
  rw[aP (by rw[hr];omega),abE,e1,h,aC,aA (by omega),if_neg (by simp)]
  dsimp only
  rw[aA (by omega),aA (by omega),aA (by omega),<-ih]
  simp
theorem f96_plist (L:List Ty1) (hL:L.length<16384) (hs:∀s,s∈L->s.length<16384) (hx:(cR L).length<=1000000):f96 (cR L)=some (((cR L).length:Int),0,L):=by
 have h119:f125 (cR L)=some (((cR L).length:Int),0,L):=by
  unfold f125;rw[gP]at hx⊢;rw[wQ L.length (fK L) hL hx,aC,if_neg (by simp),bO];exact lQ (dO L.length++fK L) hx ((L.length:Int),((dO L.length).length:Int),0) _ L rfl L (dO L.length) [] bB hs rfl rfl (abM _) (fuel_lt (by omega))
 unfold f96;rw[h119];rfl
open Go
abbrev Ent :=Int×Int×List Ss×Int
def errE :Ent:=((0:Int),(0:Int),[],(2:Int))
def nS :aaA:=[106,111,105,110]
def flt (l:List Ss):List Ty1:=l.flatMap fun q=>[Lib.itoa q.1,Lib.itoa q.2.1,q.2.2]
def strs (k c:Int) (l:List Ss):List Ty1:=if k=2 then[nS,Lib.itoa c]else if k=3 then[cs1]else cs2::flt l
def xQ (l:List Ss) (i:Nat):Bool:=kV (l.getD i default)&& !((l.take i).any fun p=>p.1==(l.getD i default).1&&p.2.1==(l.getD i default).2.1)
def okRs (l:List Ss):Prop:=∀i,i<l.length->xQ l i=true
def okE (k c:Int) (l:List Ss):Prop:=(k=1/\c=0/\l.length<=8/\okRs l)\/(k=2/\0<=c/\c<6/\l=[])\/(k=3/\c=0/\l=[])
theorem aAp (c n:Int) (op:aaA):kV (c,n,op)=true↔(0<=c/\c<6/\1<=n/\n<=1000000/\op≠[]/\op.length<=200):=by
 unfold kV;simp only[aaI,aaY,adH,beq_eq_false_iff_ne];constructor
 ·rintro⟨⟨⟨⟨⟨h1,h2⟩,h3⟩,h4⟩,h5⟩,h6⟩;exact⟨h1,h2,h3,h4,h5,by omega⟩
 ·rintro⟨h1,h2,h3,h4,h5,h6⟩;exact⟨⟨⟨⟨⟨h1,h2⟩,h3⟩,h4⟩,h5⟩,by omega⟩
theorem jQ {l:List Ss} (h:okRs l):∀q,q∈l->kV q=true:=by
 intro q hq;obtain⟨i,hi,rfl⟩:=afT.1 hq;have:=h i hi;unfold xQ at this;simp only[aaI]at this;have e:l.getD i default=l[i]:=by simp[aaC,hi]
 rw[e]at this;exact this.1
theorem kK (l:List Ss):(flt l).length=3 *l.length:=by
 unfold flt
 induction l with
 |nil=>rfl
 |cons a l ih=>simp[ih];omega
theorem oC (q:Ss) (l:List Ss):flt (q::l)=Lib.itoa q.1::Lib.itoa q.2.1::q.2.2::flt l:=rfl
theorem itoa1 (n:Int) (h0:0<=n) (h1:n<10):(Lib.itoa n).length=1:=by
 rw[Lib.itoa,if_neg (by omega),Lib.decDigits,dif_pos (by omega)];rfl
theorem flt_small {l:List Ss} (h:∀q,q∈l->kV q=true):∀s,s∈flt l->s.length<=200:=by
 intro s hs;unfold flt at hs;obtain⟨q,hq,hs⟩:=List.mem_flatMap.1 hs;have hg:=fT (h q hq);simp only[abB,aeJ,or_false]at hs;rcases hs with rfl|rfl|rfl
 ·have:=itoa1 q.1 (by omega) (by omega);omega
 ·have:=pE q.2.1 (by omega) (by omega);omega
 ·omega
theorem jK {k c:Int} {l:List Ss} (h:okE k c l):(∀s,s∈strs k c l->s.length<=200)/\(strs k c l).length<=25/\0<(strs k c l).length:=by
 rcases h with⟨rfl,rfl,h1,h2⟩|⟨rfl,h1,h2,rfl⟩|⟨rfl,rfl,rfl⟩
 ·rw[strs,if_neg (by decide),if_neg (by decide)];refine⟨fun s hs=> ?_,by rw[aaS,kK];omega,by simp⟩;rcases abB.1 hs with rfl|hs
  ·decide
  ·exact flt_small (jQ h2) s hs
 ·rw[strs,if_pos rfl];refine⟨fun s hs=> ?_,by simp,by simp⟩;simp only[abB,aeJ,or_false]at hs;rcases hs with rfl|rfl
  ·decide
  ·have:=itoa1 c (by omega) (by omega);omega
 ·rw[strs,if_neg (by decide),if_pos rfl];exact⟨fun s hs=>by simp only[acU]at hs;subst hs;decide,by simp,by simp⟩
theorem items_len (L:List Ty1) (b:Nat) (hb:b<16384) (h:∀s,s∈L->s.length<=b):(fK L).length<=L.length *(b+2):=by
 induction L with
 |nil=>simp[fK]
 |cons s L ih=>
  have h1:=ih fun t ht=>h t (aaQ _ ht);have h2:=h s (aaR ..);have h3:=dQ 1 s.length (by omega);rw[cM,aaH,item,aaH,aaS,abZ];omega
theorem oV (L:List Ty1) (b:Nat) (hb:b<16384) (hl:L.length<16384) (h:∀s,s∈L->s.length<=b):(cR L).length<=2+L.length *(b+2):=by
 have h1:=items_len L b hb h;have h2:=dQ 1 L.length (by omega);rw[gP,aaH];omega
theorem flt_items {l:List Ss} (h:∀q,q∈l->kV q=true):(fK (flt l)).length<=l.length *212:=by
 induction l with
 |nil=>simp[fK,flt]
 |cons q l ih=>
  have h1:=ih fun t ht=>h t (aaQ _ ht);have hg:=fT (h q (aaR ..));have a1:=itoa1 q.1 (by omega) (by omega);have a2:=pE q.2.1 (by omega) (by omega);have v1:=dQ 0 (Lib.itoa q.1).length (by omega);have v2:=dQ 0 (Lib.itoa q.2.1).length (by omega);have v3:=dQ 1 q.2.2.length (by omega);rw[oC,cM,cM,cM];simp only[aaH,item,aaS];omega
theorem sG {k c:Int} {l:List Ss} (h:okE k c l):(cR (strs k c l)).length<=2000:=by
 rcases h with⟨rfl,rfl,h1,h2⟩|⟨rfl,h1,h2,rfl⟩|⟨rfl,rfl,rfl⟩
 ·rw[strs,if_neg (by decide),if_neg (by decide),gP,cM];have:=flt_items (jQ h2);have hl:(cs2::flt l).length=1+3 *l.length:=by rw[aaS,kK];omega
  have v:=dQ 0 (cs2::flt l).length (by omega)
  have e:(item cs2).length=6:=by
   have:cs2.length=5:=rfl;rw[item,aaH,this,eV (by decide)];rfl
  simp only[aaH];omega
 ·rw[strs,if_pos rfl]
  have := oV [nS, Lib.itoa c] 200 (by omega) (by simp) (fun s hs=>by
   simp only[abB,aeJ,or_false]at hs;rcases hs with rfl|rfl
   ·decide
   ·have:=itoa1 c (by omega) (by omega);omega)
  simp only[aaS,abT]at this;omega
 ·rw[strs,if_neg (by decide),if_pos rfl];have:=oV [cs1] 200 (by omega) (by simp) (fun s hs=>by simp only[acU]at hs;subst hs;decide);simp only[aaS,abT]at this;omega
theorem rY (x:List Ss) (hl:x.length<=1000000) (c m:Int) (s:aaA) (K:Int×Int×aaA->Option (Int×Int×Int×aaA)):∀(d k n:Nat),n+d=x.length->d<k->
  ((x.drop n).any (fun p=>p.1==c&&p.2.1==m)=true->∃i:Nat,fH x K k (n,c,m,s)=some ((i:Int),c,m,s))/\((x.drop n).any (fun p=>p.1==c&&p.2.1==m)=false->fH x K k (n,c,m,s)=K (c,m,s))
 |0,k,n,hn,hk=>by
  obtain⟨k,rfl⟩:∃z,k=z+1:=⟨k-1,by omega⟩
  rw[abA (by omega)]
  refine⟨fun h=>by simp at h,fun _=> ?_⟩
  conv=>lhs;unfold fH
  rw[aL (by omega)]
 |d+1,k,n,hn,hk=>by
  obtain⟨k,rfl⟩:∃z,k=z+1:=⟨k-1,by omega⟩
  obtain⟨i1,i2⟩:=rY x hl c m s K d k (n+1) (by omega) (by omega)
  have e:fH x K (k+1) (n,c,m,s)=if((x.getD n default).1==c&&(x.getD n default).2.1==m)=true then some ((n:Int),c,m,s)else fH x K k (n+1,c,m,s):=by
   conv=>lhs;unfold fH
   rw[aP (by omega)]
   unfold f196 f197
   simp only[aC]
   rw[aA (by omega),aA (by omega)]
  rw[e,getD_drop x n default (by omega),acO]
  cases h:((x.getD n default).1==c&&(x.getD n default).2.1==m)
  ·simp only[adC,abJ,if_false]
   exact⟨i1,i2⟩
  ·refine⟨fun _=>⟨n,by simp⟩,fun h=>by simp at h⟩
theorem f162_eq (x:List Ss) (hl:x.length<=1000000) (c m:Int) (s:aaA):f162 x c m s=some (x.any (fun p=>p.1==c&&p.2.1==m)):=by
 unfold f162 f69 f100;rw[bO];obtain⟨h1,h2⟩:=rY x hl c m s (fun((i10,i11,s12):Tq0)=>some ((-1:Int),i10,i11,s12)) x.length bB 0 (by omega) (fuel_lt (by omega));rw[abW]at h1 h2;cases h:x.any (fun p=>p.1==c&&p.2.1==m)
 ·rw[h2 h];rfl
 ·obtain⟨i,hi⟩:=h1 h;rw[hi];simp[aC]
theorem rT (x:List Ss) (hl:x.length<=1000000):∀(d k n:Nat),n+d=x.length->d<k->∃v,gU x (fun _=>some 0) k n=some v/\(v=0↔∀i,n<=i->i<x.length->xQ x i=true)
 |0,k,n,hn,hk=>by
  obtain⟨k,rfl⟩:∃z,k=z+1:=⟨k-1,by omega⟩
  refine⟨0, ?_,by simp;omega⟩
  conv=>lhs;unfold gU
  rw[aL (by omega)]
 |d+1,k,n,hn,hk=>by
  obtain⟨k,rfl⟩:∃z,k=z+1:=⟨k-1,by omega⟩
  obtain⟨v,hv,hi⟩:=rT x hl d k (n+1) (by omega) (by omega)
  have hg:=aAp (x.getD n default).1 (x.getD n default).2.1 (x.getD n default).2.2
  have bad:xQ x n=false->∀w:Int,w≠0->(w=0↔∀i,n<=i->i<x.length->xQ x i=true):=fun h w hw=>
   ⟨fun e=>absurd e hw,fun h'=>by have:=h' n (abD _) (by omega);rw[h]at this;cases this⟩
  have gbad:kV (x.getD n default)≠true->xQ x n=false:=fun h=>by
   unfold xQ
   simp only[Bool.not_eq_true]at h
   rw[h,acI]
  conv=>enter [1,v,1,1];unfold gU
  rw[aP (by omega),aA (by omega)]
  generalize hq:x.getD n default=q at *
  by_cases h1:0<=q.1/\q.1<6/\1<=q.2.1/\q.2.1<=1000000
  ·rw[if_neg (by simp;omega)]
   by_cases h2:q.2.2=[]
   ·rw[if_pos (by simp[h2])]
    exact⟨_,rfl,bad (gbad fun h=>(hg.1 h).2.2.2.2.1 h2) _ (by decide)⟩
   ·rw[if_neg (by simpa using h2)]
    by_cases h3:q.2.2.length<=200
    ·rw[aL (by omega),f162_eq _ (by rw[abG];omega),aC,aA (by omega)]
     have hgd:kV q=true:=hg.2 ⟨h1.1,h1.2.1,h1.2.2.1,h1.2.2.2,h2,h3⟩
     cases ha:(x.take n).any (fun p=>p.1==q.1&&p.2.1==q.2.1)
     ·rw[if_neg (by simp),aA (by omega)]
      refine⟨v,hv,hi.trans ⟨fun h i h4 h5=> ?_,fun h i h4 h5=>h i (by omega) h5⟩⟩
      by_cases hin:i=n
      ·subst hin
       unfold xQ
       rw[hq,hgd,ha]
       rfl
      ·exact h i (by omega) h5
     ·rw[if_pos rfl]
      exact⟨_,rfl,bad (by unfold xQ;rw[hq,ha];simp) _ (by decide)⟩
    ·rw[aP (by omega)]
     exact⟨_,rfl,bad (gbad fun h=>h3 (hg.1 h).2.2.2.2.2) _ (by decide)⟩
  ·rw[if_pos (by simp;omega)]
   exact⟨_,rfl,bad (gbad fun h=>h1 (by have:=hg.1 h;omega)) _ (by decide)⟩
theorem f98_eq (k c:Int) (l:List Ss) (hl:l.length<=1000000):∃v,f98 k c l=some v/\(v=0↔okE k c l):=by
 unfold f98 okE;by_cases h1:k=1
 ·subst h1;rw[if_pos (by decide)];by_cases hc:c=0
  ·rw[if_neg (by simp[hc])];by_cases h8:l.length<=8
   ·rw[aL (by omega)];obtain⟨v,hv,hi⟩:=rT l hl l.length bB 0 (by omega) (fuel_lt (by omega))
    have h136:f129 l=some v:=by
     unfold f129;rw[bO];exact hv
    rw[h136];refine⟨v,rfl,hi.trans ⟨fun h=> .inl ⟨rfl,hc,h8,fun i h2=>h i (abM _) h2⟩, ?_⟩⟩;rintro(⟨_,_,_,h⟩|⟨h,_⟩|⟨h,_⟩)
    ·exact fun i _ h2=>h i h2
    ·omega
    ·omega
   ·rw[aP (by omega)];exact⟨_,rfl,by simp;omega⟩
  ·rw[if_pos (by simpa using hc)];exact⟨_,rfl,by simp;omega⟩
 ·rw[if_neg (by simpa using h1)];have hn:l=[]↔l.length=0:=List.length_eq_zero_iff.symm;by_cases h2:k=2
  ·subst h2;rw[if_pos (by decide)];by_cases h3:0<=c/\c<6/\l=[]
   ·rw[if_neg (by rw[h3.2.2];simp;omega)];exact⟨_,rfl,by simp[h3]⟩
   ·rw[if_pos (by rw[hn]at h3;simp only[abS,aaY];omega)]
    exact ⟨_,rfl,fun h=>absurd h (by decide),fun h=>by
     rcases h with⟨h,_⟩|⟨_,h5,h6,h7⟩|⟨h,_⟩
     ·omega
     ·exact absurd ⟨h5,h6,h7⟩ h3
     ·omega⟩
  ·rw[if_neg (by simpa using h2)];by_cases h3:k=3
   ·subst h3;rw[if_pos (by decide)];by_cases h4:c=0/\l=[]
    ·rw[if_neg (by rw[h4.2];simp;omega)];exact⟨_,rfl,by simp[h4]⟩
    ·rw[if_pos (by rw[hn]at h4;simp only[abS,bne_iff_ne,aaY];omega)]
     exact ⟨_,rfl,fun h=>absurd h (by decide),fun h=>by
      rcases h with⟨h,_⟩|⟨h,_⟩|⟨_,h5,h6⟩
      ·omega
      ·omega
      ·exact absurd ⟨h5,h6⟩ h4⟩
   ·rw[if_neg (by simpa using h3)];exact⟨_,rfl,by simp;omega⟩
theorem f58_eq (n:Int) (h: -9223372036854775808<=n/\n<=9223372036854775807):f58 n=some (Lib.itoa n):=by
 unfold f58 itoaO;rw[if_pos h]
theorem zJ (L:List Ty1) (h:(cR L).length<=1000000) (hl:L.length<=1000000):f130 L=some (cR L):=by
 unfold f130 aAj;rw[if_pos (by omega)]
theorem vO (x:List Ss) (hl:x.length<=8) (hx:∀q,q∈x->kV q=true) (K:List Ty1->Option Ty1):∀(d k n:Nat) (a:List Ty1),n+d=x.length->d<k->a.length<=1+3 *n->mW x K k (n,a)=K (a++flt (x.drop n))
 |0,k,n,a,hn,hk,ha=>by
  obtain⟨k,rfl⟩:∃z,k=z+1:=⟨k-1,by omega⟩
  rw[abA (by omega)]
  conv=>lhs;unfold mW
  rw[aL (by omega)]
  simp[flt]
 |d+1,k,n,a,hn,hk,ha=>by
  obtain⟨k,rfl⟩:∃z,k=z+1:=⟨k-1,by omega⟩
  have hg:=fT (hx _ (bQ x n default (by omega)))
  have ih:=vO x hl hx K d k (n+1) (a++[Lib.itoa (x.getD n default).1,Lib.itoa (x.getD n default).2.1,(x.getD n default).2.2]) (by omega) (by omega) (by simp;omega)
  conv=>lhs;unfold mW
  rw[aP (by omega),aA (by omega),f58_eq _ (by omega),aC,f58_eq _ (by omega),aC,aA (by omega),aA (by omega),ih,getD_drop x n default (by omega),oC]
  simp
theorem f99_eq {k c:Int} {l:List Ss} (h:okE k c l):f99 k c l=some (cR (strs k c l)):=by
 have hl:=sG h;have hs:=jK h;rcases h with⟨rfl,rfl,h1,h2⟩|⟨rfl,h1,h2,rfl⟩|⟨rfl,rfl,rfl⟩
 ·have e:strs 1 0 l=cs2::flt l:=by rw[strs,if_neg (by decide),if_neg (by decide)]
  rw[e]at hl hs⊢;unfold f99;rw[if_neg (by decide),if_neg (by decide),bO,vO l h1 (jQ h2) _ l.length bB 0 [cs2] (by omega) (fuel_lt (by omega)) (by simp),abW];rw[afP,zJ _ (by omega) (by omega)];rfl
 ·have e:strs 2 c []=[nS,Lib.itoa c]:=by rw[strs,if_pos rfl]
  rw[e]at hl hs⊢;unfold f99;rw[if_pos (by decide),f58_eq _ (by omega),aC];have:=zJ [nS,Lib.itoa c] (by omega) (by omega);unfold nS at this⊢;rw[this];rfl
 ·have e:strs 3 0 []=[cs1]:=by rw[strs,if_neg (by decide),if_pos rfl]
  rw[e]at hl hs⊢;unfold f99;rw[if_neg (by decide),if_pos (by decide),zJ _ (by omega) (by omega)];rfl
open Classical in
theorem tail_eq (x:aaA) (n c:Int) (l:List Ss) (hl:l.length<=1000000):
  ((f98 n c l).bind fun(r11:Int)=>
   gB ((r11 !=(0:Int))==false) (f99 n c l) fun(r12:aaA)=>
   if((r11 !=(0:Int))||(!(r12==x)))then some ((0:Int),(0:Int),([]:List Ss),(2:Int))else some (n,c,l,(0:Int)))=some (if okE n c l/\cR (strs n c l)=x then(n,c,l,0)else errE):=by
 obtain⟨v,hv,hi⟩:=f98_eq n c l hl;rw[hv,aC];by_cases h:v=0
 ·have hE:=hi.1 h;subst h;rw[f99_eq hE];rw[show(((0:Int) !=0)==false)=true from rfl,hJ,aC];by_cases he:cR (strs n c l)=x
  ·rw[if_neg (by simp[he]),if_pos ⟨hE,he⟩]
  ·rw[if_pos (by simp[he]),if_neg (fun h=>he h.2)];rfl
 ·have hE:¬okE n c l:=fun hE=>h (hi.2 hE);have e:((v !=(0:Int))==false)=false:=by simpa using h
  rw[e,iO,if_pos (by simp[h]),if_neg (fun h=>hE h.1)];rfl
open Go
theorem yQ (K:Nat×Int×List Ss->Option Ent):∀(d k:Nat) (L:List Ty1) (a:List Ss),L.length<=d->d<k->(∀s,s∈L->s.length<=1000000)->L.length<=1000000->a.length+L.length<=1000000->∃l,l.length<=1000000/\hU K k (L,a)=K (1,0,l):=by
 intro d
 induction d with
 |zero=>
  intro k L a hL hk _ _ ha;obtain⟨k,rfl⟩:∃z,k=z+1:=⟨k-1,by omega⟩;refine⟨a,by omega, ?_⟩
  conv=>lhs;unfold hU
  rw[aL (by omega)]
 |succ d ih=>
  intro k L a hL hk hs hl ha;obtain⟨k,rfl⟩:∃z,k=z+1:=⟨k-1,by omega⟩;by_cases h3:3<=L.length
  ·obtain⟨v0,b0,h0,_⟩:=mJ (L.getD 0 []) (by have:=hs _ (bQ L 0 [] (by omega));omega);obtain⟨v1,b1,h1,_⟩:=mJ (L.getD 1 []) (by have:=hs _ (bQ L 1 [] (by omega));omega);obtain⟨l,hl2,h⟩:=ih k (L.drop 3) (a++[(v0,v1,L.getD 2 [])]) (by rw[aaZ];omega) (by omega) (fun s hs'=>hs s (acH hs')) (by rw[aaZ];omega) (by rw[aaZ,aaH];simp only[acJ];omega);refine⟨l,hl2, ?_⟩
   conv=>lhs;unfold hU
   unfold f97;rw[aP (by omega),h0,aC,aA (by omega),h1,aC,aA (by omega),aA (by omega),aA (by omega),aA (by omega)];exact h
  ·refine⟨a,by omega, ?_⟩
   conv=>lhs;unfold hU
   rw[aL (by omega)]
theorem rN (K:Nat×Int×List Ss->Option Ent):∀(l a:List Ss) (k:Nat),l.length<k->(∀q,q∈l->kV q=true)->a.length+l.length<=1000->hU K k (flt l,a)=K (1,0,a++l)
 |[],a,k,hk,_,_=>by
  obtain⟨k,rfl⟩:∃z,k=z+1:=⟨k-1,by omega⟩
  conv=>lhs;unfold hU
  rw[aL (by simp[flt]),adU]
 |(c,n,s)::l,a,k,hk,hg,ha=>by
  obtain⟨k,rfl⟩:∃z,k=z+1:=⟨k-1,by omega⟩
  simp only[aaS]at hk ha
  have h:=fT (hg _ (aaR ..))
  simp only at h
  have ih:=rN K l (a++[(c,n,s)]) k (by omega) (fun q hq=>hg q (aaQ _ hq)) (by simp;omega)
  conv=>lhs;unfold hU
  unfold f97
  rw[oC]
  simp only[abH,abP,aaS,afI,abW]
  rw[aP (by omega),mK c (by omega) (by omega),aC,aA (by omega),mK n (by omega) (by omega),aC,aA (by omega),aA (by omega),aA (by omega),aA (by omega),ih]
  simp
open Classical in
theorem f68_hit {k c:Int} {l:List Ss} (h:okE k c l):f68 (cR (strs k c l))=some (k,c,l,0):=by
 have hl:=sG h;have hs:=jK h;have h84:=f96_plist (strs k c l) (by omega) (fun s hs'=>by have:=hs.1 s hs';omega) (by omega)
 have key : ∀ n : Nat, k = (n : Int) -> l.length <= 1000000 -> ((f98 (n:Int) c l).bind fun(r11:Int)=>
   gB ((r11 !=(0:Int))==false) (f99 (n:Int) c l) fun(r12:aaA)=>
   if((r11 !=(0:Int))||(!(r12==cR (strs k c l))))then some ((0:Int),(0:Int),([]:List Ss),(2:Int))else some ((n:Int),c,l,(0:Int)))=some (k,c,l,0):=by
  intro n hn hl1;subst hn;rw[tail_eq _ _ _ _ hl1,if_pos ⟨h,rfl⟩]
 unfold f68;rw[h84,aC];dsimp only;rw[if_neg (by simp;intro e;rw[e]at hs;simp at hs),aA (by omega),bO,aA (by omega)];rcases h with⟨rfl,rfl,h1,h2⟩|⟨rfl,h1,h2,rfl⟩|⟨rfl,rfl,rfl⟩
 ·have e:strs 1 0 l=cs2::flt l:=by rw[strs,if_neg (by decide),if_neg (by decide)]
  generalize hx:cR (strs 1 0 l)=x at *;rw[e]at *;rw[if_neg (by simp;intro h;exact absurd h (by decide)),aA (by simp),if_neg (by simp;decide),afI,abW];rw[rN _ l [] bB (fuel_lt (by omega)) (jQ h2) (by simp;omega),aeP];exact key 1 rfl (by omega)
 ·have e:strs 2 c []=[nS,Lib.itoa c]:=by rw[strs,if_pos rfl]
  generalize hx:cR (strs 2 c [])=x at *;rw[e]at *;unfold f97;rw[if_pos (by rfl)];simp only[afI,abW,abH];rw[mK c (by omega) (by omega),aC,aA (by simp)];exact key 2 rfl (by simp)
 ·have e:strs 3 0 []=[cs1]:=by rw[strs,if_neg (by decide),if_pos rfl]
  generalize hx:cR (strs 3 0 [])=x at *;rw[e]at *;rw[if_neg (by decide),aA (by simp),if_pos (by rfl)];exact key 3 rfl (by simp)
open Classical in
theorem aAB (x:aaA) (hx:x.length<=1000000) (h:∀k c l,okE k c l->cR (strs k c l)≠x):f68 x=some errE:=by
 obtain⟨j,e,L,h84,hs,hl⟩:=f96_some x hx
 have key : ∀ (n : Nat) c l, l.length <= 1000000 -> ((f98 (n:Int) c l).bind fun(r11:Int)=>
   gB ((r11 !=(0:Int))==false) (f99 (n:Int) c l) fun(r12:aaA)=>
   if((r11 !=(0:Int))||(!(r12==x)))then some ((0:Int),(0:Int),([]:List Ss),(2:Int))else some ((n:Int),c,l,(0:Int)))=some errE:=by
  intro n c l hl1;rw[tail_eq _ _ _ _ hl1,if_neg (fun hh=>h _ _ _ hh.1 hh.2)]
 unfold f68;rw[h84,aC];dsimp only;by_cases h0:((e !=0)||(((L.length:Nat):Int)==0))=true
 ·rw[if_pos h0];rfl
 ·have hL:1<=L.length:=by
   simp only[abS,bne_iff_ne,abY]at h0;omega
  rw[if_neg h0,aA (by omega),bO,aA (by omega)];by_cases h1:((L.getD 0 []==([106,111,105,110]:aaA))&&((((L.drop 1).length:Nat):Int)==1))=true
  ·rw[if_pos h1]
   have h1':(L.drop 1).length=1:=by
    simp only[aaI,abY]at h1;omega
   obtain⟨v0,b0,h0,_⟩:=mJ ((L.drop 1).getD 0 []) (by have:=hs _ (acH (bQ (L.drop 1) 0 [] (by omega)));omega);unfold f97;rw[h0,aC,aA (by omega)];exact key 2 _ _ (by simp)
  ·rw[if_neg h1,aA (by omega)];by_cases h2:(L.getD 0 []==cs1)=true
   ·rw[if_pos h2];exact key 3 _ _ (by simp)
   ·rw[if_neg h2];obtain⟨l,hl2,e2⟩:=yQ _ (L.drop 1).length bB (L.drop 1) [] (abD _) (fuel_lt (by rw[aaZ];omega)) (fun s hs'=>by have:=hs s (acH hs');omega) (by rw[aaZ];omega) (by rw[aaZ];simp;omega);rw[e2];exact key 1 _ _ hl2
open Go
theorem wZ (n:Nat) (hn:n<16384):aB3 bB (n:Int)=some (dO n):=by
 obtain⟨k,hk⟩:∃k,bB=k+2:=⟨bB-2,by unfold bB;omega⟩;rw[hk];by_cases h:n<128
 ·rw[jS n h (k+1),eV h]
 ·have e1:(n:Int)/128=((n/128:Nat):Int):=by omega
  conv=>lhs;unfold aB3
  rw[aL (by omega),e1,jS (n/128) (by omega) k,aC,aA (by omega),aA (by omega),aA (by omega),aA (by omega),aA (by simp),lU h,eV (show n/128<128 by omega)];have e2:((n:Int)%128+128).toNat=n%128+128:=by omega
  rw[e2];rfl
theorem vT (x:List Ty1) (hx:∀s,s∈x->s.length<=200) (hl:x.length<=25) (K:aaA->Option Ty1):∀c k n s,n+c=x.length->c<k->s.length<=2+202 *n->iV x K k (s,n)=K (s++fK (x.drop n))
 |0,k,n,s,hn,hk,hs=>by
  obtain⟨k,rfl⟩:∃z,k=z+1:=⟨k-1,by omega⟩
  rw[abA (by omega)]
  conv=>lhs;unfold iV
  rw[aL (by omega)]
  simp[fK]
 |c+1,k,n,s,hn,hk,hs=>by
  obtain⟨k,rfl⟩:∃z,k=z+1:=⟨k-1,by omega⟩
  have hxn:=hx _ (bQ x n [] (by omega))
  have hv:=dQ 1 (x.getD n []).length (by omega)
  have hsl:(s++dO (x.getD n []).length).length=s.length+(dO (x.getD n []).length).length:=aaH
  have hsl2:((s++dO (x.getD n []).length)++x.getD n []).length=s.length+(dO (x.getD n []).length).length+(x.getD n []).length:=by rw[aaH,aaH]
  have ih:=vT x hx hl K c k (n+1) ((s++dO (x.getD n []).length)++x.getD n []) (by omega) (by omega) (by omega)
  conv=>lhs;unfold iV
  rw[aP (by omega),wZ _ (by omega),aC,aA (by omega),aA (by omega),aA (by omega),aA (by omega),aA (by omega),ih,getD_drop x n [] (by omega),cM]
  simp[item]
theorem f87_eq (x:List Ty1) (hx:∀s,s∈x->s.length<=200) (hl:x.length<=25):f87 x=some (cR x):=by
 have hv:=dQ 1 x.length (by omega);unfold f87;rw[wZ _ (by omega),aC,bO];exact vT x hx hl (fun s6=>some s6) x.length bB 0 (dO x.length) (by omega) (fuel_lt (by omega)) (by omega)
theorem wC (x:List Ss) (hl:x.length<=8) (hx:∀q,q∈x->kV q=true) (K:List Ty1->Option Ty1):∀(d k n:Nat) (a:List Ty1),n+d=x.length->d<k->a.length<=1+3 *n->iY x K k (n,a)=K (a++flt (x.drop n))
 |0,k,n,a,hn,hk,ha=>by
  obtain⟨k,rfl⟩:∃z,k=z+1:=⟨k-1,by omega⟩
  rw[abA (by omega)]
  conv=>lhs;unfold iY
  rw[aL (by omega)]
  simp[flt]
 |d+1,k,n,a,hn,hk,ha=>by
  obtain⟨k,rfl⟩:∃z,k=z+1:=⟨k-1,by omega⟩
  have hg:=fT (hx _ (bQ x n default (by omega)))
  have ih:=wC x hl hx K d k (n+1) (a++[Lib.itoa (x.getD n default).1,Lib.itoa (x.getD n default).2.1,(x.getD n default).2.2]) (by omega) (by omega) (by simp;omega)
  conv=>lhs;unfold iY
  rw[aP (by omega),aA (by omega),qE (by omega) (by omega),aC,qE (by omega) (by omega),aC,aA (by omega),aA (by omega),ih,getD_drop x n default (by omega),oC]
  simp
theorem f65_eq {k c:Int} {l:List Ss} (h:okE k c l):f65 k c l=some (cR (strs k c l)):=by
 have hs:=jK h;rcases h with⟨rfl,rfl,h1,h2⟩|⟨rfl,h1,h2,rfl⟩|⟨rfl,rfl,rfl⟩
 ·have e:strs 1 0 l=cs2::flt l:=by rw[strs,if_neg (by decide),if_neg (by decide)]
  rw[e]at hs⊢;unfold f65;rw[if_neg (by decide),if_neg (by decide),bO,wC l h1 (jQ h2) _ l.length bB 0 [cs2] (by omega) (fuel_lt (by omega)) (by simp),abW];rw[afP,f87_eq _ hs.1 hs.2.1];rfl
 ·have e:strs 2 c []=[nS,Lib.itoa c]:=by rw[strs,if_pos rfl]
  rw[e]at hs⊢;unfold f65;rw[if_pos (by decide),qE (by omega) (by omega),aC];have:=f87_eq [nS,Lib.itoa c] hs.1 hs.2.1;unfold nS at this⊢;rw[this];rfl
 ·have e:strs 3 0 []=[cs1]:=by rw[strs,if_neg (by decide),if_pos rfl]
  rw[e]at hs⊢;unfold f65;rw[if_neg (by decide),if_pos (by decide),f87_eq _ hs.1 hs.2.1];rfl
theorem rW (x:List Ss) (hl:x.length<=1000000) (c m:Int) (s:aaA):∀(d k n:Nat),n+d=x.length->d<k->gW x c m s (fun _=>some false) k n=some ((x.drop n).any (fun p=>p.1==c&&p.2.1==m))
 |0,k,n,hn,hk=>by
  obtain⟨k,rfl⟩:∃z,k=z+1:=⟨k-1,by omega⟩
  rw[abA (by omega)]
  conv=>lhs;unfold gW
  rw[aL (by omega)]
  rfl
 |d+1,k,n,hn,hk=>by
  obtain⟨k,rfl⟩:∃z,k=z+1:=⟨k-1,by omega⟩
  have ih:=rW x hl c m s d k (n+1) (by omega) (by omega)
  conv=>lhs;unfold gW
  unfold f149
  rw[aP (by omega),aC,aA (by omega),aA (by omega),ih,getD_drop x n default (by omega),acO]
  cases((x.getD n default).1==c&&(x.getD n default).2.1==m)
  ·rw[if_neg (by simp),adC]
  ·rw[if_pos rfl,afG]
theorem f120_eq (x:List Ss) (hl:x.length<=1000000) (c m:Int) (s:aaA):f120 x c m s=some (x.any (fun p=>p.1==c&&p.2.1==m)):=by
 unfold f120;rw[bO];exact rW x hl c m s x.length bB 0 (by omega) (fuel_lt (by omega))
theorem f119_eq (c n:Int) (op:aaA):∃v,f119 c n op=some v/\(v=0↔kV (c,n,op)=true):=by
 unfold f119;rw[aAp];by_cases h1:0<=c/\c<6/\1<=n/\n<=1000000
 ·rw[if_neg (by simp;omega)];by_cases h2:op=[]
  ·rw[if_pos (by simp[h2])];exact⟨_,rfl,by simp[h2]⟩
  ·rw[if_neg (by simpa using h2)];by_cases h3:op.length<=200
   ·rw[aL (by omega)];exact⟨_,rfl,by simp[h1,h2,h3]⟩
   ·rw[aP (by omega)];exact⟨_,rfl,by simp;omega⟩
 ·rw[if_pos (by simp;omega)];exact⟨_,rfl,by simp;omega⟩
theorem vU (x:List Ss) (hl:x.length<=1000000):∀(d k n:Nat),n+d=x.length->d<k->∃v,jY x (fun _=>some 0) k n=some v/\(v=0↔∀i,n<=i->i<x.length->xQ x i=true)
 |0,k,n,hn,hk=>by
  obtain⟨k,rfl⟩:∃z,k=z+1:=⟨k-1,by omega⟩
  refine⟨0, ?_,by simp;omega⟩
  conv=>lhs;unfold jY
  rw[aL (by omega)]
 |d+1,k,n,hn,hk=>by
  obtain⟨k,rfl⟩:∃z,k=z+1:=⟨k-1,by omega⟩
  obtain⟨v,hv,hi⟩:=vU x hl d k (n+1) (by omega) (by omega)
  obtain⟨w,hw,hg⟩:=f119_eq (x.getD n default).1 (x.getD n default).2.1 (x.getD n default).2.2
  have bad:xQ x n=false->∀w:Int,w≠0->(w=0↔∀i,n<=i->i<x.length->xQ x i=true):=fun h w hw=>
   ⟨fun e=>absurd e hw,fun h'=>by have:=h' n (abD _) (by omega);rw[h]at this;cases this⟩
  conv=>enter [1,v,1,1];unfold jY
  rw[aP (by omega),hw,aC,aA (by omega)]
  by_cases h0:w=0
  ·have hgd:kV (x.getD n default)=true:=hg.1 h0
   rw[if_neg (by simpa using h0),f120_eq _ (by rw[abG];omega),aC,aA (by omega),aA (by omega)]
   cases ha:(x.take n).any (fun p=>p.1==(x.getD n default).1&&p.2.1==(x.getD n default).2.1)
   ·rw[if_neg (by simp),aA (by omega)]
    refine⟨v,hv,hi.trans ⟨fun h i h4 h5=> ?_,fun h i h4 h5=>h i (by omega) h5⟩⟩
    by_cases hin:i=n
    ·subst hin
     unfold xQ
     rw[hgd,ha]
     rfl
    ·exact h i (by omega) h5
   ·rw[if_pos rfl]
    exact⟨_,rfl,bad (by unfold xQ;rw[ha];simp) _ (by decide)⟩
  ·rw[if_pos (by simpa using h0)]
   refine⟨_,rfl,bad ?_ _ h0⟩
   have:¬kV (x.getD n default)=true:=fun h=>h0 (hg.2 h)
   unfold xQ
   simp only[Bool.not_eq_true]at this
   rw[this,acI]
theorem f64_gen (k c:Int) (l:List Ss) (hl:l.length<=1000000):∃v,f64 k c l=some v/\(v=0↔okE k c l):=by
 have hn:l=[]↔l.length=0:=List.length_eq_zero_iff.symm;unfold f64;rw[aA (by intro h1 _ h2;rw[h1,h2];rfl),aA (by intro h1 _ h2;rw[h1,h2];rfl)];by_cases h1:(k=1/\c=0)\/(k=2/\0<=c/\c<6/\l.length=0)\/(k=3/\c=0/\l.length=0)
 ·rw[if_neg (by simp only[abS,aaI,adH,beq_eq_false_iff_ne,bne_iff_ne,aaY];omega)];by_cases h8:l.length<=8
  ·rw[aL (by omega)];obtain⟨v,hv,hi⟩:=vU l hl l.length bB 0 (by omega) (fuel_lt (by omega))
   have h73:f86 l=some v:=by
    unfold f86;rw[bO];exact hv
   rw[h73,aC]
   have hE:okE k c l↔v=0:=by
    rw[hi];unfold okE;rw[hn];constructor
    ·rintro(⟨_,_,_,h⟩|⟨_,_,_,h⟩|⟨_,_,h⟩)
     ·exact fun i _ h2=>h i h2
     ·intro i _ h2;omega
     ·intro i _ h2;omega
    ·intro h;rcases h1 with⟨h3,h4⟩|h3|h3
     ·exact .inl ⟨h3,h4,h8,fun i h2=>h i (abM _) h2⟩
     ·exact .inr (.inl h3)
     ·exact .inr (.inr h3)
   by_cases h0:v=0
   ·have hE':=hE.2 h0;rw[if_neg (by simpa using h0),f65_eq hE',aC];have:=sG hE';rw[aL (by omega)];exact⟨0,rfl,by simp[hE']⟩
   ·rw[if_pos (by simpa using h0)];exact⟨v,rfl,hE.symm⟩
  ·rw[aP (by omega)];refine⟨_,rfl,fun h=>absurd h (by decide),fun h=> ?_⟩;unfold okE at h;rw[hn]at h;omega
 ·rw[if_pos (by simp only[abS,aaI,adH,beq_eq_false_iff_ne,bne_iff_ne,aaY];omega)];refine⟨_,rfl,fun h=>absurd h (by decide),fun h=> ?_⟩;unfold okE at h;rw[hn]at h;omega
open Classical in
theorem aAc (x:aaA) (n c:Int) (l:List Ss) (hl:l.length<=1000000):
  ((f64 n c l).bind fun(r11:Int)=>
   gB ((r11 !=(0:Int))==false) (f65 n c l) fun(r12:aaA)=>
   if((r11 !=(0:Int))||(!(r12==x)))then some ((0:Int),(0:Int),([]:List Ss),(2:Int))else some (n,c,l,(0:Int)))=some (if okE n c l/\cR (strs n c l)=x then(n,c,l,0)else errE):=by
 obtain⟨v,hv,hi⟩:=f64_gen n c l hl;rw[hv,aC];by_cases h:v=0
 ·have hE:=hi.1 h;subst h;rw[f65_eq hE];rw[show(((0:Int) !=0)==false)=true from rfl,hJ,aC];by_cases he:cR (strs n c l)=x
  ·rw[if_neg (by simp[he]),if_pos ⟨hE,he⟩]
  ·rw[if_pos (by simp[he]),if_neg (fun h=>he h.2)];rfl
 ·have hE:¬okE n c l:=fun hE=>h (hi.2 hE);have e:((v !=(0:Int))==false)=false:=by simpa using h
  rw[e,iO,if_pos (by simp[h]),if_neg (fun h=>hE h.1)];rfl
open Go
theorem xE (x:aaA) (m:Nat) (hx:x.length<=1000000):∃n j:Nat,aB4 x (m:Int)=some ((n:Int),(j:Int))/\(j=0\/(1<=j/\j<=x.length/\n<=m)):=by
 have hb:=fun i=>(x.getD i 0).toNat_lt;unfold aB4;by_cases h0:x=[]
 ·rw[if_pos (by simp[h0])];exact⟨0,0,rfl,.inl rfl⟩
 ·have hl:0<x.length:=List.length_pos_iff.2 h0;have b0:=hb 0;have b1:=hb 1;rw[if_neg (by simpa using h0),aA (by omega),aA (by omega),bO];generalize(x.getD 0 0).toNat=a at *;generalize(x.getD 1 0).toNat=b at *;by_cases h1:128<=a
  ·rw[aP (by omega)];by_cases h2:x.length<2
   ·have e:decide ((x.length:Int)<2)=true:=by simp;omega
    rw[e];refine⟨0,0, ?_,.inl rfl⟩;simp[chk]
   ·have e:decide ((x.length:Int)<2)=false:=by simp;omega
    rw[e,aA (fun _=>by omega),aA (fun _=>by omega)];by_cases h3:b=0\/128<=b
    ·rw[if_pos (by simp;omega)];exact⟨0,0,rfl,.inl rfl⟩
    ·rw[if_neg (by simp;omega),aA (by omega),aA (by omega),aA (by omega),aA (by omega),aA (by omega)];dsimp only;by_cases h4:a-128+128 *b<=m
     ·rw[aL (by omega)];exact⟨a-128+128 *b,2,by congr 2;omega,.inr ⟨by omega,by omega,h4⟩⟩
     ·rw[aP (by omega)];exact⟨0,0,rfl,.inl rfl⟩
  ·rw[aL (by omega)];dsimp only;by_cases h4:a<=m
   ·rw[aL (by omega)];exact⟨a,1,rfl,.inr ⟨by omega,by omega,h4⟩⟩
   ·rw[aP (by omega)];exact⟨0,0,rfl,.inl rfl⟩
theorem xD (n m:Nat) (r:aaA) (hn:n<=m) (hm:m<16384):aB4 (dO n++r) (m:Int)=some ((n:Int),((dO n).length:Int)):=by
 unfold aB4;by_cases h:n<128
 ·rw[eV h];have e:(([UInt8.ofNat n]++r).getD 0 0).toNat=n:=by simp[UInt8.toNat_ofNat'];omega
  rw[if_neg (by simp),aA (by simp),e,aA (by omega),bO,aL (by omega)];dsimp only;rw[aL (by omega)];rfl
 ·rw[lU h,eV (show n/128<128 by omega)];generalize hy:UInt8.ofNat (n%128+128)::[UInt8.ofNat (n/128)]++r=y;have e0:(y.getD 0 0).toNat=n%128+128:=by rw[<-hy];simp[UInt8.toNat_ofNat'];omega
  have e1:(y.getD 1 0).toNat=n/128:=by rw[<-hy];simp[UInt8.toNat_ofNat'];omega
  have hl:2<=y.length:=by rw[<-hy];simp
  have hne:y≠[]:=fun h=>by rw[h]at hl;simp at hl
  rw[if_neg (by simpa using hne),aA (by omega),e0,e1,aA (by omega),bO,aP (by omega)];have e:decide ((y.length:Int)<2)=false:=by simp;omega
  rw[e,aA (fun _=>by omega),aA (fun _=>by omega),if_neg (by simp;omega),aA (by omega),aA (by omega),aA (by omega),aA (by omega),aA (by omega)];have ev:((((n%128+128:Nat):Int)-128)+((128 *(n/128):Nat):Int))=(n:Int):=by omega
  rw[ev];dsimp only;rw[aL (by omega)];rfl
theorem yP (x:aaA) (hx:x.length<=1000000) (r2:Tq1) (K:Int×List Ty1->Option (Bool×List Ty1)) (hK:∀i l,∃b,K (i,l)=some (b,l)):
  ∀(c k i n:Nat) (l:List Ty1),i+c=x.length->c<k->n<=i->l.length=n->(∀s,s∈l->s.length<=x.length)->∃b l',iW x r2 K k ((i:Int),n,l)=some (b,l')/\(∀s,s∈l'->s.length<=x.length)/\l'.length<=x.length:=by
 intro c
 induction c using Nat.strongRecOn with
 |ind c ih=>
  intro k i n l hi hk hn hl hs;obtain⟨k,rfl⟩:∃z,k=z+1:=⟨k-1,by omega⟩;by_cases hr:(n:Int)<r2.1
  ·obtain⟨m,j,h,hb⟩:=xE (x.drop i) 200 (by rw[aaZ];omega);rw[aaZ]at hb
   conv=>enter [1,b,1,l',1,1];unfold iW
   have h':aB4 (List.drop i x) 200=some ((m:Int),(j:Int)):=h;rw[aP hr,abE,h',aC];dsimp only;rw[aA (by omega)];by_cases hj:j=0
   ·subst hj;rw[aA (fun h=>by simp at h),aA (fun h=>by simp at h),if_pos (by simp)];exact⟨_,_,rfl,by simp,by simp⟩
   ·have hb':1<=j/\j<=x.length-i/\m<=200:=by omega
    rw[aA (fun _=>by omega),aA (fun _=>by omega)];by_cases hle:i+j+m<=x.length
    ·rw[if_neg (by simp;omega),aA (by omega),aA (by omega),aA (by omega),aA (by omega),aA (by omega),aA (by omega),aA (by omega),aA (by omega)];have e:(i:Int)+(j:Int)+(m:Int)=((i+j+m:Nat):Int):=by omega
     rw[e]
     exact ih (c - (j + m)) (by omega) k (i + j + m) (n + 1) _ (by omega) (by omega) (by omega) (by simp [hl]) (fun t ht=>by
      rcases abN.1 ht with ht|ht
      ·exact hs t ht
      ·simp only[acU]at ht;subst ht;rw[aaZ,abG];omega)
    ·rw[if_pos (by simp;omega)];exact⟨_,_,rfl,by simp,by simp⟩
  ·obtain⟨b,h⟩:=hK i l;refine⟨b,l, ?_,hs,by omega⟩
   conv=>lhs;unfold iW
   rw[aL hr];exact h
theorem f81_some (x:aaA) (hx:x.length<=1000000):∃b L,f81 x=some (b,L)/\(∀s,s∈L->s.length<=x.length)/\L.length<=x.length:=by
 obtain⟨m,j,h,hb⟩:=xE x 25 hx;have h':aB4 x 25=some ((m:Int),(j:Int)):=h;unfold f81;rw[h',aC];by_cases hj:j=0
 ·subst hj;rw[if_pos (by rfl)];exact⟨_,_,rfl,by simp,by simp⟩
 ·rw[if_neg (by simp;omega),bO];exact yP x hx _ _ (fun i l=>⟨_,rfl⟩) (x.length-j) bB j 0 [] (by omega) (fuel_lt (by omega)) (by omega) rfl (by simp)
theorem nC (x:aaA) (hx:x.length<=1000000) (r2:Tq1) (K:Int×List Ty1->Option (Bool×List Ty1)) (L:List Ty1) (hr:r2.1=(L.length:Int)):
  ∀(M:List Ty1) (A:aaA) (D:List Ty1) (k:Nat),(∀s,s∈M->s.length<=200)->x=A++fK M->L=D++M->D.length<=A.length->M.length<k->iW x r2 K k ((A.length:Int),D.length,D)=K ((x.length:Int),L)
 |[],A,D,k,_,hxe,hL,_,hk=>by
  obtain⟨k,rfl⟩:∃z,k=z+1:=⟨k-1,by omega⟩
  have e1:x.length=A.length:=by rw[hxe];simp[fK]
  have e2:L=D:=by rw[hL];simp
  conv=>lhs;unfold iW
  rw[aL (by rw[hr,e2];omega),e1,e2]
 |s::M,A,D,k,hM,hxe,hL,hD,hk=>by
  obtain⟨k,rfl⟩:∃z,k=z+1:=⟨k-1,by omega⟩
  simp only[aaS]at hk
  have hl:L.length=D.length+(M.length+1):=by rw[hL];simp
  have e1:x.drop A.length=dO s.length++(s++fK M):=by rw[hxe,agM,cM,item,acA]
  have hsl:=hM s (aaR ..)
  have hv:=sF s.length
  have hil:(item s).length=(dO s.length).length+s.length:=by rw[item,aaH]
  have hxl:x.length=A.length+((item s).length+(fK M).length):=by rw[hxe,cM];simp
  have h:aB4 (dO s.length++(s++fK M)) 200=some ((s.length:Int),((dO s.length).length:Int)):=xD s.length 200 _ hsl (by omega)
  have ih := nC x hx r2 K L hr M (A ++ item s) (D ++ [s]) k (fun t ht => hM t (aaQ _ ht)) (by rw [hxe, cM]; simp) (by rw [hL]; simp) (by
   simp only[aaH,acJ]
   omega) (by omega)
  have cut:(x.take (A.length+(dO s.length).length+s.length)).drop (A.length+(dO s.length).length)=s:=by
   have:x=(A++dO s.length)++(s++fK M):=by rw[hxe,cM,item];simp
   rw[this,<-aaH,List.drop_take,agM,aeD,aeA]
  conv=>lhs;unfold iW
  rw[aP (by rw[hr];omega),abE,e1,h,aC]
  dsimp only
  rw[aA (by omega),aA (fun _=>by omega),aA (fun _=>by omega),if_neg (by simp only[abS,abY,aaY];omega),aA (by omega),aA (by omega),aA (by omega),aA (by omega),aA (by omega),aA (by omega),aA (by omega),aA (by omega)]
  have ea:(A.length:Int)+((dO s.length).length:Int)=((A.length+(dO s.length).length:Nat):Int):=by omega
  have eb:((A.length+(dO s.length).length:Nat):Int)+(s.length:Int)=((A.length+(dO s.length).length+s.length:Nat):Int):=by omega
  rw[ea,eb,abE,abE,cut,<-ih]
  simp only[aaH,acJ,hil,adZ]
theorem f81_plist (L:List Ty1) (hL:L.length<=25) (hs:∀s,s∈L->s.length<=200):f81 (cR L)=some (true,L):=by
 have hx:=oV L 200 (by omega) (by omega) hs
 have hx':(cR L).length<=1000000:=by
  have:L.length *(200+2)<=25 *202:=Nat.mul_le_mul hL (abD _);omega
 have hv:=sF L.length
 have h:aB4 (cR L) 25=some ((L.length:Int),((dO L.length).length:Int)):=by
  rw[gP];exact xD L.length 25 _ hL (by omega)
 unfold f81;rw[h,aC,if_neg (by simp only[abY];omega),bO];have:=nC (cR L) hx' ((L.length:Int),((dO L.length).length:Int)) (fun((i7,l8):Int×List Ty1)=>some ((i7==(((cR L).length:Nat):Int)),l8)) L rfl L (dO L.length) [] bB hs rfl rfl (abM _) (fuel_lt (by omega));refine this.trans ?_;simp
theorem pN (x:aaA) (hx:x.length<=1000000) (K:Int->Option Int):∀(d k n:Nat) (i:Int),n+d=x.length->d<k->0<=i->i<10^n->n<=7->fM x K k (i,n)=some (-1)\/∃j,0<=j/\j<=9999999/\fM x K k (i,n)=K j
 |0,k,n,i,hn,hk,h0,h1,h7=>by
  obtain⟨k,rfl⟩:∃z,k=z+1:=⟨k-1,by omega⟩
  have h10:(10:Int)^n<=10^7:=by
   have:(10:Nat)^n<=10^7:=aeR (by decide) h7
   exact_mod_cast this
  refine .inr ⟨i,h0,by omega, ?_⟩
  conv=>lhs;unfold fM
  rw[aL (by omega)]
 |d+1,k,n,i,hn,hk,h0,h1,h7=>by
  obtain⟨k,rfl⟩:∃z,k=z+1:=⟨k-1,by omega⟩
  have h10:(10:Int)^n<=10^7:=by
   have:(10:Nat)^n<=10^7:=aeR (by decide) h7
   exact_mod_cast this
  generalize hc:(x.getD n 0).toNat=c
  have e:fM x K (k+1) (i,n)=if(((decide (((c:Nat):Int)<(48:Int)))||(decide (((c:Nat):Int)>(57:Int))))||(decide ((n:Int)>(6:Int))))=true then some (-1)else
    chk (0<=(((c:Nat):Int)-(48:Int))/\(((c:Nat):Int)-(48:Int))<=255) (fM x K k (10 *i+(((c:Nat):Int)-48),n+1)):=by
   conv=>lhs;unfold fM
   rw[hc,aP (by omega),aA (by omega),aA (fun _=>by omega)]
   by_cases hb:(((decide (((c:Nat):Int)<(48:Int)))||(decide (((c:Nat):Int)>(57:Int))))||(decide ((n:Int)>(6:Int))))=true
   ·rw[if_pos hb,if_pos hb]
   ·rw[if_neg hb,if_neg hb]
    simp only[abS,aaY]at hb
    rw[aA (by omega),aA (by omega),aA (by omega),aA (by omega),aA (by omega),aA (by omega),aA (by omega)]
  rw[e]
  by_cases hb:(((decide (((c:Nat):Int)<(48:Int)))||(decide (((c:Nat):Int)>(57:Int))))||(decide ((n:Int)>(6:Int))))=true
  ·rw[if_pos hb]
   exact .inl rfl
  ·rw[if_neg hb]
   simp only[abS,aaY]at hb
   rw[aA (by omega)]
   exact pN x hx K d k (n+1) _ (by omega) (by omega) (by omega) (by rw[Int.pow_succ];omega) (by omega)
theorem sY (s:aaA) (hx:s.length<=1000000):∃v,f82 s=some v:=by
 unfold f82;rw[bO];rcases pN s hx (fun(i4:Int)=>gB ((s==[])==false) (f88 bB i4) fun(r5:aaA)=>if((s==[])||(!(r5==s)))then some (-1:Int)else some i4) s.length bB 0 0 (by omega) (fuel_lt (by omega)) (by omega) (by simp) (by omega)with h|⟨j,h1,h2,h⟩
 ·exact⟨_,h⟩
 ·have hd:=qE (n:=j) h1 (by omega);by_cases h0:s=[]
  ·refine⟨-1,h.trans ?_⟩;have e:(s==[])=true:=by simp[h0]
   rw[e];rfl
  ·have e:(s==[])=false:=by simpa using h0
   by_cases h3:Lib.itoa j=s
   ·refine⟨j,h.trans ?_⟩;rw[e,hd,show((false:Bool)==false)=true from rfl,hJ,aC,if_neg (by simp[h3])]
   ·refine⟨-1,h.trans ?_⟩;rw[e,hd,show((false:Bool)==false)=true from rfl,hJ,aC,if_pos (by simp[h3])]
theorem nB (x:aaA) (hx:x.length<=7) (K:Int->Option Int):∀(d k n i v:Nat),n+d=x.length->d<k->i<10^n->Lib.parseUint10 i (x.drop n)= .ok v->fM x K k ((i:Int),n)=K (v:Int)
 |0,k,n,i,v,hn,hk,h1,hp=>by
  obtain⟨k,rfl⟩:∃z,k=z+1:=⟨k-1,by omega⟩
  rw[abA (by omega)]at hp
  simp only[Lib.parseUint10,Lib.NumEnd.ok.injEq]at hp
  conv=>lhs;unfold fM
  rw[aL (by omega),hp]
 |d+1,k,n,i,v,hn,hk,h1,hp=>by
  obtain⟨k,rfl⟩:∃z,k=z+1:=⟨k-1,by omega⟩
  have h10:(10:Nat)^n<=10^7:=aeR (by decide) (by omega)
  rw[getD_drop x n 0 (by omega)]at hp
  simp only[Lib.parseUint10]at hp
  generalize hc:(x.getD n 0).toNat=c at hp
  split at hp
  case isFalse=>cases hp
  rename_i h48
  rw[if_neg (by omega),if_neg (by omega)]at hp
  have ih:=nB x hx K d k (n+1) (i *10+(c-48)) v (by omega) (by omega) (by rw[agG];omega) hp
  conv=>lhs;unfold fM
  rw[hc,aP (by omega),aA (by omega),aA (fun _=>by omega),if_neg (by simp;omega),aA (by omega),aA (by omega),aA (by omega),aA (by omega),aA (by omega),aA (by omega),<-ih]
  have e:(10:Int) *(i:Int)+(((c:Nat):Int)-48)=((i *10+(c-48):Nat):Int):=by omega
  rw[e]
theorem sZ (n:Int) (h0:0<=n) (h1:n<=9999999):f82 (Lib.itoa n)=some n:=by
 have hl:=pE n h0 h1;obtain⟨m,rfl⟩:∃m:Nat,n=m:=⟨n.toNat,by omega⟩;have e:Lib.itoa (m:Int)=Lib.decDigits m:=by rw[Lib.itoa,if_neg (by omega),abE]
 have hp:=uQ m (by omega);have hd:=qE (n:=(m:Int)) h0 (by omega);have hne:=dig_ne m;rw[e]at hl hd⊢;unfold f82;rw[bO];refine(nB (Lib.decDigits m) hl _ (Lib.decDigits m).length bB 0 0 m (by omega) (fuel_lt (by omega)) (by simp) (by rw[abW];exact hp)).trans ?_;have e2:(Lib.decDigits m==[])=false:=by simpa using hne
 rw[e2,hd,show((false:Bool)==false)=true from rfl,hJ,aC,if_neg (by simp)]
theorem pO (b:Bool) (L:List Ty1) (hs:∀s,s∈L->s.length<=1000000) (hl:L.length<=1000000) (K:Nat×Int×List Ss->Option Ent):∀(d k n:Nat) (a:List Ss),n+3 *d=L.length->d<k->a.length<=n->∃l,l.length<=1000000/\jB (b,L) K k (n,a)=K (1,0,l)
 |0,k,n,a,hn,hk,ha=>by
  obtain⟨k,rfl⟩:∃z,k=z+1:=⟨k-1,by omega⟩
  refine⟨a,by omega, ?_⟩
  conv=>lhs;unfold jB
  rw[aL (by dsimp only;omega)]
 |d+1,k,n,a,hn,hk,ha=>by
  obtain⟨k,rfl⟩:∃z,k=z+1:=⟨k-1,by omega⟩
  obtain⟨v0,h0⟩:=sY (L.getD n []) (hs _ (bQ L n [] (by omega)))
  obtain⟨v1,h1⟩:=sY (L.getD (n+1) []) (hs _ (bQ L (n+1) [] (by omega)))
  obtain⟨l,hl2,h⟩:=pO b L hs hl K d k (n+3) (a++[(v0,v1,L.getD (n+2) [])]) (by omega) (by omega) (by simp;omega)
  refine⟨l,hl2, ?_⟩
  conv=>lhs;unfold jB
  dsimp only
  rw[aP (by omega),h0,aC,h1,aC,aA (by omega),aA (by omega),aA (by omega),aA (by omega),aA (by omega),aA (by omega),aA (by omega),aA (by omega),aA (by omega),aA (by omega)]
  exact h
theorem rP (b:Bool) (K:Nat×Int×List Ss->Option Ent) (w:aaA) (M:List Ss) (hM:M.length<=8):∀(l a:List Ss) (k:Nat),M=a++l->l.length<k->(∀q,q∈l->kV q=true)->jB (b,w::flt M) K k (1+3 *a.length,a)=K (1,0,M)
 |[],a,k,hMe,hk,_=>by
  obtain⟨k,rfl⟩:∃z,k=z+1:=⟨k-1,by omega⟩
  have e:M=a:=by rw[hMe,adU]
  have hfl:(w::flt M).length=1+3 *M.length:=by rw[aaS,kK];omega
  conv=>lhs;unfold jB
  dsimp only
  rw[aL (by rw[hfl,e];omega),e]
 |(c,n,s)::l,a,k,hMe,hk,hg=>by
  obtain⟨k,rfl⟩:∃z,k=z+1:=⟨k-1,by omega⟩
  simp only[aaS]at hk
  have h:=fT (hg _ (aaR ..))
  simp only at h
  have hml:M.length=a.length+(l.length+1):=by rw[hMe];simp
  have hfl:(w::flt M).length=1+3 *M.length:=by rw[aaS,kK];omega
  have hf:flt M=flt a++(Lib.itoa c::Lib.itoa n::s::flt l):=by rw[hMe];simp[flt]
  have g:∀i,i<3->(w::flt M).getD (1+3 *a.length+i) []=[Lib.itoa c,Lib.itoa n,s].getD i []:=by
   intro i hi
   rw[show 1+3 *a.length+i=(3 *a.length+i)+1 by omega,abP,hf,aaC,abQ (by rw[kK];omega),kK,aeD]
   match i,hi with
   |0,_=>rfl
   |1,_=>rfl
   |2,_=>rfl
  have g0:(w::flt M).getD (1+3 *a.length) []=Lib.itoa c:=g 0 (by omega)
  have g1:(w::flt M).getD (1+3 *a.length+1) []=Lib.itoa n:=g 1 (by omega)
  have g2:(w::flt M).getD (1+3 *a.length+2) []=s:=g 2 (by omega)
  have ih:=rP b K w M hM l (a++[(c,n,s)]) k (by rw[hMe];simp) (by omega) (fun q hq=>hg q (aaQ _ hq))
  conv=>lhs;unfold jB
  dsimp only
  rw[g0,g1,g2,aP (by omega),sZ c (by omega) (by omega),aC,sZ n (by omega) (by omega),aC,aA (by omega),aA (by omega),aA (by omega),aA (by omega),aA (by omega),aA (by omega),aA (by omega),aA (by omega),aA (by omega),aA (by omega),<-ih]
  have e:(a++[(c,n,s)]).length=a.length+1:=by simp
  rw[e]
  rfl
open Go
open Classical in
theorem f61_hit {k c:Int} {l:List Ss} (h:okE k c l):f61 (cR (strs k c l))=some (k,c,l,0):=by
 have hs:=jK h;have h81:=f81_plist (strs k c l) hs.2.1 hs.1
 have key : ∀ n : Nat, k = (n : Int) -> l.length <= 1000000 -> ((f64 (n:Int) c l).bind fun(r11:Int)=>
   gB ((r11 !=(0:Int))==false) (f65 (n:Int) c l) fun(r12:aaA)=>
   if((r11 !=(0:Int))||(!(r12==cR (strs k c l))))then some ((0:Int),(0:Int),([]:List Ss),(2:Int))else some ((n:Int),c,l,(0:Int)))=some (k,c,l,0):=by
  intro n hn hl1;subst hn;rw[aAc _ _ _ _ hl1,if_pos ⟨h,rfl⟩]
 unfold f61;rw[h81,aC];dsimp only;rw[if_neg (by simp only[acL,adC,abY];omega),bO,aA (by omega),aA (by omega)];rcases h with⟨rfl,rfl,h1,h2⟩|⟨rfl,h1,h2,rfl⟩|⟨rfl,rfl,rfl⟩
 ·have e:strs 1 0 l=cs2::flt l:=by rw[strs,if_neg (by decide),if_neg (by decide)]
  generalize hx:cR (strs 1 0 l)=x at *;rw[e]at *;have hfl:(cs2::flt l).length=1+3 *l.length:=by rw[aaS,kK];omega
  have n1:((cs2::flt l).getD 0 []==cs1)=false:=rfl;have n2:((cs2::flt l).getD 0 []==([106,111,105,110]:aaA))=false:=rfl;have n3:((cs2::flt l).getD 0 []==cs2)=true:=rfl;rw[n1,n2,n3,if_neg (by decide),aA (by omega),aA (by omega),acI,if_neg (by decide),aA (by omega),aA (by omega),aA (fun _=>by omega),if_pos (by simp only[acD,abY];omega)]
  have := rP true (fun((n3,i4,l5):Nat×Int×(List Ss))=>
   (f64 (n3:Int) i4 l5).bind fun(r11:Int)=>
   gB ((r11 !=(0:Int))==false) (f65 (n3:Int) i4 l5) fun(r12:aaA)=>
   if((r11 !=(0:Int))||(!(r12==x)))then some ((0:Int),(0:Int),([]:List Ss),(2:Int))else some ((n3:Int),i4,l5,(0:Int))) cs2 l h1 l [] bB rfl (fuel_lt (by omega)) (jQ h2)
  exact this.trans (key 1 rfl (by omega))
 ·have e:strs 2 c []=[nS,Lib.itoa c]:=by rw[strs,if_pos rfl]
  generalize hx:cR (strs 2 c [])=x at *;rw[e]at *;have n1:([nS,Lib.itoa c].getD 0 []==cs1)=false:=rfl;have n2:([nS,Lib.itoa c].getD 0 []==([106,111,105,110]:aaA))=true:=rfl;rw[n1,n2,if_neg (by decide),aA (by simp),aA (by simp),if_pos (by rfl)];simp only[abP,abH];rw[sZ c (by omega) (by omega),aC,aA (by simp),aA (by simp)];exact key 2 rfl (by simp)
 ·have e:strs 3 0 []=[cs1]:=by rw[strs,if_neg (by decide),if_pos rfl]
  generalize hx:cR (strs 3 0 [])=x at *;rw[e]at *;rw[if_pos (by rfl)];exact key 3 rfl (by simp)
open Classical in
theorem aAG (x:aaA) (hx:x.length<=1000000) (h:∀k c l,okE k c l->cR (strs k c l)≠x):f61 x=some errE:=by
 obtain⟨b,L,h81,hs,hl⟩:=f81_some x hx
 have key : ∀ (n : Nat) c l, l.length <= 1000000 -> ((f64 (n:Int) c l).bind fun(r11:Int)=>
   gB ((r11 !=(0:Int))==false) (f65 (n:Int) c l) fun(r12:aaA)=>
   if((r11 !=(0:Int))||(!(r12==x)))then some ((0:Int),(0:Int),([]:List Ss),(2:Int))else some ((n:Int),c,l,(0:Int)))=some errE:=by
  intro n c l hl1;rw[aAc _ _ _ _ hl1,if_neg (fun hh=>h _ _ _ hh.1 hh.2)]
 unfold f61;rw[h81,aC];dsimp only;by_cases h0:((!b)||(((L.length:Nat):Int)==0))=true
 ·rw[if_pos h0];rfl
 ·have hL:1<=L.length:=by
   simp only[abS,abY]at h0;omega
  rw[if_neg h0,bO,aA (by omega),aA (by omega)];by_cases h2:(L.getD 0 []==cs1)=true
  ·rw[if_pos h2];exact key 3 _ _ (by simp)
  ·rw[if_neg h2,aA (by omega),aA (by omega)];by_cases h1:((L.getD 0 []==([106,111,105,110]:aaA))&&(((L.length:Nat):Int)==2))=true
   ·rw[if_pos h1]
    have h1':L.length=2:=by
     simp only[aaI,abY]at h1;omega
    obtain⟨v,hv⟩:=sY (L.getD 1 []) (by have:=hs _ (bQ L 1 [] (by omega));omega);rw[hv,aC,aA (by omega),aA (by omega)];exact key 2 _ _ (by simp)
   ·rw[if_neg h1,aA (by omega),aA (by omega),aA (fun _=>by omega)];by_cases h3:((L.getD 0 []==cs2)&&(((L.length%3:Nat):Int)==1))=true
    ·rw[if_pos h3];simp only[aaI,abY]at h3
     obtain ⟨l, hl2, e⟩ := pO b L (fun s hs' => by have := hs s hs'; omega) (by omega) (fun((n3,i4,l5):Nat×Int×(List Ss))=>
      (f64 (n3:Int) i4 l5).bind fun(r11:Int)=>
      gB ((r11 !=(0:Int))==false) (f65 (n3:Int) i4 l5) fun(r12:aaA)=>
      if((r11 !=(0:Int))||(!(r12==x)))then some ((0:Int),(0:Int),([]:List Ss),(2:Int))else some ((n3:Int),i4,l5,(0:Int))) (L.length/3) bB 1 [] (by omega) (fuel_lt (by omega)) (by simp)
     exact e.trans (key 1 _ _ hl2)
    ·rw[if_neg h3];exact key 0 _ _ (by simp)
theorem aA8 (x:aaA) (hx:x.length<=1000000):∃k c l e,f68 x=some (k,c,l,e)/\f61 x=some (k,c,l,e)/\l.length<=8:=by
 by_cases h:∃k c l,okE k c l/\cR (strs k c l)=x
 ·obtain⟨k,c,l,hE,rfl⟩:=h;refine⟨k,c,l,0,f68_hit hE,f61_hit hE, ?_⟩;rcases hE with⟨_,_,h,_⟩|⟨_,_,_,rfl⟩|⟨_,_,rfl⟩
  ·exact h
  ·simp
  ·simp
 ·have h':∀k c l,okE k c l->cR (strs k c l)≠x:=fun k c l hE e=>h ⟨k,c,l,hE,e⟩;exact⟨_,_,_,_,aAB x hx h',aAG x hx h',by simp⟩
def resR (m:Mc) (q:Ss):aaA:=((f62 m.1 m.2 q.1 q.2.1 q.2.2).getD ([],[],[])).2.2
theorem sH {m:Mc} (q:Ss) (hm:McV m):f123 m.1 m.2 q.1 q.2.1 q.2.2=some ((qK m q).1,(qK m q).2,resR m q)/\f62 m.1 m.2 q.1 q.2.1 q.2.2=some ((qK m q).1,(qK m q).2,resR m q)/\McV (qK m q):=by
 obtain⟨s,h1,h2,ha⟩:=stpR_ex q hm
 have e:resR m q=s:=by
  unfold resR;rw[h2];rfl
 rw[e];exact⟨h1,h2,ha.ok⟩
def qH (m:Mc):List Ss->Mc×List Ss
 |[]=>(m,[])
 |q::l=>((qH (qK m q) l).1,(q.1,q.2.1,resR m q)::(qH (qK m q) l).2)
theorem entR_ok :∀(l:List Ss) (m:Mc),McV m->McV (qH m l).1
 |[],_,h=>h
 |q::l,m,h=>entR_ok l (qK m q) (sH q h).2.2
theorem tL :∀(l:List Ss) (m:Mc),(qH m l).2.length=l.length
 |[],_=>rfl
 |q::l,m=>by simp[qH,tL l]
theorem vS (r4:Ent) (h8:r4.2.2.1.length<=8) (K:List Pr×List Ss×List Ss->Option (List Pr×List Ss×List Ss)):∀(d k n:Nat) (m:Mc) (a:List Ss),McV m->n+d=r4.2.2.1.length->d<k->a.length<=n->
  nA r4 K k (n,m.1,m.2,a)=K ((qH m (r4.2.2.1.drop n)).1.1,(qH m (r4.2.2.1.drop n)).1.2,a++(qH m (r4.2.2.1.drop n)).2)
 |0,k,n,m,a,hm,hn,hk,ha=>by
  obtain⟨k,rfl⟩:∃z,k=z+1:=⟨k-1,by omega⟩
  rw[abA (by omega)]
  conv=>lhs;unfold nA
  rw[aL (by omega)]
  simp[qH]
 |d+1,k,n,m,a,hm,hn,hk,ha=>by
  obtain⟨k,rfl⟩:∃z,k=z+1:=⟨k-1,by omega⟩
  obtain⟨h1,_,h3⟩:=sH (r4.2.2.1.getD n default) hm
  have ih:=vS r4 h8 K d k (n+1) (qK m (r4.2.2.1.getD n default)) (a++[((r4.2.2.1.getD n default).1,(r4.2.2.1.getD n default).2.1,resR m (r4.2.2.1.getD n default))]) h3 (by omega) (by omega) (by simp;omega)
  conv=>lhs;unfold nA
  rw[aP (by omega),aA (by omega),h1,aC,aA (by omega),aA (by omega),ih,getD_drop r4.2.2.1 n default (by omega)]
  simp[qH]
theorem pV (r4:Ent) (h8:r4.2.2.1.length<=8) (K:List Pr×List Ss×List Ss->Option (List Pr×List Ss×List Ss)):∀(d k n:Nat) (m:Mc) (a:List Ss),McV m->n+d=r4.2.2.1.length->d<k->a.length<=n->
  nK r4 K k (n,m.1,m.2,a)=K ((qH m (r4.2.2.1.drop n)).1.1,(qH m (r4.2.2.1.drop n)).1.2,a++(qH m (r4.2.2.1.drop n)).2)
 |0,k,n,m,a,hm,hn,hk,ha=>by
  obtain⟨k,rfl⟩:∃z,k=z+1:=⟨k-1,by omega⟩
  rw[abA (by omega)]
  conv=>lhs;unfold nK
  rw[aL (by omega)]
  simp[qH]
 |d+1,k,n,m,a,hm,hn,hk,ha=>by
  obtain⟨k,rfl⟩:∃z,k=z+1:=⟨k-1,by omega⟩
  obtain⟨_,h1,h3⟩:=sH (r4.2.2.1.getD n default) hm
  have ih:=pV r4 h8 K d k (n+1) (qK m (r4.2.2.1.getD n default)) (a++[((r4.2.2.1.getD n default).1,(r4.2.2.1.getD n default).2.1,resR m (r4.2.2.1.getD n default))]) h3 (by omega) (by omega) (by simp;omega)
  conv=>lhs;unfold nK
  rw[aP (by omega),aA (by omega),h1,aC,aA (by omega),aA (by omega),ih,getD_drop r4.2.2.1 n default (by omega)]
  simp[qH]
theorem rZ (m:Mc) (hm:McV m) (v:aaA) (hv:v.length<=1000000):∃m' rs,f90 m.1 m.2 v=some (m'.1,m'.2,rs)/\f37 m.1 m.2 v=some (m'.1,m'.2,rs)/\McV m'/\rs.length<=8:=by
 obtain⟨k,c,l,e,h1,h2,h8⟩:=aA8 v hv;unfold f90 f37;rw[h1,h2,aC,aC];by_cases he:(e !=0)=true
 ·rw[if_pos he,if_pos he];exact⟨m,[],rfl,rfl,hm,by simp⟩
 ·rw[if_neg he,if_neg he,bO,bO];have a1:=vS (k,c,l,e) h8 (fun((l10,l11,l12):List Pr×List Ss×List Ss)=>some (l10,l11,l12)) l.length bB 0 m [] hm (by simp) (fuel_lt (by omega)) (by simp);have a2:=pV (k,c,l,e) h8 (fun((l10,l11,l12):List Pr×List Ss×List Ss)=>some (l10,l11,l12)) l.length bB 0 m [] hm (by simp) (fuel_lt (by omega)) (by simp);exact⟨(qH m l).1,(qH m l).2,a1,a2,entR_ok l m hm,by rw[tL];exact h8⟩
def qJ (m:Mc) (v:aaA):Mc:=let t:=(f37 m.1 m.2 v).getD ([],[],[]);(t.1,t.2.1)
theorem xV {m:Mc} (v:aaA) (hm:McV m) (hv:v.length<=1000000):∃rs,f90 m.1 m.2 v=some ((qJ m v).1,(qJ m v).2,rs)/\f37 m.1 m.2 v=some ((qJ m v).1,(qJ m v).2,rs)/\McV (qJ m v):=by
 obtain⟨m',rs,h1,h2,hm',_⟩:=rZ m hm v hv
 have e:qJ m v=m':=by
  unfold qJ;rw[h2];rfl
 rw[e];exact⟨rs,h1,h2,hm'⟩
theorem stpV_ok :∀(l:List Ty1) (m:Mc),McV m->(∀v,v∈l->v.length<=1000000)->McV (l.foldl qJ m)
 |[],_,h,_=>h
 |v::l,m,h,hv=>stpV_ok l (qJ m v) (xV v h (hv v (aaR ..))).choose_spec.2.2 (fun u hu=>hv u (aaQ _ hu))
abbrev RMc :=List Pr×List Ss
theorem vR (x:List Ty1) (hl:x.length<=1000000) (hx:∀v,v∈x->v.length<=1000000) (K:RMc->Option RMc):∀(d k n:Nat) (m:Mc),McV m->n+d=x.length->d<k->mZ x K k (n,m.1,m.2)=K (((x.drop n).foldl qJ m).1,((x.drop n).foldl qJ m).2)
 |0,k,n,m,hm,hn,hk=>by
  obtain⟨k,rfl⟩:∃z,k=z+1:=⟨k-1,by omega⟩
  rw[abA (by omega)]
  conv=>lhs;unfold mZ
  rw[aL (by omega)]
  rfl
 |d+1,k,n,m,hm,hn,hk=>by
  obtain⟨k,rfl⟩:∃z,k=z+1:=⟨k-1,by omega⟩
  obtain⟨rs,h1,_,h3⟩:=xV (x.getD n []) hm (hx _ (bQ x n [] (by omega)))
  have ih:=vR x hl hx K d k (n+1) (qJ m (x.getD n [])) h3 (by omega) (by omega)
  conv=>lhs;unfold mZ
  rw[aP (by omega),aA (by omega),h1,aC,aA (by omega),ih,getD_drop x n [] (by omega)]
  rfl
theorem rO (x:List Ty1) (hl:x.length<=1000000) (hx:∀v,v∈x->v.length<=1000000) (K:RMc->Option RMc):∀(d k n:Nat) (m:Mc),McV m->n+d=x.length->d<k->iZ x K k (n,m.1,m.2)=K (((x.drop n).foldl qJ m).1,((x.drop n).foldl qJ m).2)
 |0,k,n,m,hm,hn,hk=>by
  obtain⟨k,rfl⟩:∃z,k=z+1:=⟨k-1,by omega⟩
  rw[abA (by omega)]
  conv=>lhs;unfold iZ
  rw[aL (by omega)]
  rfl
 |d+1,k,n,m,hm,hn,hk=>by
  obtain⟨k,rfl⟩:∃z,k=z+1:=⟨k-1,by omega⟩
  obtain⟨rs,_,h1,h3⟩:=xV (x.getD n []) hm (hx _ (bQ x n [] (by omega)))
  have ih:=rO x hl hx K d k (n+1) (qJ m (x.getD n [])) h3 (by omega) (by omega)
  conv=>lhs;unfold iZ
  rw[aP (by omega),h1,aC,aA (by omega),aA (by omega),ih,getD_drop x n [] (by omega)]
  rfl
theorem f91_eq (x:List Ty1) (hl:x.length<=1000000) (hx:∀v,v∈x->v.length<=1000000):f91 x=some ((x.foldl qJ ([],[])).1,(x.foldl qJ ([],[])).2):=by
 have h:=vR x hl hx (fun((l7,l8):RMc)=>some (l7,l8)) x.length bB 0 ([],[]) ⟨StV.nil,SesV.nil⟩ (by omega) (fuel_lt (by omega));unfold f91 f124;rw[aC,bO];exact h
theorem f38a_eq (x:List Ty1) (hl:x.length<=1000000) (hx:∀v,v∈x->v.length<=1000000):f38a x=some ((x.foldl qJ ([],[])).1,(x.foldl qJ ([],[])).2):=by
 have h:=rO x hl hx (fun((l7,l8):RMc)=>some (l7,l8)) x.length bB 0 ([],[]) ⟨StV.nil,SesV.nil⟩ (by omega) (fuel_lt (by omega))
 have h60:f63a [] [] x=some ((x.foldl qJ ([],[])).1,(x.foldl qJ ([],[])).2):=by
  unfold f63a;rw[bO];exact h
 unfold f38a;rw[h60];rfl
end Go.Abs
namespace Go.Abs
section
variable {α β:Type} [DecidableEq α]
theorem vF (x:α):∀(l:List (α×β)) (i:Nat),jW x (l.map (·.1)) i=none->∀p,p∈l->x≠p.1
 |[],_,_,p,hp=>by cases hp
 |q::l,i,h,p,hp=>by
  simp only[abR,jW]at h
  by_cases e:x=q.1
  ·rw[if_pos e]at h;cases h
  ·rw[if_neg e]at h
   rcases abB.1 hp with rfl|hp
   ·exact e
   ·exact vF x l (i+1) h p hp
theorem vE (x:α):∀(l:List (α×β)) (i j:Nat),jW x (l.map (·.1)) i=some j->∃A p B,l=A++p::B/\j=i+A.length/\x=p.1/\∀q,q∈A->x≠q.1
 |[],_,_,h=>by cases h
 |q::l,i,j,h=>by
  simp only[abR,jW]at h
  by_cases e:x=q.1
  ·rw[if_pos e]at h;cases h
   exact⟨[],q,l,rfl,rfl,e,by simp⟩
  ·rw[if_neg e]at h
   obtain⟨A,p,B,h1,h2,h3,h4⟩:=vE x l (i+1) j h
   refine⟨q::A,p,B,by rw[h1];rfl,by simp;omega,h3,fun r hr=> ?_⟩
   rcases abB.1 hr with rfl|hr
   ·exact e
   ·exact h4 r hr
theorem pK (x:α):∀(A:List (α×β)) (B:List (α×β)),(∀q,q∈A->x≠q.1)->(A++B).find? (fun p=>decide (x=p.1))=B.find? (fun p=>decide (x=p.1))
 |[],_,_=>rfl
 |a::A,B,h=>by
  rw[afR,adT]
  have:decide (x=a.1)=false:=abU (h a (aaR ..))
  rw[this]
  exact pK x A B fun q hq=>h q (aaQ _ hq)
theorem aAu (l:List (α×β)) (x k:α) (y:β):(fJ l x y).find? (fun p=>decide (k=p.1))=if k=x then some (x,y)else l.find? (fun p=>decide (k=p.1)):=by
 unfold fJ
 cases hi:jW x (l.map (·.1)) 0 with
 |none=>
  have h:=vF x l 0 hi;simp only[];by_cases e:k=x
  ·subst e;rw[if_pos rfl,pK _ _ _ h,adT];simp
  ·rw[if_neg e,adJ]
   cases l.find? (fun p=>decide (k=p.1))with
   |some _=>rfl
   |none=>simp[e]
 |some j=>
  obtain⟨A,p,B,rfl,h2,h3,h4⟩:=vE x l 0 j hi;have ej:j=A.length:=by omega
  subst ej;simp only[]
  have es:(A++p::B).set A.length (x,y)=A++(x,y)::B:=by
   rw[List.set_append_right _ _ (abD _)];simp
  rw[es];by_cases e:k=x
  ·subst e;rw[if_pos rfl,pK _ _ _ h4,adT];simp
  ·rw[if_neg e,adJ,adJ,adT,adT];have h5:decide (k=x)=false:=abU e;have h6:decide (k=p.1)=false:=abU (fun h=>e (by rw[h,h3]));simp only[h5,h6]
theorem pI (l:List (α×β)) (x k:α) (y z:β):gM (fJ l x y) z k=if k=x then y else gM l z k:=by
 unfold gM;rw[aAu];by_cases e:k=x
 ·rw[if_pos e,if_pos e]
 ·rw[if_neg e,if_neg e]
theorem hM_find (l:List (α×β)) (k:α):hM l k=(l.find? (fun p=>decide (k=p.1))).isSome:=by
 unfold hM
 induction l with
 |nil=>rfl
 |cons a l ih=>
  rw[acO,adT]
  cases decide (k=a.1)with
  |true=>rfl
  |false=>simpa using ih
theorem hM_upd (l:List (α×β)) (x k:α) (y:β):hM (fJ l x y) k=(decide (k=x)||hM l k):=by
 rw[hM_find,hM_find,aAu];by_cases e:k=x
 ·rw[if_pos e];simp[e]
 ·rw[if_neg e];simp[e]
end
theorem uF {β:Type}:∀(k:Nat) (l:List (Int×β)),(∀i,i<k->∃p,p∈l/\p.1=((i:Nat):Int))->k<=l.length
 |0,_,_=>abM _
 |k+1,l,h=>by
  obtain⟨p,hp,e⟩:=h k (by omega)
  have ih:=uF k (l.filter fun q=> !decide (q.1=((k:Nat):Int))) fun i hi=>by
   obtain⟨q,hq,eq⟩:=h i (by omega)
   exact⟨q,adP.2 ⟨hq,by simp;omega⟩,eq⟩
  have hlt:(l.filter fun q=> !decide (q.1=((k:Nat):Int))).length<l.length:=by
   rcases agD (l.filter fun q=> !decide (q.1=((k:Nat):Int))).length l.length with h2|h2
   ·exact h2
   ·have:=List.length_filter_eq_length_iff.1 (Nat.le_antisymm (List.length_filter_le _ l) h2) p hp
    simp[e]at this
  omega
end Go.Abs
namespace Go.Abs
abbrev agB:=@List.dropLast_concat_getLast
def pty (k w:Int):Int×Bool:=if k=4/\0<=w/\w<12 then(w,true)else if k=3/\0<=w/\w<6 then(12+w,true)else(0,false)
theorem wH {x1 x2 x3 x4 x5 x6 x7}:
  f50 x1 x2 x3 x4 x5 x6 x7=some (pty x2 x3):=by
 unfold f50 pty f57;by_cases h4:x2=4/\0<=x3/\x3<12
 ·rw[if_pos h4,if_pos (by simp[h4.1,h4.2.1,h4.2.2])]
 ·rw[if_neg h4,if_neg (by simp;omega)];by_cases h3:x2=3
  ·have e:((x2==(3:Int))==true)=true:=by simp[h3]
   rw[e,hJ,aC];by_cases hw:0<=x3/\x3<6
   ·rw[if_pos (by simp[h3,hw.1,hw.2]),if_pos ⟨h3,hw⟩,aA (by omega)]
   ·rw[if_neg (by simp;omega),if_neg (by omega)]
  ·have e:((x2==(3:Int))==true)=false:=by simp[h3]
   rw[e,iO,if_neg (by simp),if_neg (fun h=>h3 h.1)]
def st (p:Y51):Bool:=(pty p.2.1 p.2.2.1).2
abbrev yC (p:Y51):Int×Bool:=pty p.2.1 p.2.2.1
abbrev slot (p:Y51):Int:=p.2.2.2.1
abbrev fS (p:Y51):aaA:=p.2.2.2.2.2.1
theorem xW {p:Y51} (h:st p=true):p.2.1=4\/p.2.1=3:=by
 unfold st pty at h;by_cases h4:p.2.1=4/\0<=p.2.2.1/\p.2.2.1<12
 ·exact .inl h4.1
 ·rw[if_neg h4]at h;by_cases h3:p.2.1=3/\0<=p.2.2.1/\p.2.2.1<6
  ·exact .inr h3.1
  ·rw[if_neg h3]at h;cases h
abbrev MV_ :=List Tq5
abbrev MX_ :=List Tq3
abbrev MS_ :=List Ty0
abbrev MA_ :=List Tq1
abbrev MQ_ :=List iB
abbrev MK_ :=List gZ
def seeV (a:MV_) (s:Int) (t:aaA):MV_:=if hM a s=true then a else fJ a s t
def seeX (a:MV_) (b:MX_) (s:Int) (t:aaA):MX_:=if hM a s=true then(if(gM a [] s==t)=true then b else fJ b s true)else b
def seeS (c:MS_) (q s:Int) (t:aaA):MS_:=if hM c (q,s)=true then c else fJ c (q,s) t
def seeA (d:MA_) (k w:Int):MA_:=if(k==3)=true then fJ d w (gM d 0 w+1)else d
theorem f57_eq {x1 x2 x3 x4 x5 x6 x7}:
  f57 x1 x2 x3 x4 x5 x6 x7=some (decide (x3>=0)&&decide (x3<6)):=rfl
theorem optc_bnd {α β:Type} [Inhabited α] {c:Bool} {a:α} {k:α->Option β}:gB c (some a) k=k (if c=true then a else default):=by
 cases c<;>rfl
theorem f45_st {x1 x2 x3 x4 x5 x6 x7} (a:MV_) (b:MX_) (c:MS_) (d:MA_) (e:MS_) (f:MQ_) (g:MK_) (h:(pty x2 x3).2=true) (hb: -9223372036854775808<=gM d 0 x3+1/\gM d 0 x3+1<=9223372036854775807):
  f45 x1 x2 x3 x4 x5 x6 x7 a b c d e f g=some (seeV a x4 x6,seeX a b x4 x6,seeS c (pty x2 x3).1 x4 x6,seeA d x2 x3,e,f,g):=by
 have hk:x2≠1/\x2≠2:=by
  unfold pty at h;by_cases h4:x2=4/\0<=x3/\x3<12
  ·omega
  ·rw[if_neg h4]at h;by_cases h3:x2=3/\0<=x3/\x3<6
   ·omega
   ·rw[if_neg h3]at h;cases h
 have e1:(x2==(1:Int))=false:=by simp[hk.1]
 have e2:(x2==(2:Int))=false:=by simp[hk.2]
 unfold f45;rw[bO,wH,aC,if_pos h];simp only[bO,e1,e2,iO,acI,show(false==true)=false from rfl];unfold seeV seeX seeS seeA
 cases h1:hM a x4 with
 |false=>
  cases h3:hM c ((pty x2 x3).1,x4)with
  |false=>
   cases h4:(x2==3)with
   |false=>rfl
   |true=>simp[aA hb]
  |true=>
   cases h4:(x2==3)with
   |false=>rfl
   |true=>simp[aA hb]
 |true=>
  cases h2:(gM a [] x4==x6)with
  |false=>
   cases h3:hM c ((pty x2 x3).1,x4)with
   |false=>
    cases h4:(x2==3)with
    |false=>rfl
    |true=>simp[aA hb]
   |true=>
    cases h4:(x2==3)with
    |false=>rfl
    |true=>simp[aA hb]
  |true=>
   cases h3:hM c ((pty x2 x3).1,x4)with
   |false=>
    cases h4:(x2==3)with
    |false=>rfl
    |true=>simp[aA hb]
   |true=>
    cases h4:(x2==3)with
    |false=>rfl
    |true=>simp[aA hb]
def gV (s:MV_×MX_) (p:Y51):MV_×MX_:=if st p=true then(seeV s.1 (slot p) (fS p),seeX s.1 s.2 (slot p) (fS p))else s
def comV (x:List Y51):MV_×MX_:=x.foldl gV ([],[])
theorem oM {α:Type} (l:List α) (j:Nat) (d:α) (h:j<l.length):l.take (j+1)=l.take j++[l.getD j d]:=by
 rw[agT];simp[aaC,h]
theorem pY (x:List Y51) (hx:x.length<=9223372036854775807) (K:Int->Option Bool) (hK:∀i,∃b,K i=some b/\(b=true->x.length<=60)):∀(m k n:Nat) (i:Int),n+m=x.length->m<k->∃b,jF x K k (i,n)=some b/\(b=true->x.length<=60)
 |0,k,n,i,hn,hk=>by
  obtain⟨k,rfl⟩:∃z,k=z+1:=⟨k-1,by omega⟩
  conv=>enter [1,b,1,1];unfold jF
  rw[aL (by omega)]
  exact hK i
 |m+1,k,n,i,hn,hk=>by
  obtain⟨k,rfl⟩:∃z,k=z+1:=⟨k-1,by omega⟩
  conv=>enter [1,b,1,1];unfold jF
  rw[aP (by omega),aA (by omega),aA (by omega),aA (by omega)]
  exact pY x hx K hK m k (n+1) _ (by omega) (by omega)
theorem f16_some (x:List Y51) (hx:x.length<=9223372036854775807):∃b,f16 x=some b/\(b=true->x.length<=60):=by
 unfold f16;rw[bO]
 exact pY x hx _ (fun i => ⟨_,rfl,fun h=>by
  simp only[aaI,aaY]at h;omega⟩) x.length bB 0 0 (by omega) (fuel_lt (by omega))
def tx (x:List Y51) (s:Int):List Ty1:=(x.filter fun p=>st p&&decide (slot p=s)).map fS
theorem tx_app (x y:List Y51) (s:Int):tx (x++y) s=tx x s++tx y s:=by
 unfold tx;rw[aeK,afZ]
theorem tx_one (p:Y51) (s:Int):tx [p] s=if st p=true/\slot p=s then[fS p]else[]:=by
 unfold tx;by_cases h:st p=true/\slot p=s
 ·rw[if_pos h,adB (by simp[h.1,h.2])];rfl
 ·rw[if_neg h,acC (by simpa using h)];rfl
structure ComI (x:List Y51) (a:MV_) (b:MX_):Prop where
 h:∀s,hM a s= !(tx x s).isEmpty
 g:∀s,gM a [] s=(tx x s).headD []
 m:∀s,gM b false s=(tx x s).any fun t=> !(t==(tx x s).headD [])
theorem comI :∀x:List Y51,ComI x (comV x).1 (comV x).2:=by
 intro x;generalize hn:x.length=n
 induction n generalizing x with
 |zero=>
  obtain rfl:=acB hn
  exact⟨fun s=>rfl,fun s=>rfl,fun s=>rfl⟩
 |succ n ih=>
  have hne:x≠[]:=fun e=>by subst e;cases hn
  obtain⟨y,p,rfl⟩:∃y p,x=y++[p]:=⟨x.dropLast,x.getLast hne,(agB hne).symm⟩;have hI:=ih y (by simpa using hn);have e:comV (y++[p])=gV (comV y) p:=by unfold comV;rw[adD];rfl
  rw[e];generalize(comV y)=q at hI;obtain⟨a,b⟩:=q;unfold gV;by_cases hs:st p=true
  ·rw[if_pos hs];dsimp only
   have ht:∀s,tx (y++[p]) s=if slot p=s then tx y s++[fS p]else tx y s:=fun s=>by
    rw[tx_app,tx_one];by_cases h:slot p=s
    ·rw[if_pos ⟨hs,h⟩,if_pos h]
    ·rw[if_neg (fun q=>h q.2),if_neg h,adU]
   have hh:=hI.h (slot p);have hg:=hI.g (slot p);have hm:=hI.m (slot p);unfold seeV seeX
   cases hT:tx y (slot p)with
   |nil=>
    rw[hT]at hh hg hm;simp only[List.isEmpty_nil,acL]at hh;rw[if_neg (by rw[hh];simp),if_neg (by rw[hh];simp)];refine⟨fun s=> ?_,fun s=> ?_,fun s=> ?_⟩
    ·rw[hM_upd,ht];by_cases h:slot p=s
     ·subst h;rw[if_pos rfl];simp
     ·rw[if_neg h,hI.h s,abU (fun e=>h e.symm)];simp
    ·rw[pI,ht];by_cases h:slot p=s
     ·subst h;rw[if_pos rfl,if_pos rfl,hT];rfl
     ·rw[if_neg h,if_neg (fun e=>h e.symm),hI.g s]
    ·rw[ht];by_cases h:slot p=s
     ·subst h;rw[if_pos rfl,hT,hm];simp
     ·rw[if_neg h,hI.m s]
   |cons t r=>
    rw[hT]at hh hg hm;simp only[List.isEmpty_cons,adN]at hh;simp only[List.headD_cons]at hg;rw[if_pos hh,if_pos hh,hg];refine⟨fun s=> ?_,fun s=> ?_,fun s=> ?_⟩
    ·rw[hI.h s,ht];by_cases h:slot p=s
     ·subst h;rw[if_pos rfl,hT];simp
     ·rw[if_neg h]
    ·rw[hI.g s,ht];by_cases h:slot p=s
     ·subst h;rw[if_pos rfl,hT];rfl
     ·rw[if_neg h]
    ·rw[ht];by_cases h:slot p=s
     ·subst h;rw[if_pos rfl,hT];by_cases h3:(t==fS p)=true
      ·rw[if_pos h3,hm];have h4:fS p=t:=(eq_of_beq h3).symm;simp[h4]
      ·rw[if_neg h3,pI,if_pos rfl]
       have h4:(fS p==t)=false:=by
        cases h5:(fS p==t)with
        |false=>rfl
        |true=>exact absurd (by rw[eq_of_beq h5];simp) h3
       simp[h4]
     ·rw[if_neg h];split
      ·exact hI.m s
      ·rw[pI,if_neg (fun e=>h e.symm),hI.m s]
  ·rw[if_neg hs];have ht:∀s,tx (y++[p]) s=tx y s:=fun s=>by rw[tx_app,tx_one,if_neg (fun q=>hs q.1),adU]
   exact⟨fun s=>by rw[ht];exact hI.h s,fun s=>by rw[ht];exact hI.g s,fun s=>by rw[ht];exact hI.m s⟩
/-! ### the reference's Common -/
abbrev Cfg_ :=aaA×Int×BitVec 16×aaB×aaB×(List Tq7)
section
variable {x1:List Ty1} {x2:List (aaA×BitVec 16)} {x3:BitVec 16} {x4:List Cfg_} {x5:List Int} {x6:List (aaA×Bool×(List Tq7))}
end
theorem f16_few (x:List Y51) (hx:x.length<=9223372036854775807) (ht:∀p∈x,(fS p).length<=140737488355328/\p.2.2.2.2.2.2.length<=140737488355328):∃b,f16 x=some b/\(b=true->x.length<=60/\∀p∈x,(fS p).length<=20000):=by
 obtain⟨b,h1,h2⟩:=f16_some x hx;refine⟨b,h1,fun hb=> ?_⟩;have h60:=h2 hb;refine⟨h60, ?_⟩;subst hb
 have hw:∀z:Int,0<=z->z<=9223372036854775807->IntKind.wrap .i64 z=z:=fun z h1 h2=>by
  unfold IntKind.wrap;simp[IntKind.bits,IntKind.signed];omega
 have main:∀d k n (s:Int),n+d=x.length->d<k->0<=s->s<=n *281474976710656->jF x (fun(i4:Int)=>some ((decide ((((x).length:Nat):Int)<=(60:Int)))&&(decide (i4<=(20000:Int))))) k (s,n)=some true->s<=20000/\∀p∈x.drop n,(fS p).length<=20000:=by
  intro d
  induction d with
  |zero=>
   intro k n s hn hk h0 hs h;obtain⟨k,rfl⟩:∃z,k=z+1:=⟨k-1,by omega⟩;rw[jF.eq_2,aL (by omega)]at h;simp only[Option.some.injEq,aaI,aaY]at h;refine⟨h.2,fun p hp=> ?_⟩
   rw[abA (by omega)]at hp;cases hp
  |succ d ih=>
   intro k n s hn hk h0 hs h;obtain⟨k,rfl⟩:∃z,k=z+1:=⟨k-1,by omega⟩;have hp:=ht _ (bQ x n (default:Y51) (by omega));have hd:=getD_drop x n (default:Y51) (by omega);rw[jF.eq_2,aP (by omega),aA (by omega),aA (by omega),aA (by omega)]at h;rw[hd];generalize x.getD n (default:Y51)=p at h hp;have hp1:(p.2.2.2.2.2.1).length<=140737488355328:=hp.1;rw[hw (s+((p.2.2.2.2.2.1.length:Nat):Int)) (by omega) (by omega),hw _ (by omega) (by omega)]at h;obtain⟨g1,g2⟩:=ih k (n+1) _ (by omega) (by omega) (by omega) (by omega) h;refine⟨by omega,fun q hq=> ?_⟩;rcases abB.1 hq with rfl|hq
   ·show(q.2.2.2.2.2.1).length<=_;omega
   ·exact g2 q hq
 unfold f16 at h1;rw[bO]at h1;have:=main x.length bB 0 0 (by omega) (fuel_lt (by omega)) (aeI _) (by simp) h1;simpa using this.2
end Go.Abs
namespace Go.Abs
abbrev who (p:Y51):Int:=p.2.2.1
abbrev nmb (p:Y51):Int:=p.2.2.2.2.1
abbrev Rec_ :=MV_×MX_×MS_×MA_×MS_×MQ_×MK_
def cl (p:Y51):Bool:=decide (p.2.2.1>=0)&&decide (p.2.2.1<6)
def iv (p:Y51):Bool:=(p.2.1==1)&&cl p
def ak (p:Y51):Bool:=(p.2.1==2)&&cl p
def seeE (e:MS_) (p:Y51):MS_:=if iv p=true then(if hM e (who p,nmb p)=true then e else fJ e (who p,nmb p) (fS p))else e
def seeQ (f:MQ_) (p:Y51):MQ_:=if iv p=true then fJ f (who p,nmb p,fS p) true else f
def seeK (g:MK_) (p:Y51):MK_:=if ak p=true then fJ g (who p,nmb p) true else g
def seeP (q:MS_×MA_) (p:Y51):MS_×MA_:=if st p=true then(seeS q.1 (yC p).1 (slot p) (fS p),seeA q.2 p.2.1 (who p))else q
def kH (q:Rec_) (p:Y51):Rec_:=((gV (q.1,q.2.1) p).1,(gV (q.1,q.2.1) p).2,(seeP (q.2.2.1,q.2.2.2.1) p).1,(seeP (q.2.2.1,q.2.2.2.1) p).2,seeE q.2.2.2.2.1 p,seeQ q.2.2.2.2.2.1 p,seeK q.2.2.2.2.2.2 p)
theorem yU (p:Y51) (a:MV_) (b:MX_) (c:MS_) (d:MA_) (e:MS_) (f:MQ_) (g:MK_) (hb: -9223372036854775808<=gM d 0 (who p)+1/\gM d 0 (who p)+1<=9223372036854775807):
  f45 p.1 p.2.1 p.2.2.1 p.2.2.2.1 p.2.2.2.2.1 p.2.2.2.2.2.1 p.2.2.2.2.2.2 a b c d e f g=some (kH (a,b,c,d,e,f,g) p):=by
 unfold kH gV seeP;by_cases h:st p=true
 ·rw[if_pos h,if_pos h];have hk:=xW h;have e1:iv p=false:=by unfold iv;rcases hk with h|h<;>rw[h]<;>rfl
  have e2:ak p=false:=by unfold ak;rcases hk with h|h<;>rw[h]<;>rfl
  rw[f45_st a b c d e f g h hb];unfold seeE seeQ seeK;rw[e1,e2];rfl
 ·have h':(pty p.2.1 p.2.2.1).2=false:=by simpa[st]using h
  rw[if_neg h,if_neg h];unfold f45;rw[bO,wH,aC,if_neg (by rw[h'];simp)];dsimp only;simp only[f57_eq,optc_bnd];unfold seeE seeQ seeK iv ak;have hc:(decide (p.2.2.1>=0)&&decide (p.2.2.1<6))=cl p:=rfl;rw[hc]
  cases h1:(p.2.1==(1:Int))with
  |true=>
   have h2:(p.2.1==(2:Int))=false:=by
    have:=eq_of_beq h1;rw[this];rfl
   rw[h2]
   cases cl p with
   |false=>rfl
   |true=>
    cases hM e (who p,nmb p)<;>rfl
  |false=>
   cases h2:(p.2.1==(2:Int))with
   |false=>rfl
   |true=>
    cases cl p with
    |false=>rfl
    |true=>rfl
def FI {K:Type} [DecidableEq K] (c:List (K×aaA)) (L:K->List Ty1):Prop:=∀k,hM c k= !(L k).isEmpty/\gM c [] k=(L k).headD []
theorem FI_step {K:Type} [DecidableEq K] {c:List (K×aaA)} {L:K->List Ty1} (hI:FI c L) (k0:K) (t:aaA) (L':K->List Ty1) (hL:∀k,L' k=if k=k0 then L k++[t]else L k):
  FI (if hM c k0=true then c else fJ c k0 t) L':=by
 intro k;obtain⟨h1,h2⟩:=hI k;rw[hL];by_cases hh:hM c k0=true
 ·rw[if_pos hh];by_cases e:k=k0
  ·subst e;rw[if_pos rfl]
   cases hz:L k with
   |nil=>rw[h1,hz]at hh;simp at hh
   |cons x r=>rw[h1,h2,hz];exact⟨rfl,rfl⟩
  ·rw[if_neg e];exact⟨h1,h2⟩
 ·rw[if_neg hh,hM_upd,pI];by_cases e:k=k0
  ·subst e
   cases hz:L k with
   |nil=>rw[if_pos rfl,if_pos rfl];simp
   |cons x r=>rw[h1,hz]at hh;simp at hh
  ·rw[if_neg e,if_neg e,abU e,adC];exact⟨h1,h2⟩
def tsL (y:List Y51) (k:Tq1):List Ty1:=(y.filter fun p=>st p&&(decide ((yC p).1=k.1)&&decide (slot p=k.2))).map fS
def ivL (y:List Y51) (k:Tq1):List Ty1:=(y.filter fun p=>iv p&&(decide (who p=k.1)&&decide (nmb p=k.2))).map fS
def akB (y:List Y51) (k:Tq1):Bool:=y.any fun p=>ak p&&(decide (who p=k.1)&&decide (nmb p=k.2))
def asB (y:List Y51) (k:Tq0):Bool:=y.any fun p=>iv p&&(decide (who p=k.1)&&(decide (nmb p=k.2.1)&&decide (fS p=k.2.2)))
def acN (y:List Y51) (w:Int):Nat:=(y.filter fun p=>st p&&((p.2.1==3)&&decide (who p=w))).length
def xP (y:List Y51):Rec_:=y.foldl kH ([],[],[],[],[],[],[])
theorem rec_com :∀(y:List Y51) (q:Rec_),((y.foldl kH q).1,(y.foldl kH q).2.1)=y.foldl gV (q.1,q.2.1)
 |[],q=>rfl
 |p::y,q=>by
  rw[acR,acR,rec_com y (kH q p)]
  rfl
def RI (y:List Y51) (q:Rec_):Prop:=FI q.2.2.1 (tsL y)/\(∀w,gM q.2.2.2.1 0 w=((acN y w:Nat):Int))/\FI q.2.2.2.2.1 (ivL y)/\(∀k,gM q.2.2.2.2.2.1 false k=asB y k)/\(∀k,gM q.2.2.2.2.2.2 false k=akB y k)
theorem RI_step {y:List Y51} {q:Rec_} (p:Y51) (h:RI y q):RI (y++[p]) (kH q p):=by
 obtain⟨hc,hd,he,hf,hg⟩:=h;obtain⟨a,b,c,d,e,f,g⟩:=q;dsimp only at hc hd he hf hg
 have hT:∀k,tsL (y++[p]) k=if st p=true/\(yC p).1=k.1/\slot p=k.2 then tsL y k++[fS p]else tsL y k:=fun k=>by
  unfold tsL;rw[aeK,afZ];by_cases h:st p=true/\(yC p).1=k.1/\slot p=k.2
  ·rw[if_pos h,adB (by rw[h.1,abL h.2.1,abL h.2.2];rfl)];rfl
  ·rw[if_neg h,acC (by simpa using h)];exact adU _
 have hV:∀k,ivL (y++[p]) k=if iv p=true/\who p=k.1/\nmb p=k.2 then ivL y k++[fS p]else ivL y k:=fun k=>by
  unfold ivL;rw[aeK,afZ];by_cases h:iv p=true/\who p=k.1/\nmb p=k.2
  ·rw[if_pos h,adB (by rw[h.1,abL h.2.1,abL h.2.2];rfl)];rfl
  ·rw[if_neg h,acC (by simpa using h)];exact adU _
 unfold kH seeP;refine⟨?_,fun w=> ?_, ?_,fun k=> ?_,fun k=> ?_⟩
 ·show FI (if st p=true then(seeS c (yC p).1 (slot p) (fS p),seeA d p.2.1 (who p))else(c,d)).1 _;by_cases h:st p=true
  ·rw[if_pos h];refine FI_step hc ((yC p).1,slot p) (fS p) _ fun k=> ?_;rw[hT];by_cases e:k=((yC p).1,slot p)
   ·subst e;rw[if_pos ⟨h,rfl,rfl⟩,if_pos rfl]
   ·rw[if_neg e,if_neg (fun z=>e (by obtain⟨_,z1,z2⟩:=z;rw[z1,z2]))]
  ·rw[if_neg h];intro k;rw[hT,if_neg (fun z=>h z.1)];exact hc k
 ·show gM (if st p=true then(seeS c (yC p).1 (slot p) (fS p),seeA d p.2.1 (who p))else(c,d)).2 0 w=_;unfold acN;rw[aeK,aaH];have hd':=hd w;unfold acN at hd';by_cases h:st p=true
  ·rw[if_pos h];show gM (seeA d p.2.1 (who p)) 0 w=_;unfold seeA;by_cases h3:(p.2.1==(3:Int))=true
   ·rw[if_pos h3,pI];by_cases hw:w=who p
    ·subst hw;rw[if_pos rfl,hd',adB (by rw[h,h3,abL rfl];rfl)];simp
    ·rw[if_neg hw,hd',acC (by rw[abU (fun z=>hw z.symm)];simp)];simp
   ·rw[if_neg h3,hd',acC (by rw[show(p.2.1==(3:Int))=false by simpa using h3];simp)];simp
  ·rw[if_neg h,acC (by rw[show st p=false by simpa using h];simp)];exact hd'.trans (by simp)
 ·show FI (seeE e p) _;unfold seeE;by_cases h:iv p=true
  ·rw[if_pos h];refine FI_step he (who p,nmb p) (fS p) _ fun k=> ?_;rw[hV];by_cases e:k=(who p,nmb p)
   ·subst e;rw[if_pos ⟨h,rfl,rfl⟩,if_pos rfl]
   ·rw[if_neg e,if_neg (fun z=>e (by obtain⟨_,z1,z2⟩:=z;rw[z1,z2]))]
  ·rw[if_neg h];intro k;rw[hV,if_neg (fun z=>h z.1)];exact he k
 ·show gM (seeQ f p) false k=_;unfold seeQ asB;rw[agA];have hf':=hf k;unfold asB at hf';by_cases h:iv p=true
  ·rw[if_pos h,pI];by_cases e:k=(who p,nmb p,fS p)
   ·subst e;rw[if_pos rfl];simp[h]
   ·rw[if_neg e,hf',acO,h]
    have:(decide (who p=k.1)&&(decide (nmb p=k.2.1)&&decide (fS p=k.2.2)))=false:=by
     by_cases z1:who p=k.1
     ·by_cases z2:nmb p=k.2.1
      ·by_cases z3:fS p=k.2.2
       ·exact absurd (by rw[z1,z2,z3]) e
       ·rw[abU z3];simp
      ·rw[abU z2];simp
     ·rw[abU z1];simp
    rw[this];simp
  ·rw[if_neg h,hf',acO,show iv p=false by simpa using h];simp
 ·show gM (seeK g p) false k=_;unfold seeK akB;rw[agA];have hg':=hg k;unfold akB at hg';by_cases h:ak p=true
  ·rw[if_pos h,pI];by_cases e:k=(who p,nmb p)
   ·subst e;rw[if_pos rfl];simp[h]
   ·rw[if_neg e,hg',acO,h]
    have:(decide (who p=k.1)&&decide (nmb p=k.2))=false:=by
     by_cases z1:who p=k.1
     ·by_cases z2:nmb p=k.2
      ·exact absurd (by rw[z1,z2]) e
      ·rw[abU z2];simp
     ·rw[abU z1];simp
    rw[this];simp
  ·rw[if_neg h,hg',acO,show ak p=false by simpa using h];simp
theorem recI (y:List Y51):ComI y (xP y).1 (xP y).2.1/\RI y (xP y):=by
 refine⟨?_, ?_⟩
 ·have h:=comI y;have e:=rec_com y ([],[],[],[],[],[],[]);unfold xP;unfold comV at h;rw[<-e]at h;exact h
 ·generalize hn:y.length=n
  induction n generalizing y with
  |zero=>
   obtain rfl:=acB hn
   exact⟨fun k=>⟨rfl,rfl⟩,fun w=>rfl,fun k=>⟨rfl,rfl⟩,fun k=>rfl,fun k=>rfl⟩
  |succ n ih=>
   have hne:y≠[]:=fun e=>by subst e;cases hn
   obtain⟨z,p,rfl⟩:∃z p,y=z++[p]:=⟨y.dropLast,y.getLast hne,(agB hne).symm⟩;have e:xP (z++[p])=kH (xP z) p:=by unfold xP;rw[adD];rfl
   rw[e];exact RI_step p (ih z (by simpa using hn))
theorem oT (y:List Y51) (p:Y51):xP (y++[p])=kH (xP y) p:=by unfold xP;rw[adD];rfl
end Go.Abs
namespace Go.Abs
theorem beqD {α:Type} [BEq α] [LawfulBEq α] [DecidableEq α] (a b:α):(a==b)=decide (a=b):=by
 by_cases h:a=b
 ·subst h;simp
 ·simp[h]
theorem pty_nn {k w:Int} (h:(pty k w).2=true):0<=(pty k w).1:=by
 unfold pty at h⊢;by_cases h4:k=4/\0<=w/\w<12
 ·rw[if_pos h4];exact h4.2.1
 ·rw[if_neg h4]at h⊢;by_cases h3:k=3/\0<=w/\w<6
  ·rw[if_pos h3];show 0<=12+w;omega
  ·rw[if_neg h3]at h;cases h
def pt (p:Y51):Int:=if st p=true then(yC p).1 else-1
theorem pP (p:Y51):f52 p.1 p.2.1 p.2.2.1 p.2.2.2.1 p.2.2.2.2.1 p.2.2.2.2.2.1 p.2.2.2.2.2.2=some (pt p):=by
 unfold f52 pt st yC pty;by_cases h4:p.2.1=4/\0<=p.2.2.1/\p.2.2.1<12
 ·rw[if_pos (by simp[h4.1,h4.2.1,h4.2.2]),if_pos h4,if_pos rfl]
 ·rw[if_neg (by simp;omega),if_neg h4];by_cases h3:p.2.1=3/\0<=p.2.2.1/\p.2.2.1<6
  ·rw[if_pos (by simp[h3.1,h3.2.1,h3.2.2]),if_pos h3,aA (by omega),if_pos rfl]
  ·rw[if_neg (by simp;omega),if_neg h3,if_neg (by simp)]
theorem pt_st (p:Y51):decide (pt p>=0)=st p:=by
 unfold pt;by_cases h:st p=true
 ·rw[if_pos h,h];exact abL (pty_nn h)
 ·rw[if_neg h,show st p=false by simpa using h];rfl
theorem pt_eq (p:Y51) (q:Int) (hq:0<=q):(pt p==q)=(st p&&decide ((yC p).1=q)):=by
 unfold pt;by_cases h:st p=true
 ·rw[if_pos h,h,acD];exact beqD _ _
 ·rw[if_neg h,show st p=false by simpa using h,acI];exact beq_eq_false_iff_ne.2 (by omega)
theorem vP (y:List Y51) (hy:y.length<=1000000) (q s:Int) (hq:0<=q) (K:Unit->Option (aaA×Bool)):∀(d k n:Nat),n+d=y.length->d<k->
  mX y q s K k n=(match tsL (y.drop n) (q,s)with|[]=>K ()|t::_=>some (t,true))
 |0,k,n,hn,hk=>by
  obtain⟨k,rfl⟩:∃z,k=z+1:=⟨k-1,by omega⟩
  rw[abA (by omega)]
  conv=>lhs;unfold mX
  rw[aL (by omega)]
  rfl
 |d+1,k,n,hn,hk=>by
  obtain⟨k,rfl⟩:∃z,k=z+1:=⟨k-1,by omega⟩
  have e1:=getD_drop y n (default:Y51) (by omega)
  rw[e1]
  conv=>lhs;unfold mX
  rw[aP (by omega),pP,aC,aA (by omega),aA (fun _=>by omega),pt_eq _ q hq]
  have ih:=vP y hy q s hq K d k (n+1) (by omega) (by omega)
  generalize y.getD n (default:Y51)=p
  by_cases h:st p=true/\(yC p).1=q/\slot p=s
  ·rw[if_pos (by rw[h.1,abL h.2.1];simpa using h.2.2),aA (by omega)]
   unfold tsL
   rw[adB (by rw[h.1,abL h.2.1,abL h.2.2];rfl)]
   rfl
  ·rw [if_neg (fun z => h (by
    simp only[aaI,aaY,abY]at z
    exact⟨z.1.1,z.1.2,z.2⟩)),aA (by omega),ih]
   unfold tsL
   rw[acC (p:=fun p=>st p&&(decide ((yC p).1=(q,s).1)&&decide (slot p=(q,s).2))) (by simpa using h)]
theorem aAo (l:List Ty1):(match l with|[]=>(some ([],false):Option (aaA×Bool))|t::_=>some (t,true))=some (l.headD [], !l.isEmpty):=by
 cases l<;>rfl
theorem f95_eq (y:List Y51) (hy:y.length<=1000000) (q s:Int) (hq:0<=q):f95 y q s=some ((tsL y (q,s)).headD [], !(tsL y (q,s)).isEmpty):=by
 unfold f95;rw[bO,vP y hy q s hq _ y.length bB 0 (by omega) (fuel_lt (by omega)),abW];exact aAo _
theorem cl_of {p:Y51} {w:Int} (hw:0<=w/\w<6) (h:who p=w):cl p=true:=by
 unfold cl;have h1:p.2.2.1=w:=h;rw[h1,abL hw.1,abL hw.2];rfl
theorem vQ (y:List Y51) (hy:y.length<=1000000) (w m:Int) (hw:0<=w/\w<6) (K:Unit->Option (aaA×Bool)):∀(d k n:Nat),n+d=y.length->d<k->
  mY y w m K k n=(match ivL (y.drop n) (w,m)with|[]=>K ()|t::_=>some (t,true))
 |0,k,n,hn,hk=>by
  obtain⟨k,rfl⟩:∃z,k=z+1:=⟨k-1,by omega⟩
  rw[abA (by omega)]
  conv=>lhs;unfold mY
  rw[aL (by omega)]
  rfl
 |d+1,k,n,hn,hk=>by
  obtain⟨k,rfl⟩:∃z,k=z+1:=⟨k-1,by omega⟩
  have e1:=getD_drop y n (default:Y51) (by omega)
  rw[e1]
  conv=>lhs;unfold mY
  rw[aP (by omega),aA (by omega),aA (fun _=>by omega),aA (fun _=>by omega)]
  have ih:=vQ y hy w m hw K d k (n+1) (by omega) (by omega)
  generalize y.getD n (default:Y51)=p
  by_cases h:iv p=true/\who p=w/\nmb p=m
  ·have h1:(p.2.1==(1:Int))=true:=by
    have:=h.1;unfold iv at this;rw[aaI]at this;exact this.1
   have h2:p.2.2.1=w:=h.2.1
   have h3:p.2.2.2.2.1=m:=h.2.2
   rw[if_pos (by rw[h1,h2,h3];simp),aA (by omega)]
   unfold ivL
   rw[adB (by rw[h.1,abL h.2.1,abL h.2.2];rfl)]
   rfl
  ·rw [if_neg (fun z => h (by
    simp only[aaI,abY]at z
    refine⟨?_,z.1.2,z.2⟩
    unfold iv
    rw[cl_of hw z.1.2,z.1.1];rfl)),aA (by omega),ih]
   unfold ivL
   rw[acC (p:=fun p=>iv p&&(decide (who p=(w,m).1)&&decide (nmb p=(w,m).2))) (by simpa using h)]
theorem f94_eq (y:List Y51) (hy:y.length<=1000000) (w m:Int) (hw:0<=w/\w<6):f94 y w m=some ((ivL y (w,m)).headD [], !(ivL y (w,m)).isEmpty):=by
 unfold f94;rw[bO,vQ y hy w m hw _ y.length bB 0 (by omega) (fuel_lt (by omega)),abW];exact aAo _
theorem wL (y:List Y51) (hy:y.length<=1000000) (s:Int) (t:aaA) (r:Int) (K:Nat->Option Int):∀(d k n c:Nat),n+d=y.length->d<k->c<=n->
  nI y s t r K k (c,n)=if((tx (y.drop n) s).any fun u=> !(u==t))=true then some 1 else K (c+((y.drop n).filter fun p=>pt p==r).length)
 |0,k,n,c,hn,hk,hc=>by
  obtain⟨k,rfl⟩:∃z,k=z+1:=⟨k-1,by omega⟩
  rw[abA (by omega)]
  conv=>lhs;unfold nI
  rw[aL (by omega)]
  rfl
 |d+1,k,n,c,hn,hk,hc=>by
  obtain⟨k,rfl⟩:∃z,k=z+1:=⟨k-1,by omega⟩
  have e1:y.drop n=[y.getD n (default:Y51)]++y.drop (n+1):=getD_drop y n (default:Y51) (by omega)
  conv=>lhs;unfold nI
  rw[aP (by omega),bO,pP,aC,aA (by omega),aA (fun _=>by omega),aA (fun _=>by omega),pt_st]
  have ih:=fun c hc=>wL y hy s t r K d k (n+1) c (by omega) (by omega) hc
  rw[e1,tx_app,tx_one,agA,aeK,aaH]
  generalize y.getD n (default:Y51)=p
  have hsl:p.2.2.2.1=slot p:=rfl
  have htx:p.2.2.2.2.2.1=fS p:=rfl
  rw[hsl,htx]
  by_cases h:((st p&&(slot p==s))&&(!(fS p==t)))=true
  ·rw[if_pos h]
   simp only[aaI,abY]at h
   rw[if_pos h.1,if_pos (by rw[acO,h.2];rfl)]
  ·rw[if_neg h,aC,aA (by omega)]
   have h0:(if st p=true/\slot p=s then[fS p]else[]).any (fun u=> !(u==t))=false:=by
    by_cases h1:st p=true/\slot p=s
    ·rw[if_pos h1]
     rw[h1.1,h1.2]at h
     simpa using h
    ·rw[if_neg h1];rfl
   rw[h0,adC]
   by_cases h2:(pt p==r)=true
   ·rw[if_pos h2,aA (by omega)]
    dsimp only
    rw[aA (by omega),ih (c+1) (by omega),adB (p:=fun p=>pt p==r) h2]
    simp only[List.filter_nil,aaS,abT]
    rw[show c+1+((y.drop (n+1)).filter fun p=>pt p==r).length=c+(0+1+((y.drop (n+1)).filter fun p=>pt p==r).length) by omega]
   ·rw[if_neg h2]
    dsimp only
    rw[aA (by omega),ih c (by omega),acC (p:=fun p=>pt p==r) h2]
    simp only[List.filter_nil,abT,abX]
theorem any_mix (T:List Ty1) (t:aaA):(T.any fun u=> !(u==t))=(!T.isEmpty&&(!(T.headD []==t)||T.any fun u=> !(u==T.headD []))):=by
 cases T with
 |nil=>rfl
 |cons a r=>
  by_cases h:a=t
  ·subst h;simp
  ·have:(a==t)=false:=beq_false_of_ne h;simp[this]
end Go.Abs
namespace Go.Abs
abbrev ahE:=@Bool.and_assoc
theorem okRs_cl {l:List Ss} (h:okRs l):∀q∈l,0<=q.1/\q.1<6:=by
 intro q hq;obtain⟨i,hi,e⟩:=acM hq;have h1:=h i hi;unfold xQ at h1;have e2:l.getD i (default:Ss)=q:=by rw[aaC,aaT hi,e];rfl
 simp only[aaI]at h1;have h2:=fT (q:=q) (by first|exact e2▸h1.1|exact e2▸h1.2|(rw[<-e2];exact h1.1)|(rw[<-e2];exact h1.1.1));exact⟨h2.1,h2.2.1⟩
theorem dec_cl (x:aaA) (hx:x.length<=1000000):∃k c l e,f68 x=some (k,c,l,e)/\f61 x=some (k,c,l,e)/\l.length<=8/\∀q∈l,0<=q.1/\q.1<6:=by
 by_cases h:∃k c l,okE k c l/\cR (strs k c l)=x
 ·obtain⟨k,c,l,hE,rfl⟩:=h;refine⟨k,c,l,0,f68_hit hE,f61_hit hE, ?_⟩;rcases hE with⟨_,_,h,h2⟩|⟨_,_,_,rfl⟩|⟨_,_,rfl⟩
  ·exact⟨h,okRs_cl h2⟩
  ·simp
  ·simp
 ·have h':∀k c l,okE k c l->cR (strs k c l)≠x:=fun k c l hE e=>h ⟨k,c,l,hE,e⟩;exact⟨_,_,_,_,aAB x hx h',aAG x hx h',by simp⟩
def ctn (l:List Ss) (w m:Int) (op:aaA):Bool:=l.any fun q=>((q.1==w)&&(q.2.1==m))&&(q.2.2==op)
theorem rV (l:List Ss) (hl:l.length<=1000) (w m:Int) (op:aaA):∀(d k n:Nat),n+d=l.length->d<k->∃i:Int,jH l w m op (fun _=>some (-1:Int)) k n=some i/\decide (i>=0)=ctn (l.drop n) w m op
 |0,k,n,hn,hk=>by
  obtain⟨k,rfl⟩:∃z,k=z+1:=⟨k-1,by omega⟩
  rw[abA (by omega)]
  conv=>enter [1,i,1,1];unfold jH
  rw[aL (by omega)]
  exact⟨-1,rfl,rfl⟩
 |d+1,k,n,hn,hk=>by
  obtain⟨k,rfl⟩:∃z,k=z+1:=⟨k-1,by omega⟩
  obtain⟨i,h1,h2⟩:=rV l hl w m op d k (n+1) (by omega) (by omega)
  conv=>enter [1,i,1,1];unfold jH
  rw[aP (by omega),aA (by omega),getD_drop l n default (by omega)]
  unfold ctn
  rw[acO]
  generalize l.getD n default=q
  have e:((w==q.1)&&((m==q.2.1)&&((op==q.2.2)&&true)))=(((q.1==w)&&(q.2.1==m))&&(q.2.2==op)):=by
   rw[Bool.and_true,BEq.comm (a:=w),BEq.comm (a:=m),BEq.comm (a:=op),ahE]
  rw[e]
  cases hq:(((q.1==w)&&(q.2.1==m))&&(q.2.2==op))with
  |true=>
   rw[if_pos rfl]
   exact⟨_,rfl,by rw[afG];exact abL (by omega)⟩
  |false=>
   rw[if_neg (by simp),aA (by omega)]
   exact⟨i,h1,by rw[h2,adC];rfl⟩
theorem f89_eq (l:List Ss) (hl:l.length<=1000) (w m:Int) (op:aaA):f89 l w m op=some (ctn l w m op):=by
 obtain⟨i,h1,h2⟩:=rV l hl w m op l.length bB 0 (by omega) (fuel_lt (by omega));unfold f89 f122;rw[bO,h1,aC,h2,abW]
theorem vZ (w m:Int) (r10:aaA×Bool) (r12:Ent) (hl:r12.2.2.1.length<=1000) (K:Bool->Option Bool):∀(d k n:Nat) (b:Bool),n+d=r12.2.2.1.length->d<k->
  nD w m r10 r12 K k (b,n)=K (b||ctn (r12.2.2.1.drop n) w m r10.1)
 |0,k,n,b,hn,hk=>by
  obtain⟨k,rfl⟩:∃z,k=z+1:=⟨k-1,by omega⟩
  rw[abA (by omega)]
  conv=>lhs;unfold nD
  rw[aL (by omega)]
  simp[ctn]
 |d+1,k,n,b,hn,hk=>by
  obtain⟨k,rfl⟩:∃z,k=z+1:=⟨k-1,by omega⟩
  conv=>lhs;unfold nD
  rw[aP (by omega),aA (by omega),aA (fun h1 _ h3=>by rw[h1,h3];rfl),aA (fun h1 _ h3=>by rw[h1,h3];rfl),aA (by omega),vZ w m r10 r12 hl K d k (n+1) _ (by omega) (by omega),getD_drop r12.2.2.1 n default (by omega)]
  unfold ctn
  rw[acO,Bool.or_assoc]
theorem ak_eq {p:Y51} {w m:Int} (hw:0<=w/\w<6):(((p.2.1==(2:Int))&&(p.2.2.1==w))&&(p.2.2.2.2.1==m))=(ak p&&(decide (who p=w)&&decide (nmb p=m))):=by
 unfold ak;rw[beqD p.2.2.1 _,beqD p.2.2.2.2.1 _];by_cases h:p.2.2.1=w
 ·rw[cl_of hw h,abL h];simp
 ·rw[abU h];simp
theorem wA (y:List Y51) (hy:y.length<=1000000) (w m:Int) (hw:0<=w/\w<6) (K:Unit->Option Bool):∀(d k n:Nat),n+d=y.length->d<k->
  nE y w m K k n=if akB (y.drop n) (w,m)=true then some false else K ()
 |0,k,n,hn,hk=>by
  obtain⟨k,rfl⟩:∃z,k=z+1:=⟨k-1,by omega⟩
  rw[abA (by omega)]
  conv=>lhs;unfold nE
  rw[aL (by omega)]
  rfl
 |d+1,k,n,hn,hk=>by
  obtain⟨k,rfl⟩:∃z,k=z+1:=⟨k-1,by omega⟩
  conv=>lhs;unfold nE
  rw[aP (by omega),aA (by omega),aA (fun _=>by omega),aA (fun _=>by omega),wA y hy w m hw K d k (n+1) (by omega) (by omega),getD_drop y n default (by omega),ak_eq hw]
  unfold akB
  rw[acO]
  generalize y.getD n default=p
  cases h:(ak p&&(decide (who p=w)&&decide (nmb p=m)))with
  |true=>rw[if_pos rfl,if_pos (by rw[afG])]
  |false=>rw[if_neg (by simp),aA (by omega),adC]
theorem tsL_len (y:List Y51) (q:Int) (n:Nat) (h:∀i:Nat,i<n->tsL y (q,(i:Int))≠[]):n<=y.length:=by
 have:=uF n (y.map fun p=>(slot p,())) fun i hi=>by
  have h1:=h i hi;unfold tsL at h1;obtain⟨u,hu⟩:=List.exists_mem_of_ne_nil _ h1;obtain⟨p,hp,_⟩:=adO.1 hu;obtain⟨hp1,hp2⟩:=adP.1 hp;simp only[aaI,aaY]at hp2;exact⟨(slot p,()),adO.2 ⟨p,hp1,rfl⟩,hp2.2.2⟩
 simpa using this
theorem xR {y:List Y51} {k:Int×Int} {b:Nat} (hb:∀p∈y,(fS p).length<=b):((tsL y k).headD []).length<=b:=by
 cases h:tsL y k with
 |nil=>exact abM _
 |cons u r=>
  have hu:u∈tsL y k:=by rw[h];exact aaR
  unfold tsL at hu;obtain⟨p,hp,rfl⟩:=adO.1 hu;exact hb p (adP.1 hp).1
abbrev RB_ :=Option (Bool×Rec_)
theorem oH (y:List Y51) (hy:y.length<=1000000) (w s:Int) (hw:0<=w/\w<6) (bd:Nat) (hb:∀p∈y,(fS p).length<=bd) (a:MV_) (b:MX_) (c:MS_) (d:MA_) (e:MS_) (f:MQ_) (g:MK_) (hc:FI c (tsL y)) (K1:List Ty1->RB_) (K3:List Ty1->Option Bool):
  ∀(j k k' n:Nat) (l:List Ty1),n+j=y.length+1->j<k->j<k'->l.length=n->(∀i:Nat,i<n->tsL y (12+w,(i:Int))≠[])->(∀v,v∈l->v.length<=bd)->
  (kC w s a b c d e f g K1 k (n,l)=some (false,a,b,c,d,e,f,g)/\jZ y w s K3 k' (n,l)=some false)\/∃vs,vs.length<=y.length+1/\(∀v,v∈vs->v.length<=bd)/\kC w s a b c d e f g K1 k (n,l)=K1 vs/\jZ y w s K3 k' (n,l)=K3 vs
 |0,k,k',n,l,hn,hk,hk',hl,hs,hbl=>by
  exfalso
  have:=tsL_len y (12+w) n hs
  omega
 |j+1,k,k',n,l,hn,hk,hk',hl,hs,hbl=>by
  obtain⟨k,rfl⟩:∃z,k=z+1:=⟨k-1,by omega⟩
  obtain⟨k',rfl⟩:∃z,k'=z+1:=⟨k'-1,by omega⟩
  have hny:=tsL_len y (12+w) n hs
  have e1:kC w s a b c d e f g K1 (k+1) (n,l)=if(decide ((n:Int)<s))=true then(if(!(hM c (((12:Int)+w),(n:Int))))=true then some (false,a,b,c,d,e,f,g)else chk (((l).length+1) *16<=140737488355328) (chk (((n:Int)+(1:Int))<=9223372036854775807) ((kC w s a b c d e f g K1 k) ((n+1),(l++[(gM c [] (((12:Int)+w),(n:Int)))])))))else K1 l:=by
   conv=>lhs;unfold kC
  have e2:jZ y w s K3 (k'+1) (n,l)=if((decide ((n:Int)<s))&&(decide ((n:Int)<=(((y).length:Nat):Int))))=true then((f95 y ((12:Int)+w) (n:Int)).bind fun(r18:aaA×Bool)=>chk (-9223372036854775808<=((12:Int)+w)/\((12:Int)+w)<=9223372036854775807) (if(!r18.2)=true then some false else chk (((l).length+1) *16<=140737488355328) (chk (((n:Int)+(1:Int))<=9223372036854775807) ((jZ y w s K3 k') ((n+1),(l++[r18.1]))))))else K3 l:=by
   conv=>lhs;unfold jZ
  rw[e1,e2]
  obtain⟨c1,c2⟩:=hc (12+w,(n:Int))
  by_cases hns:(n:Int)<s
  ·rw[if_pos (abL hns),if_pos (show((decide ((n:Int)<s))&&(decide ((n:Int)<=(((y).length:Nat):Int))))=true by rw[abL hns,abL (by omega)];rfl),f95_eq y hy _ _ (by omega),aC,aA (show-9223372036854775808<=((12:Int)+w)/\((12:Int)+w)<=9223372036854775807 by omega),c1,c2]
   dsimp only
   cases hz:(tsL y (12+w,(n:Int))).isEmpty with
   |true=>rw[if_pos (by rfl),if_pos (by rfl)];exact .inl ⟨rfl,rfl⟩
   |false=>
    rw[if_neg (by simp),if_neg (by simp),aA (by omega),aA (by omega),aA (by omega),aA (by omega)]
    refine oH y hy w s hw bd hb a b c d e f g hc K1 K3 j k k' (n+1) _ (by omega) (by omega) (by omega) (by simp[hl]) (fun i hi=> ?_) (fun v hv=> ?_)
    ·rcases agD i n with h3|h3
     ·exact hs i h3
     ·obtain rfl:i=n:=by omega
      intro z
      rw[z]at hz;cases hz
    ·rcases abN.1 hv with h3|h3
     ·exact hbl v h3
     ·obtain rfl:v=(tsL y (12+w,(n:Int))).headD []:=by simpa using h3
      exact xR hb
  ·rw[if_neg (by simpa using hns),if_neg (by rw[abU hns];simp)]
   exact .inr ⟨l,by omega,hbl,rfl,rfl⟩
theorem aAh (r21:List Pr×List Ss×List Ss) (hl:r21.2.2.length<=1000) (i1 i2 w i4 m:Int) (s6 res:aaA) (K:Int×Int×Int×Int×Int×aaA×aaA->Option Tq11) (K4:Unit->Option Bool):∀(d k k' n:Nat),n+d=r21.2.2.length->d<k->d<k'->
  (∃i,i<r21.2.2.length/\iU r21.2.2 K k (n,i1,i2,w,i4,m,s6,res)=some ((i:Int),i1,i2,w,i4,m,s6,res)/\hY w m res r21 K4 k' n=some ((r21.2.2.getD i default).2.2==res))\/(iU r21.2.2 K k (n,i1,i2,w,i4,m,s6,res)=K (i1,i2,w,i4,m,s6,res)/\hY w m res r21 K4 k' n=K4 ())
 |0,k,k',n,hn,hk,hk'=>by
  obtain⟨k,rfl⟩:∃z,k=z+1:=⟨k-1,by omega⟩
  obtain⟨k',rfl⟩:∃z,k'=z+1:=⟨k'-1,by omega⟩
  refine .inr ⟨?_, ?_⟩
  ·conv=>lhs;unfold iU
   rw[aL (by omega)]
  ·conv=>lhs;unfold hY
   rw[aL (by omega)]
 |d+1,k,k',n,hn,hk,hk'=>by
  obtain⟨k,rfl⟩:∃z,k=z+1:=⟨k-1,by omega⟩
  obtain⟨k',rfl⟩:∃z,k'=z+1:=⟨k'-1,by omega⟩
  have ih:=aAh r21 hl i1 i2 w i4 m s6 res K K4 d k k' (n+1) (by omega) (by omega) (by omega)
  have e1:iU r21.2.2 K (k+1) (n,i1,i2,w,i4,m,s6,res)=if(((r21.2.2.getD n default).1==w)&&((r21.2.2.getD n default).2.1==m))=true then some ((n:Int),i1,i2,w,i4,m,s6,res)else iU r21.2.2 K k (n+1,i1,i2,w,i4,m,s6,res):=by
   conv=>lhs;unfold iU
   rw[aP (by omega)]
   unfold f93
   rw[aC,aA (by omega)]
   dsimp only
   rw[aA (by omega)]
  have e2:hY w m res r21 K4 (k'+1) n=if(((r21.2.2.getD n default).1==w)&&((r21.2.2.getD n default).2.1==m))=true then some ((r21.2.2.getD n default).2.2==res)else hY w m res r21 K4 k' (n+1):=by
   conv=>lhs;unfold hY
   rw[aP (by omega),aA (by omega),aA (by omega),aA (fun _=>by omega),aA (fun _=>by omega),aA (by omega),aA (by omega),aA (by omega)]
  rw[e1,e2]
  cases h:(((r21.2.2.getD n default).1==w)&&((r21.2.2.getD n default).2.1==m))with
  |true=>
   rw[if_pos rfl,if_pos rfl]
   exact .inl ⟨n,by omega,rfl,rfl⟩
  |false=>
   rw[if_neg (by simp),if_neg (by simp)]
   exact ih
theorem aBn (y:List Y51) (hy:y.length<=60) (hb:∀p∈y,(fS p).length<=20000) (a:MV_) (b:MX_) (c:MS_) (d:MA_) (e:MS_) (f:MQ_) (g:MK_) (hc:FI c (tsL y)) (he:FI e (ivL y)) (hg:∀k,gM g false k=akB y k) (p:Y51) (hp:cl p=true):
  ∃v,f66 p.1 p.2.1 p.2.2.1 p.2.2.2.1 p.2.2.2.2.1 p.2.2.2.2.2.1 p.2.2.2.2.2.2 a b c d e f g=some (v,a,b,c,d,e,f,g)/\f67 y p.1 p.2.1 p.2.2.1 p.2.2.2.1 p.2.2.2.2.1 p.2.2.2.2.2.1 p.2.2.2.2.2.2=some v:=by
 have hw:0<=p.2.2.1/\p.2.2.1<6:=by
  unfold cl at hp;simpa using hp
 obtain⟨i1,i2,w,s,m,t,res⟩:=p;dsimp only at hw⊢;unfold f66 f67;obtain⟨c1,c2⟩:=hc (12+w,s);obtain⟨e1,e2⟩:=he (w,m);have g1:=hg (w,m);obtain⟨k0,c0,l0,e0,d1,d2,d3,_⟩:=dec_cl ((tsL y (12+w,s)).headD []) (by have:=xR (k:=(12+w,s)) hb;omega);rw[aA (by omega),c2,d1,aC,c1,e1,e2,g1,bO,bO,wA y (by omega) w m hw _ y.length bB 0 (by omega) (fuel_lt (by omega)),abW];dsimp only
 cases hA:akB y (w,m)with
 |true=>
  rw[if_pos rfl];refine⟨false, ?_,rfl⟩;simp only[afG];rw[show(true==false)=false from rfl,iO]
  exact if_pos trivial
 |false=>
  rw[if_neg (by simp),f94_eq y (by omega) w m hw,aC,f95_eq y (by omega) (12+w) s (by omega),aC,aA (by omega)];dsimp only
  cases hB:(ivL y (w,m)).isEmpty with
  |true=>
   rw[if_pos (by rfl)];refine⟨false, ?_,rfl⟩;simp only[acL,adN,ahA,afG];rw[show(true==false)=false from rfl,iO]
   exact if_pos trivial
  |false=>
   cases hC:(tsL y (12+w,s)).isEmpty with
   |true=>
    rw[if_pos (by rfl)];refine⟨false, ?_,rfl⟩;simp only[acL,adN,ahA,afG];rw[show(true==false)=false from rfl,iO]
    exact if_pos trivial
   |false=>
    rw[if_neg (by simp),d2,aC];dsimp only
    cases hE:(e0 !=(0:Int))with
    |true=>
     rw[if_pos rfl];refine⟨false, ?_,rfl⟩;simp only[ahA,afG];rw[show(true==false)=false from rfl,iO]
     exact if_pos trivial
    |false=>
     rw[if_neg (by simp)];simp only[adN,acL,Bool.or_false,adC];rw[show(false==false)=true from rfl,hJ,f89_eq l0 (by omega),aC,bO,vZ w m _ (k0,c0,l0,e0) (by show l0.length<=1000;omega) _ l0.length bB 0 false (by simp) (fuel_lt (by omega)),adC,abW];dsimp only
     cases hD:ctn l0 w m ((ivL y (w,m)).headD [])with
     |false=>
      rw[if_pos (by rfl),bO];rcases oH y (by omega) w s hw 20000 hb a b c d e f g hc (fun _=>none) _ (y.length+1) bB bB 0 [] (by omega) (fuel_lt (by omega)) (fuel_lt (by omega)) rfl (by simp) (by simp)with⟨_,h2⟩|⟨vs,_,_,_,h2⟩
      ·exact⟨false,rfl,h2⟩
      ·refine⟨false,rfl,h2.trans ?_⟩
       rw[if_pos (by rfl)]
     |true=>
      rw[if_neg (by simp),bO];rcases oH y (by omega) w s hw 20000 hb a b c d e f g hc _ _ (y.length+1) bB bB 0 [] (by omega) (fuel_lt (by omega)) (fuel_lt (by omega)) rfl (by simp) (by simp)with⟨h1,h2⟩|⟨vs,hv1,hv2,h1,h2⟩
      ·exact⟨false,h1,h2⟩
      ·have hv3:∀v,v∈vs->v.length<=1000000:=fun v hv=>by have:=hv2 v hv;omega
       have hm:=stpV_ok vs ([],[]) ⟨StV.nil,SesV.nil⟩ hv3;obtain⟨m',rs,q1,q2,_,q4⟩:=rZ _ hm ((tsL y (12+w,s)).headD []) (by have:=xR (k:=(12+w,s)) hb;omega)
       suffices H : ∃ v, ((f91 vs).bind fun r20=>(f90 r20.1 r20.2 ((tsL y (12+w,s)).headD [])).bind fun r21=>(f92 r21.2.2 i1 i2 w s m t res).bind fun r22=>
         chk (((decide (r22.1>=(0:Int)))==true)=true->0<=r22.1/\r22.1<(((r21.2.2).length:Nat):Int))<|
         chk (((decide (r22.1>=(0:Int)))==true)=true->((r22.1).toNat)<(r21.2.2).length)<|
         some (((decide (r22.1>=(0:Int)))&&(((r21.2.2.getD ((r22.1).toNat) (default:Tq0)).2.2)==r22.2.2.2.2.2.2.2)),a,b,c,d,e,f,g))=(some (v,a,b,c,d,e,f,g):RB_)/\
         ((f38a vs).bind fun r20=>(f37 r20.1 r20.2 ((tsL y (12+w,s)).headD [])).bind fun r21=>hY w m res r21 (fun _=>some false) bB 0)=some v by
        obtain⟨v,H1,H2⟩:=H;refine⟨v,h1.trans H1,h2.trans ?_⟩;rw[if_neg (by simp)];exact H2
       rw[f91_eq vs (by omega) hv3,f38a_eq vs (by omega) hv3,aC,aC];dsimp only;rw[q1,q2,aC,aC];unfold f92;rw[bO];dsimp only;rcases aAh (m'.1,m'.2,rs) (by show rs.length<=1000;omega) i1 i2 w s m t res (fun((i18,i19,i20,i21,i22,s23,s24):Tq10)=>some ((-1:Int),i18,i19,i20,i21,i22,s23,s24)) (fun _=>some false) rs.length bB bB 0 (by simp) (fuel_lt (by omega)) (fuel_lt (by omega))with⟨i,hi,r1,r2⟩|⟨r1,r2⟩
       ·refine⟨_, ?_,r2⟩;refine(congrArg (fun z=>Option.bind z _) r1).trans ?_;rw[aC,aA (fun _=>⟨by dsimp only;omega,by dsimp only at hi⊢;omega⟩),aA (fun _=>by dsimp only at hi⊢;omega)];dsimp only;rw[abL (by omega),acD,abE]
       ·refine⟨false, ?_,r2⟩;refine(congrArg (fun z=>Option.bind z _) r1).trans ?_;rw[aC,aA (fun h=>by cases h),aA (fun h=>by cases h)];rfl
end Go.Abs
namespace Go.Abs
theorem pt_acc (p:Y51) (w:Int) (hw:0<=w/\w<6):(pt p==12+w)=(st p&&((p.2.1==3)&&decide (who p=w))):=by
 rw[pt_eq _ _ (by omega)]
 cases h:st p with
 |false=>rfl
 |true=>
  rw[acD,acD];unfold st pty at h;unfold yC pty;by_cases h4:p.2.1=4/\0<=p.2.2.1/\p.2.2.1<12
  ·rw[if_pos h4,h4.1];show decide (p.2.2.1=12+w)=((4:Int)==3&&_);rw[abU (by omega)];rfl
  ·rw[if_neg h4]at h⊢;by_cases h3:p.2.1=3/\0<=p.2.2.1/\p.2.2.1<6
   ·rw[if_pos h3,h3.1];show decide (12+p.2.2.1=12+w)=((3:Int)==3&&decide (p.2.2.1=w));by_cases hh:p.2.2.1=w
    ·rw[abL (by omega),abL hh];rfl
    ·rw[abU (by omega),abU hh];rfl
   ·rw[if_neg h3]at h;cases h
theorem acc_pt (p:Y51) (h:st p=true) (h3:(p.2.1==(3:Int))=true):pt p=12+who p/\0<=who p/\who p<6:=by
 have e3:p.2.1=3:=eq_of_beq h3;unfold pt;rw[if_pos h];unfold st pty at h;unfold yC pty;have n4:¬(p.2.1=4/\0<=p.2.2.1/\p.2.2.1<12):=by omega
 rw[if_neg n4]at h⊢;by_cases h3:p.2.1=3/\0<=p.2.2.1/\p.2.2.1<6
 ·rw[if_pos h3];exact⟨rfl,h3.2⟩
 ·rw[if_neg h3]at h;cases h
def kv (y:List Y51) (p:Y51):Int:=if((tx y (slot p)).any fun u=> !(u==fS p))=true then 1 else if((p.2.1==(3:Int))&&(slot p !=((acN y (who p):Nat):Int)))=true then 2 else 0
theorem f43_st (y:List Y51) (a:MV_) (b:MX_) (c:MS_) (d:MA_) (e:MS_) (f:MQ_) (g:MK_) (hI:ComI y a b) (hd:∀w,gM d 0 w=((acN y w:Nat):Int)) (p:Y51) (h:st p=true):
  f43 p.1 p.2.1 p.2.2.1 p.2.2.2.1 p.2.2.2.2.1 p.2.2.2.2.2.1 p.2.2.2.2.2.2 a b c d e f g=some (kv y p,a,b,c,d,e,f,g):=by
 have k2:(p.2.1==(2:Int))=false:=by rcases xW h with z|z<;>rw[z]<;>rfl
 have hst:(pty p.2.1 p.2.2.1).2=true:=h;unfold f43 kv;rw[bO,wH,aC,if_pos hst,bO,k2];simp only[bO,acI];rw[show(false==true)=false from rfl,iO,if_neg (show ¬(false=true) by simp),hI.h p.2.2.2.1,hI.g p.2.2.2.1,hI.m p.2.2.2.1,hd p.2.2.1,any_mix (tx y (slot p)) (fS p)];show(if(!(tx y (slot p)).isEmpty)=true then _ else _)=_
 cases(tx y (slot p)).isEmpty with
 |true=>
  rw[if_neg (by simp),aA (fun h=>by cases h),if_neg (show ¬((!true&&_)=true) by simp)]
  cases(p.2.1==(3:Int))with
  |false=>rfl
  |true=>
   rw[if_pos rfl,acD];show(if(slot p !=((acN y (who p):Nat):Int))=true then _ else _)=_
   cases(slot p !=((acN y (who p):Nat):Int))<;>rfl
 |false=>
  rw[if_pos (by rfl)];show(if(!((tx y (slot p)).headD []==fS p))=true then _ else _)=_
  cases((tx y (slot p)).headD []==fS p)with
  |false=>rw[if_pos (by rfl),if_pos (by rfl)]
  |true=>
   rw[if_neg (by simp)];show(if((tx y (slot p)).any fun u=> !(u==(tx y (slot p)).headD []))=true then _ else _)=_
   cases((tx y (slot p)).any fun u=> !(u==(tx y (slot p)).headD []))with
   |true=>rw[if_pos rfl,if_pos (by rfl)]
   |false=>
    rw[if_neg (by simp),if_neg (show ¬((!false&&(!true||false))=true) by simp)]
    cases(p.2.1==(3:Int))with
    |false=>rfl
    |true=>
     rw[if_pos rfl,acD];show(if(slot p !=((acN y (who p):Nat):Int))=true then _ else _)=_;cases(slot p !=((acN y (who p):Nat):Int))<;>rfl
theorem f46_st (y:List Y51) (hy:y.length<=60) (p:Y51) (h:st p=true):
  f46 y p.1 p.2.1 p.2.2.1 p.2.2.2.1 p.2.2.2.2.1 p.2.2.2.2.2.1 p.2.2.2.2.2.2=some (kv y p):=by
 have k2:(p.2.1==(2:Int))=false:=by rcases xW h with z|z<;>rw[z]<;>rfl
 unfold f46 kv;rw[bO,pP,aC,pt_st,h,if_pos rfl,bO,wL y (by omega) _ _ _ _ y.length bB 0 0 (by omega) (fuel_lt (by omega)) (abD _),abW,k2];simp only[acI];rw[show(false==true)=false from rfl,iO,if_neg (show ¬(false=true) by simp),abX];show(if((tx y (slot p)).any fun u=> !(u==fS p))=true then _ else _)=_
 cases((tx y (slot p)).any fun u=> !(u==fS p))with
 |true=>rfl
 |false=>
  show(if((p.2.1==(3:Int))&&(slot p !=(((y.filter fun q=>pt q==pt p).length:Nat):Int)))=true then some (2:Int)else some 0)=some (if((p.2.1==(3:Int))&&(slot p !=((acN y (who p):Nat):Int)))=true then(2:Int)else 0)
  cases h3:(p.2.1==(3:Int))with
  |false=>rfl
  |true=>
   obtain⟨w1,w2⟩:=acc_pt p h h3
   have e:(y.filter fun q=>pt q==pt p).length=acN y (who p):=by
    unfold acN;congr 1;refine List.filter_congr fun q _=> ?_;rw[w1,pt_acc q (who p) w2]
   rw[e,acD];show(if(slot p !=((acN y (who p):Nat):Int))=true then _ else _)=_;cases(slot p !=((acN y (who p):Nat):Int))<;>rfl
theorem uY (y:List Y51) (hy:y.length<=60) (hb:∀p∈y,(fS p).length<=20000) (a:MV_) (b:MX_) (c:MS_) (d:MA_) (e:MS_) (f:MQ_) (g:MK_) (hq:xP y=(a,b,c,d,e,f,g)) (p:Y51):
  ∃v:Int,0<=v/\f43 p.1 p.2.1 p.2.2.1 p.2.2.2.1 p.2.2.2.2.1 p.2.2.2.2.2.1 p.2.2.2.2.2.2 a b c d e f g=some (v,a,b,c,d,e,f,g)/\f46 y p.1 p.2.1 p.2.2.1 p.2.2.2.1 p.2.2.2.2.1 p.2.2.2.2.2.1 p.2.2.2.2.2.2=some v:=by
 obtain⟨hI,hR⟩:=recI y;rw[hq]at hI hR;obtain⟨hc,hd,he,hf,hg⟩:=hR;dsimp only at hI hc hd he hf hg
 cases h:st p with
 | true => exact ⟨kv y p,by
  unfold kv;split
  ·omega
  ·split<;>omega,f43_st y a b c d e f g hI hd p h,f46_st y hy p h⟩
 |false=>
  have hst:(pty p.2.1 p.2.2.1).2=false:=h;have h57:f57 p.1 p.2.1 p.2.2.1 p.2.2.2.1 p.2.2.2.2.1 p.2.2.2.2.2.1 p.2.2.2.2.2.2=some (cl p):=rfl
  have e43:f43 p.1 p.2.1 p.2.2.1 p.2.2.2.1 p.2.2.2.2.1 p.2.2.2.2.2.1 p.2.2.2.2.2.2 a b c d e f g=gB ((p.2.1==(2:Int))==true) (some (cl p)) fun(r16:Bool)=>
    if((p.2.1==(2:Int))&&r16)=true then((f66 p.1 p.2.1 p.2.2.1 p.2.2.2.1 p.2.2.2.2.1 p.2.2.2.2.2.1 p.2.2.2.2.2.2 a b c d e f g).bind fun(r17:Bool×Rec_)=>if(!r17.1)=true then some ((3:Int),r17.2)else some (0,r17.2))else some (0,a,b,c,d,e,f,g):=by
   unfold f43;rw[bO,wH,aC,if_neg (by rw[hst];simp),bO,h57]
  have hcl:((p.2.1==(2:Int))&&decide (p.2.2.1>=0)&&decide (p.2.2.1<6))=((p.2.1==(2:Int))&&cl p):=by unfold cl;rw[ahE]
  have e46:f46 y p.1 p.2.1 p.2.2.1 p.2.2.2.1 p.2.2.2.2.1 p.2.2.2.2.2.1 p.2.2.2.2.2.2=gB (((p.2.1==(2:Int))&&cl p)==true) (f67 y p.1 p.2.1 p.2.2.1 p.2.2.2.1 p.2.2.2.2.1 p.2.2.2.2.2.1 p.2.2.2.2.2.2) fun(r16:Bool)=>if(((p.2.1==(2:Int))&&cl p)&&(!r16))=true then some (3:Int)else some (0:Int):=by
   unfold f46;rw[bO,pP,aC,pt_st,h,if_neg (by simp),hcl]
  rw[e43,e46]
  cases h2:(p.2.1==(2:Int))with
  |false=>
   rw[show(false==true)=false from rfl,iO,acI,acI]
   exact⟨0,aeI _,rfl,rfl⟩
  |true=>
   rw[show(true==true)=true from rfl,hJ,aC,acD]
   cases hcp:cl p with
   |false=>exact⟨0,aeI _,rfl,rfl⟩
   |true=>
    obtain⟨v,v1,v2⟩:=aBn y hy hb a b c d e f g hc he hg p hcp;rw[show(true==true)=true from rfl,hJ,v1,v2,if_pos rfl,aC,aC]
    cases v with
    |true=>exact⟨0,aeI _,rfl,rfl⟩
    |false=>exact⟨3,by omega,rfl,rfl⟩
/-! ### invented requests -/
theorem qA (l:List Ss) (hl:l.length<=1000) (a:MV_) (b:MX_) (c:MS_) (d:MA_) (e:MS_) (f:MQ_) (g:MK_):∀(j k n:Nat),n+j=l.length->j<k->
  ∃i:Int,fP l (fun((l18,l19,l20,l21,l22,l23,l24):Rec_)=>some ((-1:Int),l18,l19,l20,l21,l22,l23,l24)) k (n,a,b,c,d,e,f,g)=some (i,a,b,c,d,e,f,g)/\decide (i>=0)=(l.drop n).any fun q=> !(gM f false q)
 |0,k,n,hn,hk=>by
  obtain⟨k,rfl⟩:∃z,k=z+1:=⟨k-1,by omega⟩
  rw[abA (by omega)]
  conv=>enter [1,i,1,1];unfold fP
  rw[aL (by omega)]
  exact⟨-1,rfl,rfl⟩
 |j+1,k,n,hn,hk=>by
  obtain⟨k,rfl⟩:∃z,k=z+1:=⟨k-1,by omega⟩
  obtain⟨i,h1,h2⟩:=qA l hl a b c d e f g j k (n+1) (by omega) (by omega)
  conv=>enter [1,i,1,1];unfold fP
  rw[aP (by omega),getD_drop l n default (by omega)]
  unfold f70
  rw[aC,aA (by omega),acO]
  dsimp only
  generalize l.getD n default=q
  have e:gM f false (q.1,q.2.1,q.2.2)=gM f false q:=rfl
  rw[e]
  cases gM f false q with
  |false=>
   rw[if_pos (by rfl)]
   exact⟨_,rfl,by rw[abL (by omega)];rfl⟩
  |true=>
   rw[if_neg (by simp),aA (by omega)]
   exact⟨i,h1,by rw[h2];rfl⟩
theorem wI (y:List Y51) (hy:y.length<=1000000) (r10:Ent) (m:Nat) (hq:0<=(r10.2.2.1.getD m default).1/\(r10.2.2.1.getD m default).1<6) (K:Bool->Option Bool):∀(d k n:Nat) (b:Bool),n+d=y.length->d<k->
  nG y r10 m K k (b,n)=K (b||asB (y.drop n) (r10.2.2.1.getD m default))
 |0,k,n,b,hn,hk=>by
  obtain⟨k,rfl⟩:∃z,k=z+1:=⟨k-1,by omega⟩
  rw[abA (by omega)]
  conv=>lhs;unfold nG
  rw[aL (by omega)]
  simp[asB]
 |d+1,k,n,b,hn,hk=>by
  obtain⟨k,rfl⟩:∃z,k=z+1:=⟨k-1,by omega⟩
  conv=>lhs;unfold nG
  rw[aP (by omega),aA (by omega),aA (fun h1 _ h3=>by rw[h1,h3];rfl),aA (fun h1 _ h3=>by rw[h1,h3];rfl),aA (fun h1 _ h3=>by rw[h1,h3];rfl),aA (by omega),wI y hy r10 m hq K d k (n+1) _ (by omega) (by omega),getD_drop y n default (by omega)]
  unfold asB
  rw[acO]
  generalize y.getD n default=p at *
  generalize r10.2.2.1.getD m default=q at *
  have e:((((p.2.1==(1:Int))&&(p.2.2.1==q.1))&&(p.2.2.2.2.1==q.2.1))&&(p.2.2.2.2.2.1==q.2.2))=(iv p&&(decide (who p=q.1)&&(decide (nmb p=q.2.1)&&decide (fS p=q.2.2)))):=by
   unfold iv
   rw[beqD p.2.2.1 _,beqD p.2.2.2.2.1 _,beqD p.2.2.2.2.2.1 _]
   by_cases h:p.2.2.1=q.1
   ·rw[cl_of hq h,abL h];simp[ahE]
   ·rw[abU h];simp
  rw[e,Bool.or_assoc]
theorem wJ (y:List Y51) (hy:y.length<=1000000) (r10:Ent) (hl:r10.2.2.1.length<=1000) (hq:∀q∈r10.2.2.1,0<=q.1/\q.1<6):∀(d k n:Nat),n+d=r10.2.2.1.length->d<k->
  nH y r10 (fun _=>some false) k n=some ((r10.2.2.1.drop n).any fun q=> !(asB y q))
 |0,k,n,hn,hk=>by
  obtain⟨k,rfl⟩:∃z,k=z+1:=⟨k-1,by omega⟩
  rw[abA (by omega)]
  conv=>lhs;unfold nH
  rw[aL (by omega)]
  rfl
 |d+1,k,n,hn,hk=>by
  obtain⟨k,rfl⟩:∃z,k=z+1:=⟨k-1,by omega⟩
  conv=>lhs;unfold nH
  rw[aP (by omega),aA (by omega),bO,wI y hy r10 n (hq _ (bQ _ n default (by omega))) _ y.length bB 0 false (by omega) (fuel_lt (by omega)),getD_drop r10.2.2.1 n default (by omega),acO,abW,adC,wJ y hy r10 hl hq d k (n+1) (by omega) (by omega)]
  cases asB y (r10.2.2.1.getD n default)with
  |false=>rw[if_pos (by rfl)];rfl
  |true=>rw[if_neg (by simp),aA (by omega)];rfl
theorem inv_both (y:List Y51) (hy:y.length<=60) (a:MV_) (b:MX_) (c:MS_) (d:MA_) (e:MS_) (f:MQ_) (g:MK_) (hq:xP y=(a,b,c,d,e,f,g)) (p:Y51) (hp:(fS p).length<=20000):
  ∃v:Bool,f48 p.1 p.2.1 p.2.2.1 p.2.2.2.1 p.2.2.2.2.1 p.2.2.2.2.2.1 p.2.2.2.2.2.2 a b c d e f g=some (v,a,b,c,d,e,f,g)/\f49 y p.1 p.2.1 p.2.2.1 p.2.2.2.1 p.2.2.2.2.1 p.2.2.2.2.2.1 p.2.2.2.2.2.2=some v:=by
 obtain⟨_,hR⟩:=recI y;rw[hq]at hR;obtain⟨_,_,_,hf,_⟩:=hR;dsimp only at hf;have hpl:(p.2.2.2.2.2.1).length<=1000000:=by have h1:(p.2.2.2.2.2.1).length<=20000:=hp;omega
 obtain⟨k0,c0,l0,e0,d1,d2,d3,d4⟩:=dec_cl _ hpl;unfold f48 f49;rw[d1,aC,wH,aC,pP,aC];have hst:(pty p.2.1 p.2.2.1).2=st p:=rfl
 have hlt:decide (pt p<0)= !st p:=by
  rw[<-pt_st];by_cases h:0<=pt p
  ·rw[abL h,abU (by omega)];rfl
  ·rw[abU h,abL (by omega)];rfl
 rw[hst,hlt]
 cases st p with
 |false=>
  rw[if_pos (by rfl),if_pos (by rfl)]
  exact⟨false,rfl,rfl⟩
 |true=>
  rw[show(!true||((k0,c0,l0,e0):Ent).2.2.2 !=0)=(e0 !=0)from rfl,if_neg (c:=(!true)=true) (by simp),d2,aC];dsimp only
  cases e0 !=(0:Int)with
  |true=>
   rw[if_pos rfl,if_pos rfl]
   exact⟨false,rfl,rfl⟩
  |false=>
   rw[if_neg (by simp),if_neg (by simp),bO,wJ y (by omega) (k0,c0,l0,e0) (by show l0.length<=1000;omega) d4 l0.length bB 0 (by simp) (fuel_lt (by omega)),abW];obtain⟨i,i1,i2⟩:=qA l0 (by omega) a b c d e f g l0.length bB 0 (by omega) (fuel_lt (by omega));unfold f69a f100a;rw[bO];refine⟨l0.any fun q=> !(asB y q), ?_,rfl⟩;refine(congrArg (fun z=>Option.bind (Option.bind z _) _) i1).trans ?_;rw[aC,aC];dsimp only;rw[i2,abW];simp only[hf]
/-! ### the three searches -/
theorem acN_le (y:List Y51) (w:Int):acN y w<=y.length:=by unfold acN;exact List.length_filter_le _ _
theorem xZ {y:List Y51} {a b c d e f g} (hq:xP y=(a,b,c,d,e,f,g)) (w:Int) (hy:y.length<=60): -9223372036854775808<=gM d 0 w+1/\gM d 0 w+1<=9223372036854775807:=by
 have h:=(recI y).2.2.1 w;rw[hq]at h;have h2:=acN_le y w;dsimp only at h;constructor<;>omega
section
variable (x:List Y51) (hx:x.length<=60) (hb:∀p∈x,(fS p).length<=20000)
include hx hb
theorem rK :∀(j k k' n:Nat) (a:MV_) (b:MX_) (c:MS_) (d:MA_) (e:MS_) (f:MQ_) (g:MK_),n+j=x.length->j<k->j<k'->xP (x.take n)=(a,b,c,d,e,f,g)->
  ∃i v z:Int,nJ x (fun(i15:Int)=>some ((0:Int),(13:Int),i15)) k (n,0,a,b,c,d,e,f,g)=some (i,z,v)/\nN x (fun _=>some ((0:Int),(0:Int),(13:Int))) k' n=some (i,v,z)
 |0,k,k',n,a,b,c,d,e,f,g,hn,hk,hk',hq=>by
  obtain⟨k,rfl⟩:∃z,k=z+1:=⟨k-1,by omega⟩
  obtain⟨k',rfl⟩:∃z,k'=z+1:=⟨k'-1,by omega⟩
  refine⟨0,0,13, ?_, ?_⟩
  ·conv=>lhs;unfold nJ
   rw[aL (by omega)]
  ·conv=>lhs;unfold nN
   rw[aL (by omega)]
 |j+1,k,k',n,a,b,c,d,e,f,g,hn,hk,hk',hq=>by
  obtain⟨k,rfl⟩:∃z,k=z+1:=⟨k-1,by omega⟩
  obtain⟨k',rfl⟩:∃z,k'=z+1:=⟨k'-1,by omega⟩
  have hty:(x.take n).length<=60:=by rw[abG];omega
  obtain⟨v,v0,v1,v2⟩:=uY (x.take n) hty (fun p hp=>hb p (afC hp)) a b c d e f g hq (x.getD n default)
  have v1':∀i5,f42 (x.getD n default).1 (x.getD n default).2.1 (x.getD n default).2.2.1 (x.getD n default).2.2.2.1 (x.getD n default).2.2.2.2.1 (x.getD n default).2.2.2.2.2.1 (x.getD n default).2.2.2.2.2.2 a b c d e f g i5=some ((v !=(0:Int)),a,b,c,d,e,f,g,v):=fun i5=>by
   unfold f42
   rw[v1,aC]
  have hs:=oT (x.take n) (x.getD n default)
  rw[<-oM x n default (by omega),hq]at hs
  have ih:=rK j k k' (n+1) (kH (a,b,c,d,e,f,g) (x.getD n default)).1 (kH (a,b,c,d,e,f,g) (x.getD n default)).2.1 (kH (a,b,c,d,e,f,g) (x.getD n default)).2.2.1 (kH (a,b,c,d,e,f,g) (x.getD n default)).2.2.2.1 (kH (a,b,c,d,e,f,g) (x.getD n default)).2.2.2.2.1 (kH (a,b,c,d,e,f,g) (x.getD n default)).2.2.2.2.2.1 (kH (a,b,c,d,e,f,g) (x.getD n default)).2.2.2.2.2.2 (by omega) (by omega) (by omega) hs
  conv=>enter [1,i,1,v,1,z,1,1];unfold nJ
  conv=>enter [1,i,1,v,1,z,2,1];unfold nN
  rw[aP (by omega),aP (by omega),aA (by omega),v1',aC,v2,aC,aA (by omega),aA (by omega)]
  dsimp only
  by_cases hv:v=0
  ·subst hv
   rw[if_neg (by simp),if_neg (by simp),yU _ a b c d e f g (xZ hq _ hty),aC,aA (by omega),aA (by omega)]
   exact ih
  ·rw[if_pos (by simpa using hv),if_pos (by rw[abL (by omega)])]
   exact⟨_,_,_,rfl,rfl⟩
theorem xM :∀(j k k' n:Nat) (a:MV_) (b:MX_) (c:MS_) (d:MA_) (e:MS_) (f:MQ_) (g:MK_),n+j=x.length->j<k->j<k'->xP (x.take n)=(a,b,c,d,e,f,g)->
  ∃r:Tq1,jD x (fun _=>some ((0:Int),(13:Int))) k (n,a,b,c,d,e,f,g)=some r/\nM x (fun _=>some ((0:Int),(13:Int))) k' n=some r
 |0,k,k',n,a,b,c,d,e,f,g,hn,hk,hk',hq=>by
  obtain⟨k,rfl⟩:∃z,k=z+1:=⟨k-1,by omega⟩
  obtain⟨k',rfl⟩:∃z,k'=z+1:=⟨k'-1,by omega⟩
  refine⟨(0,13), ?_, ?_⟩
  ·conv=>lhs;unfold jD
   rw[aL (by omega)]
  ·conv=>lhs;unfold nM
   rw[aL (by omega)]
 |j+1,k,k',n,a,b,c,d,e,f,g,hn,hk,hk',hq=>by
  obtain⟨k,rfl⟩:∃z,k=z+1:=⟨k-1,by omega⟩
  obtain⟨k',rfl⟩:∃z,k'=z+1:=⟨k'-1,by omega⟩
  have hty:(x.take n).length<=60:=by rw[abG];omega
  obtain⟨v,v0,v1,v2⟩:=uY (x.take n) hty (fun p hp=>hb p (afC hp)) a b c d e f g hq (x.getD n default)
  have v1':f47 (x.getD n default).1 (x.getD n default).2.1 (x.getD n default).2.2.1 (x.getD n default).2.2.2.1 (x.getD n default).2.2.2.2.1 (x.getD n default).2.2.2.2.2.1 (x.getD n default).2.2.2.2.2.2 a b c d e f g=some ((v==(3:Int)),a,b,c,d,e,f,g):=by
   unfold f47
   rw[v1,aC]
  have hs:=oT (x.take n) (x.getD n default)
  rw[<-oM x n default (by omega),hq]at hs
  have ih:=xM j k k' (n+1) (kH (a,b,c,d,e,f,g) (x.getD n default)).1 (kH (a,b,c,d,e,f,g) (x.getD n default)).2.1 (kH (a,b,c,d,e,f,g) (x.getD n default)).2.2.1 (kH (a,b,c,d,e,f,g) (x.getD n default)).2.2.2.1 (kH (a,b,c,d,e,f,g) (x.getD n default)).2.2.2.2.1 (kH (a,b,c,d,e,f,g) (x.getD n default)).2.2.2.2.2.1 (kH (a,b,c,d,e,f,g) (x.getD n default)).2.2.2.2.2.2 (by omega) (by omega) (by omega) hs
  conv=>enter [1,r,1,1];unfold jD
  conv=>enter [1,r,2,1];unfold nM
  rw[aP (by omega),aP (by omega),aA (by omega),v1',aC,v2,aC,aA (by omega),aA (by omega)]
  dsimp only
  cases hv:(v==(3:Int))with
  |false=>
   rw[if_neg (by simp),if_neg (by simp),yU _ a b c d e f g (xZ hq _ hty),aC,aA (by omega),aA (by omega)]
   exact ih
  |true=>
   rw[if_pos rfl,if_pos rfl]
   exact⟨_,rfl,rfl⟩
theorem vC :∀(j k k' n:Nat) (a:MV_) (b:MX_) (c:MS_) (d:MA_) (e:MS_) (f:MQ_) (g:MK_),n+j=x.length->j<k->j<k'->xP (x.take n)=(a,b,c,d,e,f,g)->
  ∃r:Tq1,jC x (fun _=>some ((0:Int),(13:Int))) k (n,a,b,c,d,e,f,g)=some r/\nL x (fun _=>some ((0:Int),(13:Int))) k' n=some r
 |0,k,k',n,a,b,c,d,e,f,g,hn,hk,hk',hq=>by
  obtain⟨k,rfl⟩:∃z,k=z+1:=⟨k-1,by omega⟩
  obtain⟨k',rfl⟩:∃z,k'=z+1:=⟨k'-1,by omega⟩
  refine⟨(0,13), ?_, ?_⟩
  ·conv=>lhs;unfold jC
   rw[aL (by omega)]
  ·conv=>lhs;unfold nL
   rw[aL (by omega)]
 |j+1,k,k',n,a,b,c,d,e,f,g,hn,hk,hk',hq=>by
  obtain⟨k,rfl⟩:∃z,k=z+1:=⟨k-1,by omega⟩
  obtain⟨k',rfl⟩:∃z,k'=z+1:=⟨k'-1,by omega⟩
  have hty:(x.take n).length<=60:=by rw[abG];omega
  obtain⟨v,v1,v2⟩:=inv_both (x.take n) hty a b c d e f g hq (x.getD n default) (hb _ (bQ x n default (by omega)))
  have hs:=oT (x.take n) (x.getD n default)
  rw[<-oM x n default (by omega),hq]at hs
  have ih:=vC j k k' (n+1) (kH (a,b,c,d,e,f,g) (x.getD n default)).1 (kH (a,b,c,d,e,f,g) (x.getD n default)).2.1 (kH (a,b,c,d,e,f,g) (x.getD n default)).2.2.1 (kH (a,b,c,d,e,f,g) (x.getD n default)).2.2.2.1 (kH (a,b,c,d,e,f,g) (x.getD n default)).2.2.2.2.1 (kH (a,b,c,d,e,f,g) (x.getD n default)).2.2.2.2.2.1 (kH (a,b,c,d,e,f,g) (x.getD n default)).2.2.2.2.2.2 (by omega) (by omega) (by omega) hs
  conv=>enter [1,r,1,1];unfold jC
  conv=>enter [1,r,2,1];unfold nL
  rw[aP (by omega),aP (by omega),aA (by omega),v1,aC,v2,aC,aA (by omega),aA (by omega)]
  dsimp only
  cases v with
  |false=>
   rw[if_neg (by simp),if_neg (by simp),yU _ a b c d e f g (xZ hq _ hty),aC,aA (by omega),aA (by omega)]
   exact ih
  |true=>
   rw[if_pos rfl,if_pos rfl]
   exact⟨_,rfl,rfl⟩
theorem aBB :∃i v z:Int,f41 x 0=some (i,z,v)/\f17 x=some (i,v,z):=by
 obtain⟨i,v,z,h1,h2⟩:=rK x hx hb x.length bB bB 0 [] [] [] [] [] [] [] (by omega) (fuel_lt (by omega)) (fuel_lt (by omega)) rfl;refine⟨i,v,z, ?_, ?_⟩
 ·unfold f41 f44;rw[aC,bO];exact h1
 ·unfold f17;rw[bO];exact h2
theorem ackd_both :∃r:Tq1,f41a x=some r/\f19 x=some r:=by
 obtain⟨r,h1,h2⟩:=xM x hx hb x.length bB bB 0 [] [] [] [] [] [] [] (by omega) (fuel_lt (by omega)) (fuel_lt (by omega)) rfl;refine⟨r, ?_, ?_⟩
 ·unfold f41a f44;rw[aC,bO];exact h1
 ·unfold f19;rw[bO];exact h2
theorem invt_both :∃r:Tq1,f41b x=some r/\f21 x=some r:=by
 obtain⟨r,h1,h2⟩:=vC x hx hb x.length bB bB 0 [] [] [] [] [] [] [] (by omega) (fuel_lt (by omega)) (fuel_lt (by omega)) rfl;refine⟨r, ?_, ?_⟩
 ·unfold f41b f44;rw[aC,bO];exact h1
 ·unfold f21;rw[bO];exact h2
end
end Go.Abs
namespace Go.Abs
theorem f11_true :f11=some true:=by kernel_rfl
end Go.Abs
namespace Go.Abs
open Go Go.RowKit Go.ChangeShapes Go.WideShapes Go.ChangeAt Go.Deep
section
variable {P:Program}
end
section
variable {H:Type} {enc:TypeId×Value->H} {P:Program} {W:World} {t e:TypeId} {base:Nat} {v:Value} {d:DataW H} {ps:List MemPlace}
end
abbrev PtV :=Int×Int×Int×Int×Int×aaA×aaA
def i64B (n:Int):Prop:= -9223372036854775808<=n/\n<=9223372036854775807
end Go.Abs
namespace Go.Abs
open Go Go.RowKit Go.ChangeShapes Go.WideShapes Go.ChangeAt Go.Deep
section
variable {H:Type} {enc:TypeId×Value->H} {P:Program} {W:World} {t e:TypeId} {base:Nat} {v:Value} {d:DataW H} {ps:List MemPlace}
end
def okPtW (x:PtV):Prop:=i64B x.1/\i64B x.2.1/\i64B x.2.2.1/\i64B x.2.2.2.1/\i64B x.2.2.2.2.1/\x.2.2.2.2.2.1.length<=140737488355328/\x.2.2.2.2.2.2.length<=140737488355328
end Go.Abs
namespace Go.Abs
theorem f5_true (x1:List Y51) (ht:∀p∈x1,okPtW p) (h1:x1.length<=9223372036854775807):f5 x1=some true:=by
 obtain⟨b,hb,hb2⟩:=f16_few x1 h1 (fun p hp=>⟨(ht p hp).2.2.2.2.2.1,(ht p hp).2.2.2.2.2.2⟩);unfold f5;rw[f11_true,aC];show gB true _ _=_;rw[hJ,hb,aC]
 cases b with
 |false=>rw[if_pos (by rfl),aC]
 |true=>
  obtain⟨h60,htx⟩:=hb2 rfl;obtain⟨i,v,z,a1,a2⟩:=aBB x1 h60 htx;obtain⟨r,b1,b2⟩:=ackd_both x1 h60 htx;obtain⟨q,c1,c2⟩:=invt_both x1 h60 htx;rw[if_neg (by simp)];unfold f13 f18 f20;rw[a1,aC,aC,a2,aC,b1,aC,aC,b2,aC,c1,aC,aC,c2,aC];simp
end Go.Abs
namespace Go.Abs
theorem R_len {e:Option (aaA×Int)} {cnt:Nat} {k:Int} {a b d:aaA} (he:∀v n,e=some (v,n)->v.length<=256/\1<=n/\n<=1000000000000) (hc:cnt<=64):(R e cnt k a b d).1.length<=400:=by
 have it:∀n:Int,-9223372036854775808<=n->n<=9223372036854775807->(Lib.itoa n).length<=21:=fun n h1 h2=>Lib.itoa_length_le n h1 h2;unfold R;split
 ·show cs3.length<=400;decide
 ·split
  ·have:=it (cnt:Int) (by omega) (by omega);have h9:cs9.length=6:=rfl;simp only[aaH];omega
  ·cases e with
   |none=>
    dsimp only;split
    ·split
     ·decide
     ·have:=it 1 (by decide) (by decide);have h9:okW.length=3:=rfl;simp only[aaH];omega
    ·decide
   |some p=>
    obtain⟨v,n⟩:=p;obtain⟨h1,h2,h3⟩:=he v n rfl;have m0:(0:Int)<=MV:=by decide
    have m1:MV<=9223372036854775807:=by decide
    have hm:(Lib.itoa (min (n+1) MV)).length<=21:=it (min (n+1) MV) (by omega) (by omega);have hn:=it n (by omega) (by omega);have h9:okW.length=3:=rfl;have h10:qI.length=6:=rfl;dsimp only
    repeat' split
    all_goals (simp only[aaH,aaS,abT];omega)
theorem ent_bnd {l:List Pr} (h:StV l) (k:aaA):∀v n,ent l k=some (v,n)->v.length<=256/\1<=n/\n<=1000000000000:=by
 intro v n he;unfold ent at he;obtain⟨p,hp,e⟩:=aaO.1 he;have hm:=List.mem_of_find?_eq_some hp;obtain⟨_,h2,h3,h4⟩:=h.each p hm;have e1:p.2.1=v:=congrArg Prod.fst e;have e2:p.2.2=n:=congrArg Prod.snd e;refine⟨?_,by rw[<-e2];exact h3,by rw[<-e2];exact h4⟩;rw[<-e1];unfold gr at h2;simp only[aaI,aaY]at h2;omega
theorem pars_len (l1:List Pr) (op:aaA) (hop:op.length<=200) (hst:StV l1):∃s l1',StV l1'/\s.length<=400/\
  (∀ K : aaA × List Pr -> RApp, ((f84 op).bind fun(r8:Tq9)=>
   if(r8.2.2.2.2==(0:Int))=true then(f85 l1 r8.1 r8.2.1 r8.2.2.1 r8.2.2.2.1).bind fun(r9:aaA×List Pr)=>K (r9.1,r9.2)else K (cs5,l1))=K (s,l1')):=by
 obtain⟨k,a,b,d,e,_,hp2,ha,hb,hd⟩:=rD op (by omega);obtain⟨l',hx⟩:=exec l1 k a b d hst (by omega) (by omega) (by omega);rw[hp2];cases he:e==0
 ·refine⟨cs5,l1,hst,by decide,fun K=> ?_⟩;show(if(e==0)=true then(f85 l1 k a b d).bind (fun r9=>K (r9.1,r9.2))else K (cs5,l1))=_;rw[he];rfl
 ·refine⟨(R (ent l1 a) l1.length k a b d).1,l',hx.ok,R_len (ent_bnd hst a) hst.len,fun K=> ?_⟩;show(if(e==0)=true then(f85 l1 k a b d).bind (fun r9=>K (r9.1,r9.2))else K (cs5,l1))=_;rw[he,if_pos rfl,hx.spec];rfl
def McB (m:Mc):Prop:=McV m/\∀p,p∈m.2->p.2.2.length<=400
theorem f62_len (m:Mc) (q:Ss) (hm:McB m):∃m' s,f62 m.1 m.2 q.1 q.2.1 q.2.2=some (m'.1,m'.2,s)/\McB m'/\s.length<=400:=by
 obtain⟨m',s,_,h2,ha⟩:=sD m q hm.1;refine⟨m',s,h2, ?_⟩;have hmv:McV m':=ha.ok;obtain⟨l1,l2⟩:=m;obtain⟨c,n,op⟩:=q;obtain⟨⟨hst,hse⟩,hb⟩:=hm;simp only at hst hse hb h2
 have fin:∀{l1' l2' s'},f62 l1 l2 c n op=some (l1',l2',s')->(∀p,p∈l2'->p.2.2.length<=400)->s'.length<=400->McB m'/\s.length<=400:=fun{l1' l2' s'} h3 h4 h5=>by
  rw[h2]at h3;simp only[Option.some.injEq,Prod.mk.injEq]at h3;obtain⟨_,e2,e3⟩:=h3;exact⟨⟨hmv,by rw[e2];exact h4⟩,by rw[e3];exact h5⟩
 cases hg:kV (c,n,op)
 ·exact fin (aAf l1 l2 c n op hg) hb (by decide)
 obtain⟨c0,c6,n1,n2,hop⟩:=fT hg;simp only at c0 c6 n1 n2 hop;have hl6:=hse.len;obtain⟨s2,l1',hv',hs2,hK2⟩:=pars_len l1 op hop hst
 cases sview l2 c hse.srt with
 |hit A C n' r' e hA hC=>
  subst e;have hr':r'.length<=400:=hb (c,n',r') (by simp);have hsp:=lB l1 (A++(c,n',r')::C) A [(c,n',r')] C c n op hg (by simp) hl6 (fun a ha=>by rw[acU.1 ha]) hA hC c n' r' true (f83_hit l1 A C c n' r' (by omega) hA hC) s2 l1' hK2;split at hsp
  ·exact fin hsp hb (by decide)
  ·split at hsp
   ·exact fin hsp hb hr'
   ·refine fin hsp (fun p hp=> ?_) hs2;rcases abN.1 hp with hp|hp
    ·exact hb p (acG _ hp)
    ·rcases abB.1 hp with rfl|hp
     ·exact hs2
     ·exact hb p (by simp[hp])
 |miss A C e hA hC=>
  subst e
  have hsp := lB l1 (A ++ C) A [] C c n op hg (by simp) hl6 (fun a ha => (aeJ ha).elim) hA hC 0 0 [] false (aAy l1 (A ++ C) c (by omega) (fun a ha => beq_eq_false_iff_ne.2 (by
   rcases abN.1 ha with ha|ha
   ·have:=hA a ha;omega
   ·have:=hC a ha;omega))) s2 l1' hK2
  rw[acI,acI,if_neg (by simp),if_neg (by simp)]at hsp;refine fin hsp (fun p hp=> ?_) hs2;rcases abN.1 hp with hp|hp
  ·exact hb p (acG _ hp)
  ·rcases abB.1 hp with rfl|hp
   ·exact hs2
   ·exact hb p (adV _ hp)
theorem stpR_B {m:Mc} (q:Ss) (hm:McB m):McB (qK m q)/\(resR m q).length<=400:=by
 obtain⟨m',s,h2,h3,h4⟩:=f62_len m q hm;have e1:qK m q=m':=by unfold qK;rw[h2];rfl
 have e2:resR m q=s:=by unfold resR;rw[h2];rfl
 rw[e1,e2];exact⟨h3,h4⟩
theorem entR_B :∀(l:List Ss) (m:Mc),McB m->McB (qH m l).1/\∀r,r∈(qH m l).2->r.2.2.length<=400
 |[],m,hm=>⟨hm,by simp[qH]⟩
 |q::l,m,hm=>by
  obtain⟨h1,h2⟩:=stpR_B q hm
  obtain⟨h3,h4⟩:=entR_B l (qK m q) h1
  refine⟨h3,fun r hr=> ?_⟩
  rcases abB.1 hr with rfl|hr
  ·exact h2
  ·exact h4 r hr
theorem f37_B (m:Mc) (hm:McB m) (v:aaA) (hv:v.length<=1000000):∃m' rs,f37 m.1 m.2 v=some (m'.1,m'.2,rs)/\McB m'/\rs.length<=8/\∀r,r∈rs->r.2.2.length<=400:=by
 obtain⟨k,c,l,e,_,h2,h8⟩:=aA8 v hv;unfold f37;rw[h2,aC];by_cases he:(e !=0)=true
 ·rw[if_pos he];exact⟨m,[],rfl,hm,by simp,by simp⟩
 ·rw[if_neg he,bO];have a2:=pV (k,c,l,e) h8 (fun((l10,l11,l12):List Pr×List Ss×List Ss)=>some (l10,l11,l12)) l.length bB 0 m [] hm.1 (by simp) (fuel_lt (by omega)) (by simp);obtain⟨h3,h4⟩:=entR_B l m hm;exact⟨(qH m l).1,(qH m l).2,a2,h3,by rw[tL];exact h8,h4⟩
end Go.Abs
namespace Go.Abs
abbrev aeZ:=@Int.emod_lt_of_pos
abbrev afJ:=@Int.emod_nonneg
abbrev St4 :=Int×Int×Int×Int
def okSt (x:St4):Prop:=(0<=x.1/\x.1<=255)/\(0<=x.2.1/\x.2.1<=255)/\(0<=x.2.2.1/\x.2.2.1<=255)/\(0<=x.2.2.2/\x.2.2.2<=255)
def okM (p:Y51):Prop:=i64B p.1/\i64B p.2.1/\i64B p.2.2.1/\i64B p.2.2.2.1/\i64B p.2.2.2.2.1/\p.2.2.2.2.2.1.length<=2000/\p.2.2.2.2.2.2.length<=401
theorem pS (k c:Int) (l:List Ss) (hl:l.length<=1000000):∃r e,f39 k c l=some (r,e)/\r.length<=2000:=by
 obtain⟨v,h1,h2⟩:=f64_gen k c l hl;unfold f39;rw[h1,aC];by_cases hv:v=0
 ·have hE:=h2.1 hv;rw[if_neg (by simp[hv]),f65_eq hE,aC];exact⟨_,_,rfl,sG hE⟩
 ·rw[if_pos (by simpa using hv)];exact⟨[],v,rfl,by simp⟩
theorem f36_tot (x:Int) (h:0<=x/\x<=255):∃r,f36 x=some r/\r.length<=2000:=by
 unfold f36;have h1:0<=x%4:=afJ _ (by omega);have h2:x%4<4:=aeZ _ (by omega);rw[aA (by omega),aA (by omega),aA (by omega)];refine⟨_,rfl, ?_⟩;have:(x%4).toNat=0\/(x%4).toNat=1\/(x%4).toNat=2\/(x%4).toNat=3:=by omega
 rcases this with h|h|h|h<;>rw[h]<;>decide
theorem f40_ok2 (i1 i2 i3 i4 i5:Int) (s6 s7:aaA) (o:Int) (h1:0<=i1/\i1<=1000) (h2:0<=i2/\i2<=1000) (h3:0<=i3/\i3<=1000) (h4:0<=i4/\i4<=1000) (h5:0<=i5/\i5<=1000) (h6:s6.length<=2000) (h7:s7.length<=400):
  ∃p:Y51,f40 i1 i2 i3 i4 i5 s6 s7 o=some p/\okM p:=by
 obtain⟨r,e,g1,g2⟩:=pS 3 0 [] (by simp)
 have key:∀a b c:Int,∀u v:aaA,0<=a/\a<=1001->0<=b/\b<=1001->0<=c/\c<=1001->u.length<=2000->v.length<=401->∃p:Y51,(some (i1,i2,a,b,c,u,v):Option Y51)=some p/\okM p:=fun a b c u v ha hb hc hu hv=>
  ⟨_,rfl,by unfold okM i64B;dsimp only;omega⟩
 have m2:0<=(i3+1)%2:=afJ _ (by omega);have m3:(i3+1)%2<2:=aeZ _ (by omega);unfold f40;rw[bO];split
 ·rw[aA (by omega)];exact key _ _ _ _ _ (by omega) (by omega) (by omega) h6 (by omega)
 split
 ·rw[aA (by omega)];exact key _ _ _ _ _ (by omega) (by omega) (by omega) h6 (by omega)
 split
 ·rw[aA (by omega),aA (by omega)];exact key _ _ _ _ _ (by omega) (by omega) (by omega) h6 (by omega)
 split
 ·rw[aA (by simp only[aaS,abT];omega)];exact key _ _ _ _ _ (by omega) (by omega) (by omega) h6 (by simp only[aaH,aaS,abT];omega)
 split
 ·rw[g1,aC];exact key _ _ _ _ _ (by omega) (by omega) (by omega) g2 (by omega)
 split
 ·exact key _ _ _ _ _ (by omega) (by omega) (by omega) h6 (by omega)
 ·exact key _ _ _ _ _ (by omega) (by omega) (by omega) h6 (by omega)
theorem f63_B (l:List Ty1) (n:Nat) (hn:n<=l.length) (hl:n<=1000) (hv:∀v,v∈l->v.length<=2000) (K:RMc->Option RMc):∀(d k i:Nat) (m:Mc),McB m->i+d=n->d<k->∃m':Mc,McB m'/\nF n l K k (i,m.1,m.2)=K (m'.1,m'.2)
 |0,k,i,m,hm,hi,hk=>by
  obtain⟨k,rfl⟩:∃z,k=z+1:=⟨k-1,by omega⟩
  refine⟨m,hm, ?_⟩
  conv=>lhs;unfold nF
  rw[aL (by omega)]
 |d+1,k,i,m,hm,hi,hk=>by
  obtain⟨k,rfl⟩:∃z,k=z+1:=⟨k-1,by omega⟩
  obtain⟨m1,rs,h1,h2,_,_⟩:=f37_B m hm (l.getD (0+i) []) (by have:=hv _ (bQ l (0+i) [] (by omega));omega)
  obtain⟨m',g1,g2⟩:=f63_B l n hn hl hv K d k (i+1) m1 h2 (by omega) (by omega)
  refine⟨m',g1, ?_⟩
  conv=>lhs;unfold nF
  rw[aP (by omega),h1,aC,aA (by omega),aA (by omega),aA (by omega)]
  exact g2
theorem McB.nil :McB ([],[]):=⟨⟨StV.nil,SesV.nil⟩,by simp⟩
theorem f38_B (l:List Ty1) (n:Nat) (hn:n<=l.length) (hl:n<=1000) (hv:∀v,v∈l->v.length<=2000):∃m':Mc,McB m'/\f38 n l=some (m'.1,m'.2):=by
 obtain⟨m',h1,h2⟩:=f63_B l n hn hl hv (fun((l9,l10):RMc)=>some (l9,l10)) n bB 0 ([],[]) McB.nil (by omega) (fuel_lt (by omega));refine⟨m',h1, ?_⟩;unfold f38 f63;rw[bO];refine(congrArg (fun z=>Option.bind z _) h2).trans ?_;rfl
theorem pZ (x:List St4) (n2:Nat) (l3:List Int) (n19 b:Nat) (K:(Nat×aaA)->Option (List Y51)) (r24:List Pr×List Ss×List Ss) (h8:r24.2.2.length<=8) (hr:∀r,r∈r24.2.2->r.2.2.length<=400) (hb:n19<=b):
  ∀(d k i n:Nat) (s:aaA),i+d=r24.2.2.length->d<k->n<=b->s.length<=400->∃n' s',n'<=b/\s'.length<=400/\gI x n2 l3 n19 K r24 k (i,n,s)=K (n',s')
 |0,k,i,n,s,hi,hk,hn,hs=>by
  obtain⟨k,rfl⟩:∃z,k=z+1:=⟨k-1,by omega⟩
  refine⟨n,s,hn,hs, ?_⟩
  conv=>lhs;unfold gI
  rw[aL (by omega)]
 |d+1,k,i,n,s,hi,hk,hn,hs=>by
  obtain⟨k,rfl⟩:∃z,k=z+1:=⟨k-1,by omega⟩
  have hm:=hr _ (bQ r24.2.2 i default (by omega))
  have e:gI x n2 l3 n19 K r24 (k+1) (i,n,s)=gI x n2 l3 n19 K r24 k (i+1,n19,(r24.2.2.getD i default).2.2)\/gI x n2 l3 n19 K r24 (k+1) (i,n,s)=gI x n2 l3 n19 K r24 k (i+1,n,s):=by
   conv=>enter [1,1];unfold gI
   conv=>enter [2,1];unfold gI
   rw[aP (by omega),bO,aA (by omega),aA (by omega),aA (fun _=>by omega),aA (fun _=>by omega),aA (by omega),aA (by omega)]
   dsimp only
   rw[aA (by omega),aA (by omega)]
   split
   ·exact .inl rfl
   ·exact .inr rfl
  rcases e with e|e
  ·obtain⟨n',s',g1,g2,g3⟩:=pZ x n2 l3 n19 b K r24 h8 hr hb d k (i+1) n19 _ (by omega) (by omega) hb hm
   exact⟨n',s',g1,g2,e.trans g3⟩
  ·obtain⟨n',s',g1,g2,g3⟩:=pZ x n2 l3 n19 b K r24 h8 hr hb d k (i+1) n s (by omega) (by omega) hn hs
   exact⟨n',s',g1,g2,e.trans g3⟩
end Go.Abs
namespace Go.Abs
abbrev K2T :=Nat×Int×Int×Int×aaA×aaA×List Int×List Ss×List Int×List Ty1
theorem wW (x:List St4) (n2:Nat) (l3:List Int) (l4:List Ss) (l5:List Int) (l7:List Ty1) (K:K2T->Option (List Y51)) (c:Int) (hc:((x.getD n2 default).2.1%4)%2=c) (hc2:0<=c/\c<2) (h5:l5.length=4) (B:Nat) (hB:l5.getD (2+c).toNat 0=(B:Int)) (hBl:B<=l7.length) (hB2:B<=1000) (hv:∀v,v∈l7->v.length<=2000) (num:Int) (hnum:(1:Int)+((x.getD n2 default).2.2.1%(max (1:Int) (l3.getD c.toNat 0)))=num):
  ∀(d k i n:Nat) (s:aaA),i+d=B->d<k->n<=B->s.length<=400->∃n' s',n'<=B/\s'.length<=400/\lP x n2 l3 l4 l5 K k (i,n,s,l7)=K (2,c,(n':Int),num,[],s',l3,l4,l5,l7)
 |0,k,i,n,s,hi,hk,hn,hs=>by
  obtain⟨k,rfl⟩:∃z,k=z+1:=⟨k-1,by omega⟩
  refine⟨n,s,hn,hs, ?_⟩
  conv=>lhs;unfold lP
  rw[hc,hnum,hB,aA (by omega),aA (by omega),aA (by omega),aL (by omega)]
 |d+1,k,i,n,s,hi,hk,hn,hs=>by
  obtain⟨k,rfl⟩:∃z,k=z+1:=⟨k-1,by omega⟩
  obtain⟨m,m1,m2⟩:=f38_B l7 i (by omega) (by omega) hv
  obtain⟨m',rs,r1,_,r3,r4⟩:=f37_B m m1 (l7.getD i []) (by have:=hv _ (bQ l7 i [] (by omega));omega)
  obtain⟨n',s',g1,g2,g3⟩:=pZ x n2 l3 i B (fun((n30,s31):Nat×aaA)=>chk (((i:Int)+(1:Int))<=9223372036854775807) ((lP x n2 l3 l4 l5 K k) ((i+1),n30,s31,l7))) (m'.1,m'.2,rs) r3 r4 (by omega) rs.length bB 0 n s (by simp) (fuel_lt (by omega)) hn hs
  obtain⟨n2',s2',q1,q2,q3⟩:=wW x n2 l3 l4 l5 l7 K c hc hc2 h5 B hB hBl hB2 hv num hnum d k (i+1) n' s' (by omega) (by omega) g1 g2
  refine⟨n2',s2',q1,q2, ?_⟩
  conv=>lhs;unfold lP
  rw[hc,hB,aA (by omega),aA (by omega),aA (by omega),aP (by omega),bO,m2,aC]
  dsimp only
  rw[r1,aC,aA (by omega),aA (by omega),aA (by omega)]
  refine g3.trans ?_
  dsimp only
  rw[aA (by omega)]
  exact q3
def MInv (n:Nat) (l3:List Int) (l4:List Ss) (l5:List Int) (l7:List Ty1):Prop:=
 (l3.length=2/\∀i,i<2->0<=l3.getD i 0/\l3.getD i 0<=n)/\l4.length<=n/\(l5.length=4/\∀i,i<4->0<=l5.getD i 0/\l5.getD i 0<=l7.length)/\l7.length<=n/\∀v,v∈l7->v.length<=2000
theorem sS {α:Type} (l:List α) (i j:Nat) (a d:α) (hi:i<l.length):(l.set i a).getD j d=if j=i then a else l.getD j d:=by
 simp only[aaC,List.getElem?_set];by_cases h:i=j
 ·subst h;simp[hi]
 ·rw[if_neg h,if_neg (Ne.symm h)]
def K2f (x:List St4) (K:List Y51->Option (List Y51)) (k n:Nat) (l6:List Y51):K2T->Option (List Y51):=fun(n9,i10,i11,i12,s13,s14,l15,l16,l17,l18)=>
 (f40 (n:Int) (n9:Int) i10 i11 i12 s13 s14 ((x.getD n default).2.2.2)).bind fun(r41:Tq10)=>
 chk (((l6).length+1) *368<=140737488355328)<|
 chk (((n:Int)+(1:Int))<=9223372036854775807)<|
 (eN x K k) ((n+1),l15,l16,l17,(l6++[((r41.1,r41.2.1,r41.2.2.1,r41.2.2.2.1,r41.2.2.2.2.1,r41.2.2.2.2.2.1,r41.2.2.2.2.2.2):Y51)]),l18)
theorem K2f_ok (x:List St4) (K:List Y51->Option (List Y51)) (k n:Nat) (l6:List Y51) (hn:n<50) (h6:l6.length=n) (n9:Nat) (i10 i11 i12:Int) (s13 s14:aaA) (l15:List Int) (l16:List Ss) (l17:List Int) (l18:List Ty1) (a9:n9<=4) (a10:0<=i10/\i10<=3) (a11:0<=i11/\i11<=50) (a12:0<=i12/\i12<=300) (a13:s13.length<=2000) (a14:s14.length<=400):
  ∃p,okM p/\K2f x K k n l6 (n9,i10,i11,i12,s13,s14,l15,l16,l17,l18)=eN x K k (n+1,l15,l16,l17,l6++[p],l18):=by
 obtain⟨p,h1,h2⟩:=f40_ok2 (n:Int) (n9:Int) i10 i11 i12 s13 s14 ((x.getD n default).2.2.2) (by omega) (by omega) (by omega) (by omega) (by omega) a13 a14;refine⟨p,h2, ?_⟩;unfold K2f;dsimp only;rw[h1,aC,aA (by omega),aA (by omega)]
theorem f12_step (x:List St4) (hx:∀q,q∈x->okSt q) (K:List Y51->Option (List Y51)) (k n:Nat) (l3:List Int) (l4:List Ss) (l5:List Int) (l6:List Y51) (l7:List Ty1) (hn:n<x.length) (hn5:n<50) (h6:l6.length=n) (hI:MInv n l3 l4 l5 l7):
  ∃p l3' l4' l5' l7',okM p/\MInv (n+1) l3' l4' l5' l7'/\eN x K (k+1) (n,l3,l4,l5,l6,l7)=eN x K k (n+1,l3',l4',l5',l6++[p],l7'):=by
 obtain⟨⟨h3,h3'⟩,h4,⟨h5,h5'⟩,h7,hv⟩:=hI;obtain⟨⟨x1,x2⟩,⟨w1,w2⟩,⟨p1,p2⟩,o1,o2⟩:=hx _ (bQ x n default hn);have e0:eN x K (k+1) (n,l3,l4,l5,l6,l7)=eN x K (k+1) (n,l3,l4,l5,l6,l7):=rfl;have m1:0<=(x.getD n default).2.1%4:=afJ _ (by omega);have m2:(x.getD n default).2.1%4<4:=aeZ _ (by omega);have c1:0<=((x.getD n default).2.1%4)%2:=afJ _ (by omega);have c2:((x.getD n default).2.1%4)%2<2:=aeZ _ (by omega)
 have fin:∀(n9:Nat) (i10 i11 i12:Int) (s13 s14:aaA) (l15:List Int) (l16:List Ss) (l17:List Int) (l18:List Ty1),n9<=4->0<=i10/\i10<=3->0<=i11/\i11<=50->0<=i12/\i12<=300->s13.length<=2000->s14.length<=400->MInv (n+1) l15 l16 l17 l18->
   ∃p l3' l4' l5' l7',okM p/\MInv (n+1) l3' l4' l5' l7'/\K2f x K k n l6 (n9,i10,i11,i12,s13,s14,l15,l16,l17,l18)=eN x K k (n+1,l3',l4',l5',l6++[p],l7'):=fun n9 i10 i11 i12 s13 s14 l15 l16 l17 l18 a9 a10 a11 a12 a13 a14 hI=>by
  obtain⟨p,g1,g2⟩:=K2f_ok x K k n l6 hn5 h6 n9 i10 i11 i12 s13 s14 l15 l16 l17 l18 a9 a10 a11 a12 a13 a14;exact⟨p,l15,l16,l17,l18,g1,hI,g2⟩
 conv=>enter [1,p,1,a,1,b,1,c,1,d,2,2,1];unfold eN
 rw[if_pos (by rw[abL (by omega),abL (by omega)];rfl),aA (by omega),aA (by omega),aA (by omega),bO,aA (by omega)];generalize hw:(x.getD n default).2.1%4=w at *;generalize hcc:w%2=c at *;generalize hp:(x.getD n default).2.2.1=pk at *;have hcn:c.toNat<2:=by omega
 obtain⟨b1,b2⟩:=h3' c.toNat hcn;by_cases k0:((x.getD n default).1%(5:Int)==(0:Int))=true
 ·-- an invocation
  rw[if_pos k0];obtain⟨r8,r1,r2⟩:=f36_tot pk ⟨p1,p2⟩;have e1:(l3.set c.toNat (l3.getD c.toNat 0+1)).length=2:=by rw[ahC,h3]
  have e2:(l3.set c.toNat (l3.getD c.toNat 0+1)).getD c.toNat 0=l3.getD c.toNat 0+1:=by rw[sS _ _ _ _ _ (by omega),if_pos rfl]
  rw[aA (by omega),aA (by omega),aA (by omega),aA (by omega),aA (by omega),aA (by omega),r1,aC,e1,e2,aA (by omega),aA (by omega),aA (by omega),aA (by omega),aA (by omega),aA (by omega)];refine fin 1 c 0 (l3.getD c.toNat 0+1) r8 [] _ _ l5 l7 (by omega) (by omega) (by omega) (by omega) r2 (by simp) ⟨⟨e1,fun i hi=> ?_⟩, ?_,⟨h5,h5'⟩,by omega,hv⟩
  ·rw[sS _ _ _ _ _ (by omega)];split
   ·omega
   ·have:=h3' i hi;omega
  ·rw[aaH];simp only[aaS,abT];omega
 ·rw[if_neg k0];by_cases k4:((x.getD n default).1%(5:Int)==(4:Int))=true
  ·-- an acknowledgement
   rw[if_pos k4];have hmx:(1:Int)<=max 1 (l3.getD c.toNat 0):=by omega
   have hpm0:0<=pk%(max (1:Int) (l3.getD c.toNat 0)):=afJ _ (by omega);have hpm1:pk%(max (1:Int) (l3.getD c.toNat 0))<max (1:Int) (l3.getD c.toNat 0):=aeZ _ (by omega);rw[aA (by omega),aA (by omega),aA (by omega),aA (by omega),aA (by omega),aA (by omega)];obtain⟨q1,q2⟩:=h5' (2+c).toNat (by omega);obtain⟨n',s',g1,g2,g3⟩:=wW x n l3 l4 l5 l7 (K2f x K k n l6) c (by rw[hw,hcc]) ⟨c1,c2⟩ h5 (l5.getD (2+c).toNat 0).toNat (by omega) (by omega) (by omega) hv _ rfl (l5.getD (2+c).toNat 0).toNat bB 0 0 [] (by omega) (fuel_lt (by omega)) (by omega) (by simp);rw[hp]at g3;obtain⟨p,l3',l4',l5',l7',f1,f2,f3⟩:=fin 2 c (n':Int) (1+pk%(max (1:Int) (l3.getD c.toNat 0))) [] s' l3 l4 l5 l7 (by omega) (by omega) (by omega) (by omega) (by simp) g2 ⟨⟨h3,fun i hi=>by have:=h3' i hi;omega⟩,by omega,⟨h5,h5'⟩,by omega,hv⟩;exact⟨p,l3',l4',l5',l7',f1,f2,g3.trans f3⟩
  ·-- an entry that a party states
   rw[if_neg k4,bO];have hwn:w.toNat<4:=by omega
   obtain⟨q1,q2⟩:=h5' w.toNat hwn
   have K5:∀(l37:List Ss) (l38:List Ty1),l37.length<=n+1->l38.length<=n+1->(∀v,v∈l38->v.length<=2000)->l5.getD w.toNat 0<l38.length->(∀i,i<4->l5.getD i 0<=l38.length)->
     ∃p l3' l4' l5' l7',okM p/\MInv (n+1) l3' l4' l5' l7'/\
      (chk (0<=w/\w<(((l5).length:Nat):Int))<|chk ((w.toNat)<(l5).length)<|chk (0<=w/\w<(((l5).length:Nat):Int))<|chk ((w.toNat)<(l5).length)<|
      chk (0<=(l5.getD (w.toNat) 0)/\(l5.getD (w.toNat) 0)<(((l38).length:Nat):Int))<|chk ((((l5.getD (w.toNat) 0)).toNat)<(l38).length)<|
      jn (fun((n39,i40):Nat×Int)=>chk (0<=w/\w<(((l5).length:Nat):Int))<|chk ((w.toNat)<(l5).length)<|
       chk (-9223372036854775808<=((l5.getD (w.toNat) 0)+(1:Int))/\((l5.getD (w.toNat) 0)+(1:Int))<=9223372036854775807)<|chk (0<=w/\w<(((l5).length:Nat):Int))<|chk ((w.toNat)<(l5).length)<|
       K2f x K k n l6 (n39,i40,(l5.getD (w.toNat) 0),(0:Int),(l38.getD (((l5.getD (w.toNat) 0)).toNat) []),[],l3,l37,(l5.set (w.toNat) ((l5.getD (w.toNat) 0)+(1:Int))),l38))
      fun(K7:(Nat×Int)->Option (List Y51))=>
      if(decide (w>=(2:Int)))=true then(chk (-9223372036854775808<=(w-(2:Int))/\(w-(2:Int))<=9223372036854775807)<|K7 (3,(w-(2:Int))))else K7 (4,w))=eN x K k (n+1,l3',l4',l5',l6++[p],l7'):=fun l37 l38 a1 a2 a3 a4 a5=>by
    rw[aA (by omega),aA (by omega),aA (by omega),aA (by omega),aA (by omega),aA (by omega),bO]
    have hI' : MInv (n + 1) l3 l37 (l5.set w.toNat (l5.getD w.toNat 0 + 1)) l38 := ⟨⟨h3, fun i hi => by have := h3' i hi; omega⟩, a1, ⟨by rw[ahC,h5],fun i hi=>by
     rw[sS _ _ _ _ _ (by omega)];split
     ·omega
     ·have:=h5' i hi;have:=a5 i hi;omega⟩,a2,a3⟩
    have hg:((l38.getD (l5.getD w.toNat 0).toNat [])).length<=2000:=a3 _ (bQ l38 _ [] (by omega));by_cases hw2:w>=2
    ·rw[aP hw2,aA (by omega)];dsimp only;rw[aA (by omega),aA (by omega),aA (by omega),aA (by omega),aA (by omega)];exact fin 3 (w-2) _ 0 _ [] _ _ _ _ (by omega) (by omega) (by omega) (by omega) hg (by simp) hI'
    ·rw[aL hw2];dsimp only;rw[aA (by omega),aA (by omega),aA (by omega),aA (by omega),aA (by omega)];exact fin 4 w _ 0 _ [] _ _ _ _ (by omega) (by omega) (by omega) (by omega) hg (by simp) hI'
   rw[aA (by omega),aA (by omega)];by_cases hl:(l5.getD w.toNat 0==((l7.length:Nat):Int))=true
   ·rw[if_pos hl,bO,aA (by omega)];have hle:l5.getD w.toNat 0=((l7.length:Nat):Int):=eq_of_beq hl;have K6:∀(n32 n33:Nat) (l34 l35:List Ss),l34.length<=n+1->l35.length<=1000000->∃r e,f39 (n32:Int) (n33:Int) l35=some (r,e)/\r.length<=2000:=fun n32 n33 l34 l35 _ a2=>pS _ _ l35 a2
    have fin5:∀(r:aaA) (l34:List Ss),r.length<=2000->l34.length<=n+1->l34.length<=n+1/\(l7++[r]).length<=n+1/\(∀v,v∈l7++[r]->v.length<=2000)/\l5.getD w.toNat 0<(l7++[r]).length/\(∀i,i<4->l5.getD i 0<=(l7++[r]).length):=fun r l34 a1 a2=>by
     have e:(l7++[r]).length=l7.length+1:=by simp
     refine⟨a2,by omega,fun v hv'=> ?_,by omega,fun i hi=>by have:=h5' i hi;omega⟩;rcases abN.1 hv' with h|h
     ·exact hv v h
     ·rw[acU.1 h];exact a1
    by_cases h3p:(pk%(4:Int)==(3:Int))=true
    ·rw[if_pos h3p];obtain⟨r,e,g1,g2⟩:=pS ((2:Nat):Int) ((1:Nat):Int) [] (by simp);obtain⟨b1,b2,b3,b4,b5⟩:=fin5 r l4 g2 (by omega);dsimp only;rw[g1,aC,aA (by omega)];exact K5 l4 (l7++[r]) b1 b2 b3 b4 b5
    ·rw[if_neg h3p];by_cases hz:((l4.length:Nat):Int)>0
     ·rw[aP hz,aA (by omega),aA (by omega),aA (by omega),aA (by omega)];obtain⟨r,e,g1,g2⟩:=pS ((1:Nat):Int) ((0:Nat):Int) [((l4.getD 0 (default:Tq0)).1,(l4.getD 0 (default:Tq0)).2.1,(l4.getD 0 (default:Tq0)).2.2)] (by simp);obtain⟨b1,b2,b3,b4,b5⟩:=fin5 r ([]++l4.drop 1) g2 (by simp only[aeP,aaZ];omega);dsimp only;rw[g1,aC,aA (by omega)];exact K5 _ (l7++[r]) b1 b2 b3 b4 b5
     ·rw[aL hz];obtain⟨r,e,g1,g2⟩:=pS ((1:Nat):Int) ((0:Nat):Int) [] (by simp);obtain⟨b1,b2,b3,b4,b5⟩:=fin5 r l4 g2 (by omega);dsimp only;rw[g1,aC,aA (by omega)];exact K5 l4 (l7++[r]) b1 b2 b3 b4 b5
   ·rw[if_neg hl];have hne:l5.getD w.toNat 0≠((l7.length:Nat):Int):=fun h=>hl (by rw[h];simp);exact K5 l4 l7 (by omega) (by omega) hv (by omega) (fun i hi=>(h5' i hi).2)
theorem aAQ (x:List St4) (hx:∀q,q∈x->okSt q) (hl:x.length<=9223372036854775807):∀(d k n:Nat) (l3:List Int) (l4:List Ss) (l5:List Int) (l6:List Y51) (l7:List Ty1),n+d=min x.length 50->d<k->l6.length=n->MInv n l3 l4 l5 l7->(∀p,p∈l6->okM p)->
  ∃out,eN x (fun l=>some l) k (n,l3,l4,l5,l6,l7)=some out/\out.length<=50/\∀p,p∈out->okM p
 |0,k,n,l3,l4,l5,l6,l7,hn,hk,h6,hI,hp=>by
  obtain⟨k,rfl⟩:∃z,k=z+1:=⟨k-1,by omega⟩
  refine⟨l6, ?_,by omega,hp⟩
  conv=>lhs;unfold eN
  rw [if_neg (by
   intro z
   simp only[aaI,aaY]at z
   omega)]
 |d+1,k,n,l3,l4,l5,l6,l7,hn,hk,h6,hI,hp=>by
  obtain⟨k,rfl⟩:∃z,k=z+1:=⟨k-1,by omega⟩
  obtain⟨p,l3',l4',l5',l7',h1,h2,h3⟩:=f12_step x hx (fun l=>some l) k n l3 l4 l5 l6 l7 (by omega) (by omega) h6 hI
  obtain ⟨out, g1, g2, g3⟩ := aAQ x hx hl d k (n + 1) l3' l4' l5' (l6 ++ [p]) l7' (by omega) (by omega) (by rw [aaH, h6]; rfl) h2 (fun q hq=>by
   rcases abN.1 hq with h|h
   ·exact hp q h
   ·rw[acU.1 h];exact h1)
  exact⟨out,h3.trans g1,g2,g3⟩
theorem f12_ok2 (x:List St4) (hx:∀q,q∈x->okSt q) (hl:x.length<=9223372036854775807):∃out,f12 x=some out/\out.length<=50/\∀p,p∈out->okM p:=by
 unfold f12;rw[bO]
 exact aAQ x hx hl (min x.length 50) bB 0 _ [] _ [] [] (by omega) (fuel_lt (by omega)) rfl ⟨⟨rfl,fun i hi=>by
  match i,hi with
  |0,_=>decide
  | 1, _ => decide⟩, by simp, ⟨by simp,fun i hi=>by
  have:(List.replicate 4 (0:Int)).getD i 0=0:=by
   match i,hi with
   |0,_=>rfl
   |1,_=>rfl
   |2,_=>rfl
   |3,_=>rfl
  rw[this];simp⟩,by simp,by simp⟩ (by simp)
end Go.Abs
