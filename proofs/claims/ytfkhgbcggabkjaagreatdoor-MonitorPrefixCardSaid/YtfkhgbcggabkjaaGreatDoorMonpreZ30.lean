/- Part 30 of the proof: Ent54m, Map54, MonDm, MonFm1, MonFm2, MonG3, MonG4, MadeA, Open6, Open13, MadeB, MadeC, MonG5, Aw54A. -/
import Derived.Test.YtfkhgbcggabkjaaGreatDoorMonpreZ29
import Derived.Lib.SplitLaws
import Derived.Lib.ItoaLen
import Derived.Lib.ItoaMem
namespace Go.Abs
def badB (b:UInt8):Bool:=decide (((b.toNat:Nat):Int)<33)||decide (((b.toNat:Nat):Int)>126)
def gr (s:List UInt8) (n:Int):Bool:= !s.any badB&&(!(s==[])&&decide (((s.length:Nat):Int)≤n))
theorem gr_ne {s:List UInt8} {n:Int} (h:gr s n=true):(s==[])=false:=by
 unfold gr at h;cases hs:s==[]
 ·rfl
 ·rw[hs]at h;simp at h
theorem f219_eq (s:List UInt8) (n:Int) (hs:s.length≤9223372036854775807):f219 s n=some (gr s n):=by
 simp only[f219,jn]
 rw [aAB (fun k n => fF s _ k n) s 0 badB (some false) _ (fun k n hn=>by
  show fF s _ (k+1) n=_
  conv=>lhs;unfold fF
  rw[aR (by omega),aA (by omega),aA (fun _=>by omega)];show(if badB (s.getD n 0)=true then some false else _)=_
  rw [aA (by omega)]) (fun k=>by
  show fF s _ (k+1) _=_
  conv=>lhs;unfold fF
  rw[aO (by omega)]) bG (fuel_lt (by omega))]
 unfold gr;cases s.any badB<;>simp
theorem f178_eq (s:List UInt8) (n:Int) (hs:s.length≤9223372036854775807):f178 s n=some (gr s n):=by
 simp only[f178,jn]
 rw [aAB (fun k n => fH s _ k n) s 0 badB (some false) _ (fun k n hn=>by
  show fH s _ (k+1) n=_
  conv=>lhs;unfold fH
  rw[aR (by omega),aA (by omega),aA (fun _=>by omega)];show(if badB (s.getD n 0)=true then some false else _)=_
  rw [aA (by omega)]) (fun k=>by
  show fH s _ (k+1) _=_
  conv=>lhs;unfold fH
  rw[aO (by omega)]) bG (fuel_lt (by omega))]
 have e:decide (((s.length:Nat):Int)≥1)= !(s==[]):=by
  cases s<;>simp<;>omega
 unfold gr;rw[e];cases s.any badB<;>simp
def fld (s:List UInt8) (b:Bool):Bool:=if b then gr s 64 else s==[]
theorem xQ (s:List UInt8) (b:Bool) (hs:s.length≤9223372036854775807):f206 s b=some (fld s b):=by
 unfold f206 fld;cases b
 ·rfl
 ·rw[f219_eq s 64 hs];rfl
def kd (k:Int):List UInt8×Bool×Bool×Bool:=
 if k=1 then([112,117,116],true,false,true)else if k=2 then([103,101,116],true,false,false)else if k=3 then(cs6,true,false,false)else
 if k=4 then(cs7,true,false,true)else if k=5 then([99,97,115],true,true,true)else if k=6 then(cs8,false,false,false)else([],false,false,false)
def isK (k:Int):Bool:=decide (1≤k)&&decide (k≤6)
def gI (k:Int) (a b c:List UInt8):Bool:=isK k&&fld a (kd k).2.1&&fld b (kd k).2.2.1&&fld c (kd k).2.2.2
theorem kinds (k:Int):k=1∨k=2∨k=3∨k=4∨k=5∨k=6∨isK k=false:=by
 unfold isK;by_cases h1:1≤k
 ·by_cases h2:k≤6
  ·omega
  ·simp[h1,h2]
 ·simp[h1]
theorem lJ {k:Int} (h:isK k=false):k≠1∧k≠2∧k≠3∧k≠4∧k≠5∧k≠6:=by
 refine⟨?_, ?_, ?_, ?_, ?_, ?_⟩<;>(rintro rfl;cases h)
theorem hasM31 (k:Int):wV bT k=isK k:=by
 rcases kinds k with rfl|rfl|rfl|rfl|rfl|rfl|h
 iterate 6 rfl
 rw[h];obtain⟨h1,h2,h3,h4,h5,h6⟩:=lJ h;simp[wV,bT,jB,h1,h2,h3,h4,h5,h6]
theorem getM31 (k:Int):lM bT bO (default:Tq7) ([],false,false,false) k=kd k:=by
 rcases kinds k with rfl|rfl|rfl|rfl|rfl|rfl|h
 iterate 6 rfl
 obtain⟨h1,h2,h3,h4,h5,h6⟩:=lJ h;simp[lM,bT,jB,kd,h1,h2,h3,h4,h5,h6]
theorem sF (k:Int) (a b c:List UInt8) (ha:a.length≤9223372036854775807) (hb:b.length≤9223372036854775807) (hc:c.length≤9223372036854775807):
  f185 k a b c=some ((kd k).1,(kd k).2.1,(kd k).2.2.1,(kd k).2.2.2,gI k a b c):=by
 unfold f185 f182 gI;rw[aC,hasM31,getM31,xQ a _ ha,xQ b _ hb,xQ c _ hc];cases isK k<;>cases fld a (kd k).2.1<;>cases fld b (kd k).2.2.1<;>cases fld c (kd k).2.2.2<;>rfl
def txt (k:Int) (a b c:List UInt8):List UInt8:=(kd k).1++(if a==[]then[]else 32::a)++(if b==[]then[]else 32::b)++(if c==[]then[]else 32::c)
theorem kd_len (k:Int):(kd k).1.length≤6:=by
 rcases kinds k with rfl|rfl|rfl|rfl|rfl|rfl|h
 iterate 6 decide
 obtain⟨h1,h2,h3,h4,h5,h6⟩:=lJ h;simp[kd,h1,h2,h3,h4,h5,h6]
theorem qI {s:List UInt8} {n:Int} (h:gr s n=true):(s.length:Int)≤n:=by
 unfold gr at h;simp only[Bool.and_eq_true,decide_eq_true_eq]at h;exact h.2.2
theorem wZ {s:List UInt8} {b:Bool} (h:fld s b=true):s.length≤64:=by
 unfold fld at h;cases b
 ·simp at h;subst h;simp
 ·have:=qI h;omega
theorem zF {k:Int} {a b c:List UInt8} (h:gI k a b c=true):a.length≤64∧b.length≤64∧c.length≤64:=by
 unfold gI at h;simp only[Bool.and_eq_true]at h;exact⟨wZ h.1.1.2,wZ h.1.2,wZ h.2⟩
theorem fuel_succ :∃k,bG=k+5:=⟨bG-5,by unfold bG;omega⟩
theorem aAZ {l:List Ty0} {r:List UInt8} (h:Lib.join l [32]=r) (h1:r.length≤140737488355328) (h2:l.length≤140737488355328):joinP l [32]=some r:=by
 unfold joinP;rw[h,if_pos ⟨h1,h2⟩]
theorem f184_eq (k:Int) (a b c:List UInt8) (ha:a.length≤9223372036854775807) (hb:b.length≤9223372036854775807) (hc:c.length≤9223372036854775807):
  f184 k a b c=some (if gI k a b c=true then(txt k a b c,0)else([],1)):=by
 unfold f184;rw[sF k a b c ha hb hc,aC];have hlen:= @zF k a b c;revert hlen;cases gI k a b c
 ·intro _;rfl
 intro hlen;have hlen:=hlen rfl;have hk:=kd_len k;simp only[Bool.not_true,Bool.false_eq_true,if_false,if_true];obtain⟨q,hq⟩:=fuel_succ;simp only[jn];rw[hq];generalize hw:(kd k).1=w at hk
 have step:∀K,jX a b c K (q+5) (0,[w])=K ([w]++(if a==[]then[]else[a])++(if b==[]then[]else[b])++(if c==[]then[]else[c])):=by
  intro K;cases ha:a==[]<;>cases hb:b==[]<;>cases hc:c==[]<;>simp[jX,ha,hb,hc,chk,jn]
 rw[step];unfold f205
 have hj:Lib.join ([w]++(if a==[]then[]else[a])++(if b==[]then[]else[b])++(if c==[]then[]else[c])) [32]=txt k a b c:=by
  unfold txt;rw[hw];cases ha:a==[]<;>cases hb:b==[]<;>cases hc:c==[]<;>simp[Lib.join,List.intercalate]
 have hl:(txt k a b c).length≤140737488355328:=by
  unfold txt;rw[hw];cases ha:a==[]<;>cases hb:b==[]<;>cases hc:c==[]<;>simp<;>omega
 rw[aAZ hj hl (by cases ha:a==[]<;>cases hb:b==[]<;>cases hc:c==[]<;>simp)];rfl
theorem f114_eq (k:Int):f114 k=some (kd k).1:=by
 rcases kinds k with rfl|rfl|rfl|rfl|rfl|rfl|h
 iterate 6 rfl
 have h0:=h;unfold isK at h0
 have h':(decide (k<1)||decide (k>6))=true:=by
  simp only[Bool.and_eq_false_iff,decide_eq_false_iff_not,Bool.or_eq_true,decide_eq_true_eq]at h0⊢;omega
 obtain⟨h1,h2,h3,h4,h5,h6⟩:=lJ h;unfold f114;rw[if_pos h'];simp[kd,h1,h2,h3,h4,h5,h6]
theorem kd_ne (k:Int):((kd k).1==[])= !isK k:=by
 rcases kinds k with rfl|rfl|rfl|rfl|rfl|rfl|h
 iterate 6 rfl
 obtain⟨h1,h2,h3,h4,h5,h6⟩:=lJ h;simp[kd,h,h1,h2,h3,h4,h5,h6]
theorem sI (k:Int) (a b c:List UInt8) (ha:a.length≤9223372036854775807) (hb:b.length≤9223372036854775807) (hc:c.length≤9223372036854775807):
  f115 k a b c=some (if gI k a b c=true then(txt k a b c,0)else([],1)):=by
 have e38:∀s:List UInt8,s.length≤9223372036854775807→f148 s=some (gr s 64):=fun s hs=>by unfold f148;rw[f178_eq s 64 hs];rfl
 unfold f115;rw[f114_eq,aC,e38 a ha,e38 b hb,e38 c hc,kd_ne];have na:= @gr_ne a 64;have nb:= @gr_ne b 64;have nc:= @gr_ne c 64;have hk:=kd_len k;unfold gI fld txt;have la:= @qI a 64;have lb:= @qI b 64;have lc:= @qI c 64;generalize ga:gr a 64=va at *;generalize gb:gr b 64=vb at *;generalize gc:gr c 64=vc at *;generalize ea:(a==[])=wa at *;generalize eb:(b==[])=wb at *;generalize ec:(c==[])=wc at *;rcases kinds k with rfl|rfl|rfl|rfl|rfl|rfl|h
 iterate 6
  cases va<;>cases vb<;>cases vc<;>cases wa<;>cases wb<;>cases wc<;>first|(exfalso;simp at na;done)|(exfalso;simp at nb;done)|(exfalso;simp at nc;done)|(simp[gW,chk,isK,kd,jn,cs8,cs6,cs7];done)|(simp[gW,chk,isK,kd,jn,cs6,cs7];simp at la lb lc;omega)|(simp[gW,chk,isK,kd,jn,aC,cs8,cs6,cs7];simp at la lc;omega)|(simp[gW,chk,isK,kd,jn,aC,cs8,cs6,cs7];simp at la;omega)
 ·rw[h];rfl
def spl :List UInt8→List Ty0
 |[]=>[[]]
 |c::l=>if c=32 then[]::spl l else match spl l with
  |[]=>[[c]]
  |w::r=>(c::w)::r
theorem tF (l:List UInt8):∃w r,spl l=w::r:=by
 cases l with
 |nil=>exact⟨_,_,rfl⟩
 |cons c l=>
  unfold spl;split
  ·exact⟨_,_,rfl⟩
  ·split<;>exact⟨_,_,rfl⟩
theorem iV {c:UInt8} {l w:List UInt8} {r:List Ty0} (hc:c≠32) (h:spl l=w::r):spl (c::l)=(c::w)::r:=by
 conv=>lhs;unfold spl
 rw[if_neg hc,h]
theorem spl_sp (l:List UInt8):spl (32::l)=[]::spl l:=rfl
theorem tD :∀l:List UInt8,Lib.split l [32]=spl l
 |[]=>by
  unfold Lib.split
  rw[Lib.count_one];rfl
 |b::l=>by
  have ih:=tD l
  have hp:([32]:List UInt8).isPrefixOf (b::l)=(b==32):=by simp[List.isPrefixOf,BEq.comm]
  by_cases h:b=32
  ·subst h
   have hix:Lib.index (32::l) [32]=0:=by rw[Lib.index];simp[List.isPrefixOf]
   have hc:Lib.count (32::l) [32]=Lib.count l [32]+1:=by rw[Lib.count_cons_eq];omega
   unfold Lib.split at ih⊢
   rw[hc]
   unfold Lib.splitK
   rw[hix,if_neg (by decide),spl_sp,←ih]
   rfl
  ·have hix:Lib.index (b::l) [32]=if Lib.index l [32]== -1 then-1 else Lib.index l [32]+1:=by
    rw[Lib.index,hp];simp[h]
   have hc:Lib.count (b::l) [32]=Lib.count l [32]:=Lib.count_cons_ne b 32 l h
   unfold Lib.split at ih⊢
   rw[hc]
   by_cases hm:Lib.index l [32]= -1
   ·rw[Lib.count_miss hm]at ih⊢
    rw[iV h ih.symm]
    rfl
   ·have hge:=Lib.index_ge l [32]
    obtain⟨j,hj⟩:∃j:Nat,Lib.index l [32]=j:=⟨(Lib.index l [32]).toNat,by omega⟩
    obtain⟨m,hm'⟩:∃m,Lib.count l [32]=m+1:=⟨Lib.count (l.drop (j+([32]:List UInt8).length)) [32],by rw[Lib.count_hit (by simp) hj];omega⟩
    rw[hm']at ih⊢
    unfold Lib.splitK at ih⊢
    have hm1:¬(Lib.index l [32]== -1)=true:=by simpa using hm
    rw[hix,if_neg hm1]
    rw[if_neg hm1]at ih
    rw[iV h ih.symm,if_neg (by simp;omega)]
    have e1:(Lib.index l [32]+1).toNat+0=(Lib.index l [32]).toNat+0+1:=by omega
    have e2:(Lib.index l [32]+1).toNat+[32].length=(Lib.index l [32]).toNat+([32]:List UInt8).length+1:=by simp;omega
    rw[e1,List.take_succ_cons]
    congr 1
    have e2':(Lib.index l [32]+1).toNat+([32]:List UInt8).length=((Lib.index l [32]).toNat+([32]:List UInt8).length)+1:=by simp;omega
    rw[e2',List.drop_succ_cons]
theorem jO :∀(l:List UInt8) (w:List UInt8),w∈spl l→w.length≤l.length
 |[],w,h=>by
  simp[spl]at h;subst h;exact Nat.le_refl _
 |c::l,w,h=>by
  by_cases hc:c=32
  ·subst hc
   rw[spl_sp]at h
   rcases List.mem_cons.1 h with rfl|h
   ·exact Nat.zero_le _
   ·have:=jO l w h;simp;omega
  ·obtain⟨v,r,hv⟩:=tF l
   rw[iV hc hv]at h
   rcases List.mem_cons.1 h with rfl|h
   ·have:=jO l v (by rw[hv];exact List.mem_cons_self ..);simp;omega
   ·have:=jO l w (by rw[hv];exact List.mem_cons_of_mem _ h);simp;omega
def noSp (w:List UInt8):Prop:=∀c,c∈w→c≠32
theorem yT :∀(w:List UInt8),noSp w→spl w=[w]
 |[],_=>rfl
 |c::w,h=>iV (h c (List.mem_cons_self ..)) (yT w fun d hd=>h d (List.mem_cons_of_mem _ hd))
theorem spl_app :∀(w l:List UInt8),noSp w→spl (w++32::l)=w::spl l
 |[],_l,_=>rfl
 |c::w,l,h=>iV (h c (List.mem_cons_self ..)) (spl_app w l fun d hd=>h d (List.mem_cons_of_mem _ hd))
theorem gr_sp {s:List UInt8} {n:Int} (h:gr s n=true):noSp s:=by
 rintro c hc rfl;unfold gr at h;have:s.any badB=true:=List.any_eq_true.2 ⟨32,hc,by decide⟩;rw[this]at h;cases h
theorem kd_sp (k:Int):noSp (kd k).1:=by
 have:∀c,c∈(kd k).1→(c==32)=false:=by
  have:(kd k).1.all (fun c=> !(c==32))=true:=by
   rcases kinds k with rfl|rfl|rfl|rfl|rfl|rfl|h
   iterate 6 rfl
   obtain⟨h1,h2,h3,h4,h5,h6⟩:=lJ h;simp[kd,h1,h2,h3,h4,h5,h6]
  intro c hc;simpa using List.all_eq_true.1 this c hc
 intro c hc e;have:=this c hc;simp[e]at this
theorem f113_eq (x:List UInt8) (hx:x.length≤1000000):f113 x=some (spl x):=by
 have main:∀(K:List Ty0→Option (List Ty0)) (c k n b:Nat) (l:List Ty0) (w:List UInt8) (r:List Ty0),n+c=x.length→b≤n→c+1<k→l.length≤n→spl (x.drop n)=w::r→
   gP x K k (b,n,l)=K (l++(((x.take n).drop b++w)::r)):=by
  intro K c
  induction c with
  |zero=>
   intro k n b l w r hn hb hk hl hs;obtain⟨k,rfl⟩:∃q,k=q+2:=⟨k-2,by omega⟩;obtain rfl:n=x.length:=by omega
   rw[List.drop_eq_nil_of_le (Nat.le_refl _)]at hs;cases hs
   conv=>lhs;unfold gP
   rw[aR (by omega),bV,aA (fun h=>by simp at h)];have e:(((x.length:Nat):Int)==((x.length:Nat):Int)||(((x.getD x.length 0).toNat:Nat):Int)==32)=true:=by simp
   rw[if_pos e,aA (by omega),aA (by omega),aA (by omega)];simp only[];rw[aA (by omega)]
   conv=>lhs;unfold gP
   rw[aO (by omega)]
   simp
  |succ c ih=>
   intro k n b l w r hn hb hk hl hs;obtain⟨k,rfl⟩:∃q,k=q+1:=⟨k-1,by omega⟩;have hlt:n<x.length:=by omega
   rw[getD_drop x n 0 hlt]at hs
   conv=>lhs;unfold gP
   rw[aR (by omega),bV,aA (fun _=>by omega)];have e0:(((n:Nat):Int)==((x.length:Nat):Int))=false:=by simp;omega
   rw[e0,Bool.false_or]
   have et:(x.take (n+1))=x.take n++[x.getD n 0]:=by
    rw[List.take_add_one];simp[List.getD_eq_getElem?_getD,hlt]
   by_cases hc:x.getD n 0=32
   ·rw[hc,spl_sp]at hs;obtain⟨w',r',hw'⟩:=tF (x.drop (n+1));rw[hw']at hs;cases hs;rw[if_pos (by rw[hc];rfl),aA (by omega),aA (by omega),aA (by omega)];simp only[];rw[aA (by omega),ih k (n+1) (n+1) _ w' r' (by omega) (Nat.le_refl _) (by omega) (by simp;omega) hw'];congr 1;rw[List.drop_eq_nil_of_le (show(x.take (n+1)).length≤n+1 by rw[List.length_take];omega)];simp
   ·have hc' : (x.getD n 0).toNat ≠ 32 := fun h => hc (by
     apply UInt8.toNat.inj;rw[h];rfl)
    rw[if_neg (by simp only[beq_iff_eq];omega)];simp only[];obtain⟨w',r',hw'⟩:=tF (x.drop (n+1));rw[iV hc hw']at hs;cases hs;rw[aA (by omega),ih k (n+1) b _ w' r (by omega) (by omega) (by omega) (by omega) hw'];congr 2;rw[et,List.drop_append_of_le_length (by simp;omega)];simp
 obtain⟨w,r,hw⟩:=tF x;unfold f113;simp only[jn];rw[main _ x.length bG 0 0 [] w r (by omega) (Nat.le_refl _) (by unfold bG;omega) (Nat.le_refl _) (by simpa using hw)];rw[hw];simp
abbrev OpR :=Int×List UInt8×List UInt8×List UInt8×Int
theorem nextO_of {R:Type} [DecidableEq R] {n:Nat} {seen:List Nat} {K:Nat→Option R} {E:Option R} {r:R} (h1:∀j,j<n→j∉seen→K j=some r) (h2:(∀j,j<n→j∈seen)→E=some r):aAW n seen K E=some r:=by
 have hm:∀j,j∈(List.range n).filter (fun j=> !seen.contains j)↔j<n∧j∉seen:=by
  intro j;rw[List.mem_filter,List.mem_range];simp
 unfold aAW;split
 ·rename_i he;refine h2 fun j hj=>Decidable.byContradiction fun hs=> ?_;have:=(hm j).2 ⟨hj,hs⟩;rw[he]at this;cases this
 ·rename_i l hl
  have hall:∀y,y∈((List.range n).filter (fun j=> !seen.contains j)).map K→y=some r:=by
   intro y hy;obtain⟨j,hj,rfl⟩:=List.mem_map.1 hy;have:=(hm j).1 hj;exact h1 j this.1 this.2
  revert hall;generalize(List.range n).filter (fun j=> !seen.contains j)=l at hl;intro hall
  cases l with
  |nil=>exact absurd rfl hl
  |cons a l=>
   simp only[List.map_cons,agree];rw[hall (K a) (List.mem_cons_self ..),if_pos];rw[List.all_eq_true];intro y hy;exact decide_eq_true (hall y (List.mem_cons_of_mem _ hy))
def tk (b:Bool) (l:List Ty0):List UInt8×List Ty0:=if(!b||l.length==0)=true then([],l)else(l.getD 0 [],l.drop 1)
theorem xT (b:Bool) (l:List Ty0):f183 b l=some (tk b l):=by
 unfold f183 tk;cases b
 ·rfl
 ·cases l with
  |nil=>rfl
  |cons a l=>
   simp[chk];rw[if_neg (by omega),if_pos (by omega)]
theorem tk_len (b:Bool) (l:List Ty0) (m:Nat) (h:∀w,w∈l→w.length≤m):(tk b l).1.length≤m∧∀w,w∈(tk b l).2→w.length≤m:=by
 unfold tk;split
 ·exact⟨Nat.zero_le _,h⟩
 ·cases l with
  |nil=>exact⟨Nat.zero_le _,fun w hw=>by simp at hw⟩
  |cons a l=>exact⟨h a (List.mem_cons_self ..),fun w hw=>h w (List.mem_cons_of_mem _ (by simpa using hw))⟩
def wI (x:List UInt8) (l:List Ty0) (j:Nat):Option OpR:=
 let v:=bO.getD j (default:Tq7)
 if v.1==l.getD 0 []then
  let r7:=tk v.2.1 (l.drop 1);let r8:=tk v.2.2.1 r7.2;let r9:=tk v.2.2.2 r8.2
  if gI (bT.getD j 0) r7.1 r8.1 r9.1&&(txt (bT.getD j 0) r7.1 r8.1 r9.1==x)then some (bT.getD j 0,r7.1,r8.1,r9.1,0)else none
 else none
theorem f152_step (x:List UInt8) (K:Unit→Option OpR) (k:Nat) (l:List Ty0) (seen:List Nat) (m:Nat) (hm:m≤1000000) (h0:0<l.length) (hl:∀w,w∈l→w.length≤m):
  fT x K (k+1) (l,seen)=aAW 6 seen (fun j=>match wI x l j with|some r=>some r|none=>fT x K k (l,seen++[j])) (K ()):=by
 have h6:bT.length=6:=rfl
 conv=>lhs;unfold fT
 rw[h6];congr 1;funext j;rw[aA (by omega)];unfold wI;simp only[];cases hw:(bO.getD j (default:Tq7)).1==l.getD 0 []
 ·rfl
 ·simp only[Bool.not_true,Bool.false_eq_true,if_false,if_true];rw[aA (by omega),xT,aC,xT,aC,xT,aC];obtain⟨a1,a2⟩:=tk_len (bO.getD j (default:Tq7)).2.1 (l.drop 1) m (fun w hw=>hl w (List.mem_of_mem_drop hw));generalize tk (bO.getD j (default:Tq7)).2.1 (l.drop 1)=r7 at *;obtain⟨b1,b2⟩:=tk_len (bO.getD j (default:Tq7)).2.2.1 r7.2 m a2;generalize tk (bO.getD j (default:Tq7)).2.2.1 r7.2=r8 at *;obtain⟨c1,c2⟩:=tk_len (bO.getD j (default:Tq7)).2.2.2 r8.2 m b2;generalize tk (bO.getD j (default:Tq7)).2.2.2 r8.2=r9 at *;rw[f184_eq _ _ _ _ (by omega) (by omega) (by omega),aC];cases gI (bT.getD j 0) r7.1 r8.1 r9.1
  ·rfl
  ·simp only[if_true,Bool.true_and,beq_self_eq_true];cases txt (bT.getD j 0) r7.1 r8.1 r9.1==x<;>rfl
theorem sG (x:List UInt8) (K:Unit→Option OpR) (l:List Ty0) (m:Nat) (hm:m≤1000000) (h0:0<l.length) (hl:∀w,w∈l→w.length≤m) (r:OpR) (S:Nat→Prop)
  (h1:∀j,j<6→S j→wI x l j=some r) (h2:∀j,j<6→¬S j→wI x l j=none) (h3:(∀j,j<6→¬S j)→K ()=some r):
  ∀k seen,seen.Nodup→(∀j,j∈seen→j<6∧¬S j)→6<k+seen.length→fT x K k (l,seen)=some r
 |0,seen,hn,hs,hk=>by
  have:seen.length≤(List.range 6).length:=hn.length_le_of_subset fun j hj=>List.mem_range.2 (hs j hj).1
  simp at this
  omega
 |k+1,seen,hn,hs,hk=>by
  rw[f152_step x K k l seen m hm h0 hl]
  refine nextO_of (fun j hj hns=> ?_) fun hall=>h3 fun j hj=>(hs j (hall j hj)).2
  by_cases hS:S j
  ·rw[h1 j hj hS]
  ·rw[h2 j hj hS]
   refine sG x K l m hm h0 hl r S h1 h2 h3 k (seen++[j]) ?_ ?_ (by simp;omega)
   ·rw[List.nodup_append]
    exact⟨hn,by simp,fun a ha b hb=>by rintro rfl;simp at hb;subst hb;exact hns ha⟩
   ·intro i hi
    rcases List.mem_append.1 hi with hi|hi
    ·exact hs i hi
    ·simp at hi;subst hi;exact⟨hj,hS⟩
def zN (a b c:List UInt8):List Ty0:=(if a==[]then[]else[a])++(if b==[]then[]else[b])++(if c==[]then[]else[c])
theorem fld_sp {s:List UInt8} {b:Bool} (h:fld s b=true):noSp s:=by
 unfold fld at h;cases b
 ·simp at h;subst h;intro c hc;cases hc
 ·exact gr_sp h
theorem spl_txt {k:Int} {a b c:List UInt8} (h:gI k a b c=true):spl (txt k a b c)=(kd k).1::zN a b c:=by
 unfold gI at h;simp only[Bool.and_eq_true]at h;obtain⟨⟨⟨h0,h1⟩,h2⟩,h3⟩:=h;have s0:=kd_sp k;have s1:=fld_sp h1;have s2:=fld_sp h2;have s3:=fld_sp h3;unfold txt zN;cases a==[]<;>cases b==[]<;>cases c==[]<;>simp[spl_app,yT,s0,s1,s2,s3,List.append_assoc]
theorem f181_eq (x:List UInt8) (hx:x.length≤1000000):f181 x [32]=some (spl x):=by
 unfold f181 yS;simp only[];rw[if_pos (by omega),tD]
theorem sV {s:List UInt8} (h:fld s true=true):(s==[])=false:=gr_ne h
theorem sW {s:List UInt8} (h:fld s false=true):s=[]:=by simpa[fld]using h
theorem okOp_kd {k:Int} {a b c:List UInt8} (h:gI k a b c=true):isK k=true∧fld a (kd k).2.1=true∧fld b (kd k).2.2.1=true∧fld c (kd k).2.2.2=true:=by
 unfold gI at h;simp only[Bool.and_eq_true]at h;exact⟨h.1.1.1,h.1.1.2,h.1.2,h.2⟩
set_option maxHeartbeats 1000000 in
theorem tryP_hit {k:Int} {a b c:List UInt8} (h:gI k a b c=true):∃j0,j0<6∧wI (txt k a b c) (spl (txt k a b c)) j0=some (k,a,b,c,0)∧∀j,j<6→j≠j0→wI (txt k a b c) (spl (txt k a b c)) j=none:=by
 rw[spl_txt h];obtain⟨h0,h1,h2,h3⟩:=okOp_kd h
 have nope:∀(w:List UInt8) (l:List Ty0) j,((bO.getD j (default:Tq7)).1==w)=false→wI (txt k a b c) (w::l) j=none:=by
  intro w l j hj;unfold wI;simp only[List.getD_cons_zero];rw[hj];rfl
 rcases kinds k with rfl|rfl|rfl|rfl|rfl|rfl|hn
 ·refine⟨0,by decide, ?_,fun j hj hne=>nope _ _ j ?_⟩
  ·obtain rfl:=sW h2;have e1:=sV h1;have e3:=sV h3;simp[wI,zN,e1,e3,tk,bO,bT,kd,h]
  ·match j,hj,hne with|1,_,_=>rfl|2,_,_=>rfl|3,_,_=>rfl|4,_,_=>rfl|5,_,_=>rfl
 ·refine⟨1,by decide, ?_,fun j hj hne=>nope _ _ j ?_⟩
  ·obtain rfl:=sW h2;obtain rfl:=sW h3;have e1:=sV h1;simp[wI,zN,e1,tk,bO,bT,kd,h]
  ·match j,hj,hne with|0,_,_=>rfl|2,_,_=>rfl|3,_,_=>rfl|4,_,_=>rfl|5,_,_=>rfl
 ·refine⟨2,by decide, ?_,fun j hj hne=>nope _ _ j ?_⟩
  ·obtain rfl:=sW h2;obtain rfl:=sW h3;have e1:=sV h1;simp[wI,zN,e1,tk,bO,bT,kd,h]
  ·match j,hj,hne with|0,_,_=>rfl|1,_,_=>rfl|3,_,_=>rfl|4,_,_=>rfl|5,_,_=>rfl
 ·refine⟨3,by decide, ?_,fun j hj hne=>nope _ _ j ?_⟩
  ·obtain rfl:=sW h2;have e1:=sV h1;have e3:=sV h3;simp[wI,zN,e1,e3,tk,bO,bT,kd,h]
  ·match j,hj,hne with|0,_,_=>rfl|1,_,_=>rfl|2,_,_=>rfl|4,_,_=>rfl|5,_,_=>rfl
 ·refine⟨4,by decide, ?_,fun j hj hne=>nope _ _ j ?_⟩
  ·have e1:=sV h1;have e2:=sV h2;have e3:=sV h3;simp[wI,zN,e1,e2,e3,tk,bO,bT,kd,h]
  ·match j,hj,hne with|0,_,_=>rfl|1,_,_=>rfl|2,_,_=>rfl|3,_,_=>rfl|5,_,_=>rfl
 ·refine⟨5,by decide, ?_,fun j hj hne=>nope _ _ j ?_⟩
  ·obtain rfl:=sW h1;obtain rfl:=sW h2;obtain rfl:=sW h3;simp[wI,zN,tk,bO,bT,kd,h]
  ·match j,hj,hne with|0,_,_=>rfl|1,_,_=>rfl|2,_,_=>rfl|3,_,_=>rfl|4,_,_=>rfl|5,_,hne=>exact absurd rfl hne
 ·rw[hn]at h0;cases h0
theorem rJ (x:List UInt8):0<(spl x).length:=by
 obtain⟨w,r,h⟩:=tF x;rw[h];exact Nat.succ_pos _
def NoOp (x:List UInt8):Prop:=∀k a b c,gI k a b c=true→txt k a b c≠x
theorem tryP_none {x:List UInt8} (h:NoOp x) (l:List Ty0) (j:Nat):wI x l j=none:=by
 unfold wI;simp only[];split
 ·split
  ·rename_i h';simp only[Bool.and_eq_true,beq_iff_eq]at h';exact absurd h'.2 (h _ _ _ _ h'.1)
  ·rfl
 ·rfl
theorem f152_hit {k:Int} {a b c:List UInt8} (h:gI k a b c=true) (hx:(txt k a b c).length≤1000000):f152 (txt k a b c)=some (k,a,b,c,0):=by
 obtain⟨j0,hj0,h1,h2⟩:=tryP_hit h;unfold f152 f182;rw[f181_eq _ hx,aC];simp only[jn,aC];exact sG _ _ _ _ hx (rJ _) (jO _) _ (fun j=>j=j0) (fun j _ e=>e▸h1) (fun j hj e=>h2 j hj e) (fun hall=>absurd rfl (hall j0 hj0)) bG [] List.nodup_nil (fun j hj=>by cases hj) (by unfold bG;simp)
theorem f152_miss {x:List UInt8} (h:NoOp x) (hx:x.length≤1000000):f152 x=some (0,[],[],[],2):=by
 unfold f152 f182;rw[f181_eq _ hx,aC];simp only[jn,aC];exact sG _ _ _ _ hx (rJ _) (jO _) _ (fun _=>False) (fun j _ e=>e.elim) (fun j hj e=>tryP_none h _ _) (fun _=>rfl) bG [] List.nodup_nil (fun j hj=>by cases hj) (by unfold bG;simp)
def wH (x:List UInt8) (l:List Ty0) (n:Nat):Option OpR:=
 if l.getD 0 []==(kd n).1 then
  let a:=l.getD 1 []
  let b:=if n=5 then l.getD 2 []else[]
  let c:=if n=5 then l.getD 3 []else l.getD 2 []
  if gI n a b c&&(txt n a b c==x)then some ((n:Int),a,b,c,0)else none
 else none
theorem getD_len (l:List Ty0) (i m:Nat) (hl:∀w,w∈l→w.length≤m):(l.getD i []).length≤m:=by
 by_cases h:i<l.length
 ·rw[List.getD_eq_getElem?_getD,List.getElem?_eq_getElem h];exact hl _ (List.getElem_mem ..)
 ·rw[List.getD_eq_getElem?_getD,List.getElem?_eq_none (by omega)];exact Nat.zero_le _
theorem getD_out (l:List Ty0) (i:Nat) (h:¬i<l.length):l.getD i []=[]:=by
 rw[List.getD_eq_getElem?_getD,List.getElem?_eq_none (by omega)];rfl
set_option maxHeartbeats 1000000 in
theorem f84_step (x:List UInt8) (l:List Ty0) (K:Unit→Option OpR) (k n m:Nat) (hm:m≤1000000) (h0:0<l.length) (hl:∀w,w∈l→w.length≤m) (hn:n≤6):
  gA x l K (k+1) n=match wH x l n with|some r=>some r|none=>gA x l K k (n+1):=by
 have hg:=fun i=>getD_len l i m hl;have ho:=getD_out l
 conv=>lhs;unfold gA
 rw[aR (by omega),bV,f114_eq,aC,aA (by omega),aA (by omega),aA (by omega)];unfold wH;cases hw:l.getD 0 []==(kd n).1
 ·rfl
 ·simp only[Bool.not_true,Bool.false_eq_true,if_false,if_true,jn]
  have fin:∀a b c:List UInt8,a.length≤m→b.length≤m→c.length≤m→((f115 n a b c).bind fun(r9:List UInt8×Int)=>if((r9.2==(0:Int))&&(r9.1==x))=true then some ((n:Int),a,b,c,(0:Int))else gA x l K k (n+1))=
    match(if gI n a b c&&(txt n a b c==x)then some ((n:Int),a,b,c,(0:Int))else none)with|some r=>some r|none=>gA x l K k (n+1):=by
   intro a b c ha hb hc;rw[sI _ _ _ _ (by omega) (by omega) (by omega),aC];cases gI n a b c
   ·rfl
   ·cases h:txt n a b c==x<;>simp[h]
  by_cases h5:n=5
  ·subst h5;by_cases l1:1<l.length
   ·by_cases l2:2<l.length
    ·by_cases l3:3<l.length
     ·rw[aR (by omega),aA (by omega),aA l1,if_pos (by simp;omega),aA (by omega),aA l2,if_neg (by simp),if_pos (by simp;omega),aA (by omega),aA l3];exact fin _ _ _ (hg _) (hg _) (hg _)
     ·rw[aR (by omega),aA (by omega),aA l1,if_pos (by simp;omega),aA (by omega),aA l2,if_neg (by simp),if_neg (by simp;omega),ho 3 l3];exact fin _ _ _ (hg _) (hg _) (Nat.zero_le _)
    ·rw[aR (by omega),aA (by omega),aA l1,if_neg (by simp;omega),if_neg (by simp),if_neg (by simp;omega),ho 2 l2,ho 3 (by omega)];exact fin _ _ _ (hg _) (Nat.zero_le _) (Nat.zero_le _)
   ·rw[aO (by omega),if_neg (by simp;omega),if_neg (by simp),if_neg (by simp;omega),ho 1 l1,ho 2 (by omega),ho 3 (by omega)];exact fin _ _ _ (Nat.zero_le _) (Nat.zero_le _) (Nat.zero_le _)
  ·have e5:((n:Int)==5)=false:=by simp;omega
   have e5':((n:Int) !=5)=true:=by simp;omega
   rw[if_neg h5,if_neg h5,e5,e5'];simp only[Bool.false_and,Bool.true_and,Bool.false_eq_true,if_false];by_cases l1:1<l.length
   ·by_cases l2:2<l.length
    ·rw[aR (by omega),aA (by omega),aA l1,aR (by omega),aA (by omega),aA l2];exact fin _ _ _ (hg _) (Nat.zero_le _) (hg _)
    ·rw[aR (by omega),aA (by omega),aA l1,aO (by omega),ho 2 l2];exact fin _ _ _ (hg _) (Nat.zero_le _) (Nat.zero_le _)
   ·rw[aO (by omega),aO (by omega),ho 1 l1,ho 2 (by omega)];exact fin _ _ _ (Nat.zero_le _) (Nat.zero_le _) (Nat.zero_le _)
theorem f84_end (x:List UInt8) (l:List Ty0) (K:Unit→Option OpR) (k:Nat):gA x l K (k+1) 7=K ():=by
 conv=>lhs;unfold gA
 rw[aO (by omega)]
theorem xE (x:List UInt8) (l:List Ty0) (K:Unit→Option OpR) (m:Nat) (hm:m≤1000000) (h0:0<l.length) (hl:∀w,w∈l→w.length≤m) (r:OpR) (S:Nat→Prop)
  (h1:∀j,1≤j→j≤6→S j→wH x l j=some r) (h2:∀j,1≤j→j≤6→¬S j→wH x l j=none) (h3:(∀j,1≤j→j≤6→¬S j)→K ()=some r):
  ∀c k n,n+c=7→c<k→1≤n→(∀j,1≤j→j<n→¬S j)→gA x l K k n=some r
 |0,k,n,hn,hk,h1n,hs=>by
  obtain⟨k,rfl⟩:∃q,k=q+1:=⟨k-1,by omega⟩
  obtain rfl:n=7:=by omega
  rw[f84_end]
  exact h3 fun j a b=>hs j a (by omega)
 |c+1,k,n,hn,hk,h1n,hs=>by
  obtain⟨k,rfl⟩:∃q,k=q+1:=⟨k-1,by omega⟩
  rw[f84_step x l K k n m hm h0 hl (by omega)]
  by_cases hS:S n
  ·rw[h1 n h1n (by omega) hS]
  ·rw[h2 n h1n (by omega) hS]
   refine xE x l K m hm h0 hl r S h1 h2 h3 c k (n+1) (by omega) (by omega) (by omega) fun j hj hjn=> ?_
   by_cases e:j=n
   ·rw[e];exact hS
   ·exact hs j hj (by omega)
theorem tryR_none {x:List UInt8} (h:NoOp x) (l:List Ty0) (j:Nat):wH x l j=none:=by
 unfold wH;simp only[];generalize(if j=5 then l.getD 2 []else[])=b;generalize(if j=5 then l.getD 3 []else l.getD 2 [])=c;split
 ·split
  ·rename_i h';simp only[Bool.and_eq_true,beq_iff_eq]at h';exact absurd h'.2 (h _ _ _ _ h'.1)
  ·rfl
 ·rfl
set_option maxHeartbeats 1000000 in
theorem tryR_hit {k:Int} {a b c:List UInt8} (h:gI k a b c=true):∃j0,1≤j0∧j0≤6∧wH (txt k a b c) (spl (txt k a b c)) j0=some (k,a,b,c,0)∧∀j,1≤j→j≤6→j≠j0→wH (txt k a b c) (spl (txt k a b c)) j=none:=by
 rw[spl_txt h];obtain⟨h0,h1,h2,h3⟩:=okOp_kd h
 have nope:∀(w:List UInt8) (l:List Ty0) (j:Nat),(w==(kd j).1)=false→wH (txt k a b c) (w::l) j=none:=by
  intro w l j hj;unfold wH;simp only[List.getD_cons_zero];rw[hj];rfl
 rcases kinds k with rfl|rfl|rfl|rfl|rfl|rfl|hn
 ·refine⟨1,by decide,by decide, ?_,fun j h1 hj hne=>nope _ _ j ?_⟩
  ·obtain rfl:=sW h2;have e1:=sV h1;have e3:=sV h3;have h':gI (1:Nat) a [] c=true:=h;simp[wH,zN,e1,e3,kd,h]
  ·match j,h1,hj,hne with|2,_,_,_=>rfl|3,_,_,_=>rfl|4,_,_,_=>rfl|5,_,_,_=>rfl|6,_,_,_=>rfl
 ·refine⟨2,by decide,by decide, ?_,fun j h1 hj hne=>nope _ _ j ?_⟩
  ·obtain rfl:=sW h2;obtain rfl:=sW h3;have e1:=sV h1;simp[wH,zN,e1,kd,h]
  ·match j,h1,hj,hne with|1,_,_,_=>rfl|3,_,_,_=>rfl|4,_,_,_=>rfl|5,_,_,_=>rfl|6,_,_,_=>rfl
 ·refine⟨3,by decide,by decide, ?_,fun j h1 hj hne=>nope _ _ j ?_⟩
  ·obtain rfl:=sW h2;obtain rfl:=sW h3;have e1:=sV h1;simp[wH,zN,e1,kd,h]
  ·match j,h1,hj,hne with|1,_,_,_=>rfl|2,_,_,_=>rfl|4,_,_,_=>rfl|5,_,_,_=>rfl|6,_,_,_=>rfl
 ·refine⟨4,by decide,by decide, ?_,fun j h1 hj hne=>nope _ _ j ?_⟩
  ·obtain rfl:=sW h2;have e1:=sV h1;have e3:=sV h3;simp[wH,zN,e1,e3,kd,h]
  ·match j,h1,hj,hne with|1,_,_,_=>rfl|2,_,_,_=>rfl|3,_,_,_=>rfl|5,_,_,_=>rfl|6,_,_,_=>rfl
 ·refine⟨5,by decide,by decide, ?_,fun j h1 hj hne=>nope _ _ j ?_⟩
  ·have e1:=sV h1;have e2:=sV h2;have e3:=sV h3;simp[wH,zN,e1,e2,e3,kd,h]
  ·match j,h1,hj,hne with|1,_,_,_=>rfl|2,_,_,_=>rfl|3,_,_,_=>rfl|4,_,_,_=>rfl|6,_,_,_=>rfl
 ·refine⟨6,by decide,by decide, ?_,fun j h1 hj hne=>nope _ _ j ?_⟩
  ·obtain rfl:=sW h1;obtain rfl:=sW h2;obtain rfl:=sW h3;simp[wH,zN,kd,h]
  ·match j,h1,hj,hne with|1,_,_,_=>rfl|2,_,_,_=>rfl|3,_,_,_=>rfl|4,_,_,_=>rfl|5,_,_,_=>rfl|6,_,_,hne=>exact absurd rfl hne
 ·rw[hn]at h0;cases h0
theorem f84_hit {k:Int} {a b c:List UInt8} (h:gI k a b c=true) (hx:(txt k a b c).length≤1000000):f84 (txt k a b c)=some (k,a,b,c,0):=by
 obtain⟨j0,hj0,hj1,h1,h2⟩:=tryR_hit h;unfold f84;rw[f113_eq _ hx,aC];simp only[jn];exact xE _ _ _ _ hx (rJ _) (jO _) _ (fun j=>j=j0) (fun j _ _ e=>e▸h1) (fun j a b e=>h2 j a b e) (fun hall=>absurd rfl (hall j0 hj0 hj1)) 6 bG 1 (by omega) (by unfold bG;omega) (by omega) (fun j a b=>by omega)
theorem f84_miss {x:List UInt8} (h:NoOp x) (hx:x.length≤1000000):f84 x=some (0,[],[],[],2):=by
 unfold f84;rw[f113_eq _ hx,aC];simp only[jn];exact xE _ _ _ _ hx (rJ _) (jO _) _ (fun _=>False) (fun j _ _ e=>e.elim) (fun j _ _ e=>tryR_none h _ _) (fun _=>rfl) 6 bG 1 (by omega) (by unfold bG;omega) (by omega) (fun j a b=>by omega)
theorem txt_len {k:Int} {a b c:List UInt8}:a.length≤(txt k a b c).length∧b.length≤(txt k a b c).length∧c.length≤(txt k a b c).length:=by
 unfold txt;cases ha:a==[]<;>cases hb:b==[]<;>cases hc:c==[]<;>simp at ha hb hc<;>simp[*]<;>omega
abbrev Pr :=List UInt8×List UInt8×Int
abbrev less (a b:List UInt8):Bool:=Op.bytesLess a b
theorem fB :∀a,less a a=false
 |[]=>rfl
 |a::x=>by
  show(decide (a<a)||(a==a&&less x x))=false
  rw[fB x];simp
theorem zI (a:List UInt8):less a []=false:=by cases a<;>rfl
theorem lG :∀{a b c:List UInt8},less a b=true→less b c=true→less a c=true
 |a,[],_,h,_=>by rw[zI]at h;cases h
 |_,b::y,[],_,h=>by rw[zI]at h;cases h
 |[],_::_,_::_,_,_=>rfl
 |a::x,b::y,c::z,h1,h2=>by
  have g1:(decide (a<b)||(a==b&&less x y))=true:=h1
  have g2:(decide (b<c)||(b==c&&less y z))=true:=h2
  clear h1 h2
  show(decide (a<c)||(a==c&&less x z))=true
  simp only[Bool.or_eq_true,Bool.and_eq_true,decide_eq_true_eq,beq_iff_eq,UInt8.lt_iff_toNat_lt]at g1 g2⊢
  rcases g1 with k1|⟨e1,k1⟩
  ·rcases g2 with k2|⟨e2,k2⟩
   ·left;omega
   ·left;rw[←e2];exact k1
  ·rcases g2 with k2|⟨e2,k2⟩
   ·left;rw[e1];exact k2
   ·exact .inr ⟨e1.trans e2,lG k1 k2⟩
theorem qH :∀a b:List UInt8,less a b=true∨a=b∨less b a=true
 |[],[]=> .inr (.inl rfl)
 |[],_::_=> .inl rfl
 |_::_,[]=> .inr (.inr rfl)
 |a::x,b::y=>by
  show(decide (a<b)||(a==b&&less x y))=true∨_∨(decide (b<a)||(b==a&&less y x))=true
  simp only[Bool.or_eq_true,Bool.and_eq_true,decide_eq_true_eq,beq_iff_eq,UInt8.lt_iff_toNat_lt]
  by_cases h:a=b
  ·subst h
   rcases qH x y with h|h|h
   ·exact .inl (.inr ⟨rfl,h⟩)
   ·exact .inr (.inl (by rw[h]))
   ·exact .inr (.inr (.inr ⟨rfl,h⟩))
  ·have:a.toNat≠b.toNat:=fun e=>h (UInt8.toNat.inj e)
   by_cases h1:a.toNat<b.toNat
   ·exact .inl (.inl h1)
   ·exact .inr (.inr (.inl (by omega)))
theorem lH {a b:List UInt8} (h:less a b=true):less b a=false:=by
 cases h':less b a
 ·rfl
 ·have:=lG h h';rw[fB]at this;cases this
theorem iC {a b:List UInt8} (h:less a b=true):(a==b)=false:=by
 cases e:a==b
 ·rfl
 ·have:=eq_of_beq e;subst this;rw[fB]at h;cases h
theorem sN :∀a b:List UInt8,Lib.compareBytes a b=if less a b=true then-1 else if a=b then 0 else 1
 |[],[]=>rfl
 |[],_::_=>rfl
 |_::_,[]=>rfl
 |a::x,b::y=>by
  show(if a<b then(-1:Int)else if b<a then 1 else Lib.compareBytes x y)=if(decide (a<b)||(a==b&&less x y))=true then-1 else _
  by_cases h:a<b
  ·simp[h]
  ·by_cases h2:b<a
   ·have:a≠b:=by rintro rfl;simp at h2
    simp[h,h2,this]
   ·have e:a=b:=by
     apply UInt8.toNat.inj
     simp only[UInt8.lt_iff_toNat_lt]at h h2
     omega
    subst e
    rw[if_neg h,if_neg h2,sN x y]
    simp
abbrev Srtd (l:List Pr):Prop:=l.Pairwise (fun p q=>less p.1 q.1=true)
def okp (p:Pr):Prop:=gr p.1 64=true∧gr p.2.1 256=true∧1≤p.2.2∧p.2.2≤1000000000000
structure StV (l:List Pr):Prop where
 len:l.length≤64
 each:∀p,p∈l→okp p
 srt:Srtd l
theorem StV.nil :StV []:=⟨by simp,by simp,.nil⟩
inductive View (l:List Pr) (k:List UInt8):Prop
 |hit (A C:List Pr) (v:List UInt8) (n:Int) (h:l=A++(k,v,n)::C) (hA:∀a,a∈A→less a.1 k=true) (hC:∀c,c∈C→less k c.1=true):View l k
 |miss (A C:List Pr) (h:l=A++C) (hA:∀a,a∈A→less a.1 k=true) (hC:∀c,c∈C→less k c.1=true):View l k
theorem view :∀(l:List Pr) (k:List UInt8),Srtd l→View l k
 |[],k,_=> .miss [] [] rfl (by simp) (by simp)
 |(x,v,n)::l,k,h=>by
  obtain⟨h1,h2⟩:=List.pairwise_cons.1 h
  rcases qH x k with hx|rfl|hx
  ·cases view l k h2 with
   |hit A C v' n' e hA hC=>exact .hit ((x,v,n)::A) C v' n' (by rw[e];rfl) (by intro a ha;rcases List.mem_cons.1 ha with rfl|ha;exact hx;exact hA a ha) hC
   |miss A C e hA hC=>exact .miss ((x,v,n)::A) C (by rw[e];rfl) (by intro a ha;rcases List.mem_cons.1 ha with rfl|ha;exact hx;exact hA a ha) hC
  ·exact .hit [] l v n rfl (by simp) h1
  ·exact .miss [] ((x,v,n)::l) rfl (by simp) (by intro c hc;rcases List.mem_cons.1 hc with rfl|hc;exact hx;exact lG hx (h1 c hc))
theorem kQ {α:Type} (A B:List α) (i:Nat) (d:α):(A++B).getD i d=if i<A.length then A.getD i d else B.getD (i-A.length) d:=by
 split
 ·simp[List.getD_eq_getElem?_getD,List.getElem?_append_left, *]
 ·rename_i h;simp[List.getD_eq_getElem?_getD,List.getElem?_append_right (Nat.le_of_not_lt h)]
theorem bU {α:Type} (l:List α) (i:Nat) (d:α) (h:i<l.length):l.getD i d∈l:=by
 rw[List.getD_eq_getElem?_getD,List.getElem?_eq_getElem h];exact List.getElem_mem ..
theorem f207_eq (A B:List Pr) (k:List UInt8) (hlen:(A++B).length≤1000000) (hA:∀a,a∈A→less a.1 k=true) (hB:∀b,b∈B→less b.1 k=false):
  f186 (A++B) k=some ((A.length:Int),decide (0<B.length)&&((B.getD 0 (default:Pr)).1==k)):=by
 have h55:∀(a b:List UInt8) (n:Int) (y:List UInt8),f208 a b n y=some (Lib.compareBytes a y):=fun _ _ _ _=>rfl
 have main:∀(K:Int→Option Tq4) (c q i j:Nat),j-i≤c→c<q→i≤A.length→A.length≤j→j≤(A++B).length→gK (A++B) k K q ((i:Int),(j:Int))=K (A.length:Int):=by
  intro K c
  induction c with
  |zero=>
   intro q i j hc hq h1 h2 h3;obtain⟨q,rfl⟩:∃z,q=z+1:=⟨q-1,by omega⟩
   conv=>lhs;unfold gK
   rw[aO (by omega)]
   congr 1;omega
  |succ c ih=>
   intro q i j hc hq h1 h2 h3;obtain⟨q,rfl⟩:∃z,q=z+1:=⟨q-1,by omega⟩
   conv=>lhs;unfold gK
   by_cases hij:i<j
   ·have em:((i:Int)+(j:Int))/2^1=(((i+j)/2:Nat):Int):=by omega
    rw[aR (by omega),aA (by omega),aA (by omega),aA (by decide),em,aA (by omega),h55,aC,aA (by omega),Int.toNat_natCast,sN];generalize hm:(i+j)/2=m;have hm1:i≤m:=by omega
    have hm2:m<j:=by omega
    by_cases hmA:m<A.length
    ·have hl:less ((A++B).getD m (default:Pr)).1 k=true:=by
      rw[kQ,if_pos hmA];exact hA _ (bU _ _ _ hmA)
     rw[if_pos hl,aR (by decide),aA (by omega)];have:=ih q (m+1) j (by omega) (by omega) (by omega) h2 h3;rw[←this];rfl
    ·have hl:less ((A++B).getD m (default:Pr)).1 k=false:=by
      rw[kQ,if_neg hmA];exact hB _ (bU _ _ _ (by rw[List.length_append]at h3;omega))
     rw[hl,aO (by split<;>simp_all<;>split<;>simp)];exact ih q i m (by omega) (by omega) h1 (by omega) (by omega)
   ·rw[aO (by omega)];congr 1;omega
 unfold f186 f207;simp only[jn];have e0:(0:Int)=((0:Nat):Int):=rfl;rw[e0,main _ (A++B).length bG 0 (A++B).length (by omega) (by unfold bG;omega) (Nat.zero_le _) (by simp) (Nat.le_refl _)];rw[h55,Int.toNat_natCast,kQ,if_neg (Nat.lt_irrefl _),Nat.sub_self];by_cases hb:0<B.length
 ·have h1:decide ((A.length:Int)<(((A++B).length:Nat):Int))=true:=by rw[List.length_append];simp;omega
  rw[h1];simp only[beq_self_eq_true,Bool.true_and,jH,aC];rw[aA (fun _=>by rw[List.length_append];omega),aC,sN,hB _ (bU _ _ _ hb)];have hd:decide (0<B.length)=true:=by simp[hb]
  rw[hd];simp only[Bool.false_eq_true,if_false,Bool.true_and];by_cases e:(B.getD 0 (default:Pr)).1=k
  ·have e':((B.getD 0 (default:Pr)).1==k)=true:=by simpa using e
   rw[if_pos e,e'];rfl
  ·have e':((B.getD 0 (default:Pr)).1==k)=false:=by simpa using e
   rw[if_neg e,e'];rfl
 ·have h1:decide ((A.length:Int)<(((A++B).length:Nat):Int))=false:=by rw[List.length_append];simp;omega
  rw[h1];have hd:decide (0<B.length)=false:=by simp[hb]
  rw[hd];simp[gW,chk]
abbrev MV :Int:=1000000000000
theorem getD_at (A C:List Pr) (x d:Pr):(A++x::C).getD A.length d=x:=by
 rw[kQ,if_neg (Nat.lt_irrefl _),Nat.sub_self];rfl
theorem set_at :∀(A C:List Pr) (x y:Pr),(A++x::C).set A.length y=A++y::C
 |[],_,_,_=>rfl
 |a::A,C,x,y=>by
  show a::(A++x::C).set A.length y=_
  rw[set_at A C x y];rfl
theorem cP (A C:List Pr) (x:Pr):(A++x::C).length=A.length+C.length+1:=by simp;omega
theorem drop_at (A C:List Pr) (x:Pr):(A++x::C).drop (A.length+1)=C:=by
 rw[List.drop_append];simp
theorem take_at (A C:List Pr):(A++C).take A.length=A:=by simp
theorem dropA_at (A C:List Pr):(A++C).drop A.length=C:=by simp
theorem f117_eq :∀(q n:Nat),n<10^(q+1)→n≤1000000000000000→∀k,q+1≤k→f117 k (n:Int)=some (Lib.itoa (n:Int))
 |q,n,hn,hb,k,hk=>by
  obtain⟨k,rfl⟩:∃z,k=z+1:=⟨k-1,by omega⟩
  conv=>lhs;unfold f117
  rw[Lib.itoa_nonneg]
  by_cases h:n<10
  ·rw[aR (by omega),aA (by omega),aA (by omega),Lib.decDigits_one h]
   congr 3
  ·rw[aO (by omega)]
   match q,hn,hk with
   |0,hn,_=>omega
   |q+1,hn,hk=>
    have e1:(n:Int)/10=((n/10:Nat):Int):=by omega
    have e2:(n:Int)%10=((n%10:Nat):Int):=by omega
    rw[e1,e2,f117_eq q (n/10) (by rw[Nat.pow_succ]at hn;omega) (by omega) k (by omega),aC,aA (by omega),aA (by omega),aA (by omega),aA (by omega)]
    have hl:=Lib.itoa_length_le ((n/10:Nat):Int) (by omega) (by omega)
    rw[aA (by rw[List.length_singleton];omega),Lib.itoa_nonneg]
    conv=>rhs;rw[Lib.decDigits,dif_neg h]
    congr 3
theorem dig {n:Int} (h0:0≤n) (h1:n≤1000000000000000):f117 bG n=some (Lib.itoa n):=by
 obtain⟨m,rfl⟩:∃m:Nat,n=m:=⟨n.toNat,by omega⟩;exact f117_eq 15 m (by omega) (by omega) bG (by unfold bG;omega)
theorem ito {n:Int} (h0:0≤n) (h1:n≤1000000000000000):f58 n=some (Lib.itoa n):=by
 unfold f58 itoaO;rw[if_pos ⟨by omega,by omega⟩]
theorem ilen {n:Int} (h0:0≤n) (h1:n≤1000000000000000):(Lib.itoa n).length≤21:=Lib.itoa_length_le n (by omega) (by omega)
theorem sH (A C:List Pr) (k v:List UInt8) (n:Int) (hlen:(A++(k,v,n)::C).length≤1000000) (hA:∀a,a∈A→(a.1==k)=false) (hC:∀c,c∈C→(c.1==k)=false):f116 (A++(k,v,n)::C) k=some (A.length:Int):=by
 unfold f116;simp only[jn]
 rcases rY (fun q i => dN (A ++ (k, v, n) :: C) k (fun _ => some (-1)) q i) (A ++ (k, v, n) :: C) (default : Pr) (fun p => p.1 == k) (fun i => some (i : Int)) (some (-1)) (fun q i hi=>by
   show dN _ _ _ (q+1) i=_
   conv=>lhs;unfold dN
   rw [aR (by omega), aA (by omega), aA (by omega)]) (fun q=>by
   show dN _ _ _ (q+1) _=_
   conv=>lhs;unfold dN
   rw[aO (by omega)]) (A++(k,v,n)::C).length bG 0 (by omega) (fuel_lt (by omega))with⟨m,h1,h2,h3,h4,h5⟩|⟨h4,h5⟩
 ·rw[h4];rw[kQ]at h3;by_cases e:m<A.length
  ·rw[if_pos e,hA _ (bU _ _ _ e)]at h3;cases h3
  ·rw[if_neg e]at h3;by_cases e2:m=A.length
   ·rw[e2]
   ·obtain⟨z,hz⟩:∃z,m-A.length=z+1:=⟨m-A.length-1,by omega⟩;rw[hz,List.getD_cons_succ,hC _ (bU _ _ _ (by rw[cP]at h2;omega))]at h3;cases h3
 ·exfalso;rw[List.drop_zero]at h5;have:=List.any_eq_false.1 h5 (k,v,n) (by simp);simp at this
theorem f116_miss (l:List Pr) (k:List UInt8) (hlen:l.length≤1000000) (h:∀a,a∈l→(a.1==k)=false):f116 l k=some (-1):=by
 unfold f116;simp only[jn]
 rw [aAB (fun q i => dN l k (fun _ => some (-1)) q i) l (default : Pr) (fun _ => false) none (some (-1)) (fun q i hi=>by
   show dN _ _ _ (q+1) i=_
   conv=>lhs;unfold dN
   rw[aR (by omega),aA (by omega),h _ (bU _ _ _ hi),aA (by omega)]
   rfl) (fun q=>by
   show dN _ _ _ (q+1) _=_
   conv=>lhs;unfold dN
   rw[aO (by omega)]) bG (fuel_lt (by omega))]
 simp
def uH (k s:List UInt8) (z:Bool×List Pr) (a:Pr):Bool×List Pr:=
 if a.1==k then(true,z.2++[(k,s,min (a.2.2+1) MV)])else
 if(!(less a.1 k||a.1==k))&& !z.1 then(true,(z.2++[(k,s,1)])++[(a.1,a.2.1,a.2.2)])else(z.1,z.2++[(a.1,a.2.1,a.2.2)])
theorem vU (l:List Pr) (k s:List UInt8) (hlen:l.length≤1000000) (hv:∀a,a∈l→1≤a.2.2∧a.2.2≤MV):
  f118 l k s=some (let z:=l.foldl (uH k s) (false,[]);if z.1 then z.2 else z.2++[(k,s,1)]):=by
 unfold f118;simp only[jn]
 have hI:∀n (z:Bool×List Pr),n<l.length→z.2.length≤2 *n→(uH k s z (l.getD n (default:Pr))).2.length≤2 *(n+1):=by
  intro n z hn hz;unfold uH;split
  ·simp;omega
  ·split
   ·simp;omega
   ·simp;omega
 have:=rW (fun q (y:Nat×(Bool×List Pr))=>fU l k s (fun y=>if(!y.1)=true then chk ((y.2.length+1) *40≤140737488355328) (some (y.2++[(k,s,1)]))else some y.2) q (y.2.1,y.1,y.2.2)) l (default:Pr) (fun n z=>z.2.length≤2 *n) (uH k s)
  (fun y=>if(!y.1)=true then chk ((y.2.length+1) *40≤140737488355328) (some (y.2++[(k,s,1)]))else some y.2)
  (fun q n z hn hz=>by
   obtain⟨b,w⟩:=z;simp only at hz;show fU l k s _ (q+1) (b,n,w)=_
   conv=>lhs;unfold fU
   have hh:=hv _ (bU l n (default:Pr) hn);simp only[MV]at hh;rw[aR (by omega)];simp only[jn];rw[aA (by omega)];unfold uH;simp only[];by_cases e:((l.getD n (default:Pr)).1==k)=true
   ·rw[if_pos e,if_pos e,aA (by omega),aA (by omega),aA (by omega),aA (by omega)]
   ·rw[if_neg e,if_neg e,aA (by omega)];by_cases e2:((!(less (l.getD n (default:Pr)).1 k||(l.getD n (default:Pr)).1==k))&& !b)=true
    ·rw[if_pos e2,if_pos e2,aA (by omega),aA (by omega),aA (by simp;omega),aA (by omega)]
    ·rw[if_neg e2,if_neg e2,aA (by omega),aA (by omega),aA (by omega)])
  hI (fun q z hz=>by
   obtain⟨b,w⟩:=z;show fU l k s _ (q+1) (b,l.length,w)=_
   conv=>lhs;unfold fU
   rw[aO (by omega)]) l.length bG 0 (false,[]) (by omega) (fuel_lt (by omega)) (Nat.zero_le _)
 refine Eq.trans this ?_;rw[List.drop_zero];have hl:=foldl_inv (fun n (z:Bool×List Pr)=>z.2.length≤2 *n) (uH k s) (default:Pr) l hI (false,[]) (Nat.zero_le _);generalize l.foldl (uH k s) (false,[])=z at hl;obtain⟨b,w⟩:=z;simp only at hl;cases b
 ·simp only[Bool.not_false,if_true,Bool.false_eq_true,if_false];rw[aA (by omega)]
 ·rfl
theorem wX (k s:List UInt8) (b:Bool):∀(A w:List Pr),(∀a,a∈A→less a.1 k=true)→A.foldl (uH k s) (b,w)=(b,w++A)
 |[],w,_=>by simp
 |a::A,w,h=>by
  have ha:=h a (List.mem_cons_self ..)
  have e:uH k s (b,w) a=(b,w++[a]):=by
   unfold uH
   rw[iC ha,ha]
   simp
  rw[List.foldl_cons,e,wX k s b A _ fun x hx=>h x (List.mem_cons_of_mem _ hx)]
  simp
theorem uG {a b:List UInt8} (h:less b a=true):(a==b)=false:=by
 have:=iC h;cases e:a==b
 ·rfl
 ·have:=eq_of_beq e;subst this;rw[fB]at h;cases h
theorem wY (k s:List UInt8):∀(C w:List Pr),(∀a,a∈C→less k a.1=true)→C.foldl (uH k s) (true,w)=(true,w++C)
 |[],w,_=>by simp
 |a::C,w,h=>by
  have ha:=h a (List.mem_cons_self ..)
  have e:uH k s (true,w) a=(true,w++[a]):=by
   unfold uH
   rw[uG ha]
   simp
  rw[List.foldl_cons,e,wY k s C _ fun x hx=>h x (List.mem_cons_of_mem _ hx)]
  simp
theorem put_hit (A C:List Pr) (k v s:List UInt8) (n:Int) (hlen:(A++(k,v,n)::C).length≤1000000) (hv:∀a,a∈(A++(k,v,n)::C)→1≤a.2.2∧a.2.2≤MV) (hA:∀a,a∈A→less a.1 k=true) (hC:∀c,c∈C→less k c.1=true):
  f118 (A++(k,v,n)::C) k s=some (A++(k,s,min (n+1) MV)::C):=by
 rw[vU _ k s hlen hv,List.foldl_append,wX k s false A [] hA,List.foldl_cons]
 have e:uH k s (false,[]++A) (k,v,n)=(true,A++[(k,s,min (n+1) MV)]):=by
  unfold uH;simp
 rw[e,wY k s C _ hC];simp
theorem put_miss (A C:List Pr) (k s:List UInt8) (hlen:(A++C).length≤1000000) (hv:∀a,a∈(A++C)→1≤a.2.2∧a.2.2≤MV) (hA:∀a,a∈A→less a.1 k=true) (hC:∀c,c∈C→less k c.1=true):
  f118 (A++C) k s=some (A++(k,s,1)::C):=by
 rw[vU _ k s hlen hv,List.foldl_append,wX k s false A [] hA]
 cases C with
 |nil=>simp
 |cons c C=>
  have hc:=hC c (List.mem_cons_self ..)
  have e:uH k s (false,[]++A) c=(true,A++[(k,s,1),c]):=by
   unfold uH;rw[uG hc,lH hc];simp
  rw[List.foldl_cons,e,wY k s C _ fun x hx=>hC x (List.mem_cons_of_mem _ hx)];simp
theorem xR (l:List Pr) (h:l.length≤1000000):f189 l=some l:=by
 unfold f189;rw[abc_eq,aA (by omega)]
 ·rfl
 ·intro hl;rw[aA (by omega)];have:l=[]:=List.length_eq_zero_iff.1 hl;rw[this];rfl
abbrev okW :List UInt8:=[111,107,32]
abbrev wW :List UInt8:=[102,117,108,108]
theorem zQ (A C:List Pr) (k v:List UInt8) (n:Int) (hlen:(A++(k,v,n)::C).length≤1000000) (hA:∀a,a∈A→less a.1 k=true) (hC:∀c,c∈C→less k c.1=true):f186 (A++(k,v,n)::C) k=some ((A.length:Int),true):=by
 rw[f207_eq A _ k hlen hA]
 ·simp
 ·intro b hb;rcases List.mem_cons.1 hb with rfl|hb
  ·exact fB _
  ·exact lH (hC b hb)
theorem uK (A C:List Pr) (k:List UInt8) (hlen:(A++C).length≤1000000) (hA:∀a,a∈A→less a.1 k=true) (hC:∀c,c∈C→less k c.1=true):f186 (A++C) k=some ((A.length:Int),false):=by
 rw[f207_eq A _ k hlen hA fun b hb=>lH (hC b hb)]
 cases C with
 |nil=>simp
 |cons c C=>simp[uG (hC c (List.mem_cons_self ..))]
theorem putP_hit (A C:List Pr) (k v s:List UInt8) (n:Int) (hlen:(A++(k,v,n)::C).length≤64) (h1:1≤n) (h2:n≤MV) (hA:∀a,a∈A→less a.1 k=true) (hC:∀c,c∈C→less k c.1=true):
  aBo (A++(k,v,n)::C) k s=some (A++(k,s,min (n+1) MV)::C,okW++Lib.itoa (min (n+1) MV)):=by
 simp only[MV]at *;have hmin:0≤min (n+1) 1000000000000∧min (n+1) 1000000000000≤1000000000000000:=by omega
 have hl:=ilen hmin.1 hmin.2;unfold aBo;rw[zQ A C k v n (by omega) hA hC,aC];simp only[Bool.not_true,Bool.false_and,Bool.false_eq_true,if_false];rw[xR _ (by omega),aC];simp only[jn,Int.toNat_natCast,set_at,getD_at];rw[cP]at hlen
 rw [aA (by rw[cP];omega),aA (by rw[cP];omega),aA (by rw[cP];omega),aA (by rw[cP];omega),aA (by omega),aA (by rw[cP];omega),aA (by rw[cP];omega),
  ito hmin.1 hmin.2,aC,aA (by rw[cP];omega),aA (by rw[cP];omega),aA (by simp;omega)]
theorem putP_miss (A C:List Pr) (k s:List UInt8) (hlen:(A++C).length≤64) (hA:∀a,a∈A→less a.1 k=true) (hC:∀c,c∈C→less k c.1=true):
  aBo (A++C) k s=if 64≤(A++C).length then some (A++C,wW)else some (A++(k,s,1)::C,okW++Lib.itoa 1):=by
 have hl:=ilen (n:=1) (by omega) (by omega);unfold aBo;rw[uK A C k (by omega) hA hC,aC];by_cases hf:64≤(A++C).length
 ·rw[if_pos hf,if_pos (by simp only[Bool.not_false,Bool.true_and,decide_eq_true_eq];omega)]
 rw[if_neg hf,if_neg (by simp only[Bool.not_false,Bool.true_and,decide_eq_true_eq];omega),xR _ (by omega),aC];simp only[jn]
 have e58:f210 (A.length:Int) (A++C) [(k,[],(0:Int))]=some (A++(k,[],0)::C,[(k,[],0)]):=by
  unfold f210;by_cases hc:A.length<(A++C).length
  ·rw[if_pos ⟨by omega,by rw[Int.toNat_natCast];exact hc,by simp,by simp;simp at hlen;omega⟩,Int.toNat_natCast,take_at,dropA_at];simp
  ·have:C=[]:=by
    cases C with
    |nil=>rfl
    |cons c C=>simp at hc
   subst this;rw[if_neg (by rw[Int.toNat_natCast];omega)];unfold f210e;rw[List.append_nil,aA (by omega),if_neg (by simp),if_pos (by simp),aA (by simp;simp at hlen;omega)]
 simp only[Bool.not_false,if_true,e58,aC,Int.toNat_natCast,set_at,getD_at];rw[List.length_append]at hlen hf;have e1:min ((0:Int)+1) 1000000000000=1:=by decide
 rw[e1]
 rw [aA (by rw[cP];omega),aA (by rw[cP];omega),aA (by rw[cP];omega),aA (by rw[cP];omega),aA (by omega),aA (by rw[cP];omega),aA (by rw[cP];omega),
  ito (by omega) (by omega),aC,aA (by rw[cP];omega),aA (by rw[cP];omega),aA (by simp;omega)]
def aAF (x1:List Pr) (x3:List UInt8) (r7:Int) (s10:List UInt8):Option (List UInt8×List Pr):=
 if((decide (r7<(0:Int)))&&(decide ((((x1).length:Nat):Int)≥(64:Int))))then(
 some (([102,117,108,108]:List UInt8),([]++x1))
 )else(
 (f118 x1 x3 s10).bind fun(r12:List Tq1)=>
 (f116 r12 x3).bind fun(r13:Int)=>
 (f117 bG ((r12.getD ((r13).toNat) (default:Tq1)).2.2)).bind fun(r14:List UInt8)=>
 chk (0≤r13∧r13<(((r12).length:Nat):Int))<|
 chk (((r13).toNat)<(r12).length)<|
 chk (([111,107,32]:List UInt8).length+r14.length≤9223372036854775807)<|
 some ((([111,107,32]:List UInt8)++r14),r12)
 )
theorem tail_hit (A C:List Pr) (k v s:List UInt8) (n:Int) (hlen:(A++(k,v,n)::C).length≤64) (hv:∀a,a∈(A++(k,v,n)::C)→1≤a.2.2∧a.2.2≤MV) (hA:∀a,a∈A→less a.1 k=true) (hC:∀c,c∈C→less k c.1=true):
  aAF (A++(k,v,n)::C) k (A.length:Int) s=some (okW++Lib.itoa (min (n+1) MV),A++(k,s,min (n+1) MV)::C):=by
 have hn:=hv (k,v,n) (by simp);simp only[MV]at hn;have hmin:0≤min (n+1) 1000000000000∧min (n+1) 1000000000000≤1000000000000000:=by omega
 have hl:=ilen hmin.1 hmin.2;unfold aAF;rw[if_neg (by simp;omega),put_hit A C k v s n (by omega) hv hA hC,aC];simp only[MV];rw[cP]at hlen;rw[sH A C k s _ (by rw[cP];omega) (fun a ha=>iC (hA a ha)) (fun c hc=>uG (hC c hc)),aC,Int.toNat_natCast,getD_at,dig hmin.1 hmin.2,aC,aA (by rw[cP];omega),aA (by rw[cP];omega),aA (by simp;omega)]
theorem tail_miss (A C:List Pr) (k s:List UInt8) (hlen:(A++C).length≤64) (hv:∀a,a∈(A++C)→1≤a.2.2∧a.2.2≤MV) (hA:∀a,a∈A→less a.1 k=true) (hC:∀c,c∈C→less k c.1=true):
  aAF (A++C) k (-1) s=if 64≤(A++C).length then some (wW,A++C)else some (okW++Lib.itoa 1,A++(k,s,1)::C):=by
 have hl:=ilen (n:=1) (by omega) (by omega);unfold aAF;by_cases hf:64≤(A++C).length
 ·rw[if_pos hf,if_pos (by simp only[Bool.and_eq_true,decide_eq_true_eq];omega)];rfl
 rw[if_neg hf,if_neg (by simp only[Bool.and_eq_true,decide_eq_true_eq];omega),put_miss A C k s (by omega) hv hA hC,aC];rw[List.length_append]at hlen hf;rw[sH A C k s _ (by rw[cP];omega) (fun a ha=>iC (hA a ha)) (fun c hc=>uG (hC c hc)),aC,Int.toNat_natCast,getD_at,dig (n:=1) (by omega) (by omega),aC,aA (by rw[cP];omega),aA (by rw[cP];omega),aA (by simp;omega)]
theorem gr_app {v c:List UInt8} (hv:gr v 256=true) (hc:gr c 64=true) (h:(v++c).length≤256):gr (v++c) 256=true:=by
 unfold gr at *;simp only[Bool.and_eq_true,Bool.not_eq_true',decide_eq_true_eq]at *;refine⟨by rw[List.any_append,hv.1,hc.1];rfl, ?_,by omega⟩
 cases v with
 |nil=>have:=hv.2.1;simp at this
 |cons x v=>rfl
theorem gr_up {c:List UInt8} (hc:gr c 64=true):gr c 256=true:=by
 unfold gr at *;simp only[Bool.and_eq_true,decide_eq_true_eq]at *;exact⟨hc.1,hc.2.1,by omega⟩
theorem stv_set {A C:List Pr} {k v s:List UInt8} {n m:Int} (h:StV (A++(k,v,n)::C)) (hs:gr s 256=true) (h1:1≤m) (h2:m≤MV):StV (A++(k,s,m)::C):=by
 refine⟨by have:=h.len;rw[cP]at this⊢;exact this,fun p hp=> ?_, ?_⟩
 ·rcases List.mem_append.1 hp with hp|hp
  ·exact h.each p (List.mem_append_left _ hp)
  ·rcases List.mem_cons.1 hp with rfl|hp
   ·have:=h.each (k,v,n) (by simp);exact⟨this.1,hs,h1,h2⟩
   ·exact h.each p (by simp[hp])
 ·have:=h.srt;simp only[Srtd,List.pairwise_append,List.pairwise_cons]at this⊢;refine⟨this.1,this.2.1,fun a ha b hb=> ?_⟩;rcases List.mem_cons.1 hb with rfl|hb
  ·exact this.2.2 a ha (k,v,n) (List.mem_cons_self ..)
  ·exact this.2.2 a ha b (List.mem_cons_of_mem _ hb)
theorem stv_ins {A C:List Pr} {k s:List UInt8} (h:StV (A++C)) (hl:(A++C).length<64) (hk:gr k 64=true) (hs:gr s 256=true) (hA:∀a,a∈A→less a.1 k=true) (hC:∀c,c∈C→less k c.1=true):StV (A++(k,s,1)::C):=by
 refine⟨by rw[List.length_append]at hl;rw[cP];omega,fun p hp=> ?_, ?_⟩
 ·rcases List.mem_append.1 hp with hp|hp
  ·exact h.each p (List.mem_append_left _ hp)
  ·rcases List.mem_cons.1 hp with rfl|hp
   ·exact⟨hk,hs,by simp,by simp⟩
   ·exact h.each p (List.mem_append_right _ hp)
 ·have:=h.srt;simp only[Srtd,List.pairwise_append,List.pairwise_cons]at this⊢;refine⟨this.1,⟨hC,this.2.1⟩,fun a ha b hb=> ?_⟩;rcases List.mem_cons.1 hb with rfl|hb
  ·exact hA a ha
  ·exact this.2.2 a ha b hb
theorem stv_del {A C:List Pr} {x:Pr} (h:StV (A++x::C)):StV (A++C):=by
 refine⟨by have:=h.len;rw[cP]at this;rw[List.length_append];omega,fun p hp=>h.each p (by rcases List.mem_append.1 hp with hp|hp<;>simp[hp]), ?_⟩;have:=h.srt;simp only[Srtd,List.pairwise_append,List.pairwise_cons]at this⊢;exact⟨this.1,this.2.1.2,fun a ha b hb=>this.2.2 a ha b (List.mem_cons_of_mem _ hb)⟩
def ent (l:List Pr) (k:List UInt8):Option (List UInt8×Int):=(l.find? fun p=>p.1==k).map (·.2)
theorem oZ {A C:List Pr} {k v:List UInt8} {n:Int} (hA:∀a,a∈A→less a.1 k=true):ent (A++(k,v,n)::C) k=some (v,n):=by
 unfold ent;rw[List.find?_append,List.find?_eq_none.2 fun a ha=>by simp[iC (hA a ha)]];simp
theorem aAv {A C:List Pr} {k:List UInt8} (hA:∀a,a∈A→less a.1 k=true) (hC:∀c,c∈C→less k c.1=true):ent (A++C) k=none:=by
 unfold ent;rw[List.find?_eq_none.2 fun a ha=>by rcases List.mem_append.1 ha with ha|ha;simp[iC (hA a ha)];simp[uG (hC a ha)]];rfl
theorem lA {A C:List Pr} {k k' v:List UInt8} {n:Int} (h:k'≠k):ent (A++(k,v,n)::C) k'=ent (A++C) k':=by
 unfold ent;rw[List.find?_append,List.find?_append,List.find?_cons];have:(k==k')=false:=beq_false_of_ne fun e=>h e.symm;simp only[this]
def R (e:Option (List UInt8×Int)) (cnt:Nat) (k:Int) (a b c:List UInt8):List UInt8×Option (List UInt8×Int):=
 if gI k a b c=false then(cs3,e)else
 if k=6 then(cs9++Lib.itoa (cnt:Int),e)else
 match e with
 |none=>if k=1∨k=4 then(if 64≤cnt then(wW,none)else(okW++Lib.itoa 1,some (c,1)))else([110,111,110,101],none)
 |some (v,n)=>
  if k=1 then(okW++Lib.itoa (min (n+1) MV),some (c,min (n+1) MV))else
  if k=2 then(pG++v++[32]++Lib.itoa n,some (v,n))else
  if k=3 then([111,107],none)else
  if k=4 then(if(v++c).length>256 then([108,111,110,103],some (v,n))else(okW++Lib.itoa (min (n+1) MV),some (v++c,min (n+1) MV)))else
  if v=b then(okW++Lib.itoa (min (n+1) MV),some (c,min (n+1) MV))else([110,111,32]++v,some (v,n))
structure Ex (l:List Pr) (k:Int) (a b c:List UInt8) (l':List Pr):Prop where
 prog:aBb l k a b c=some (l',(R (ent l a) l.length k a b c).1)
 spec:f85 l k a b c=some ((R (ent l a) l.length k a b c).1,l')
 ok:StV l'
 here:ent l' a=(R (ent l a) l.length k a b c).2
 there:∀k',k'≠a→ent l' k'=ent l k'
 keys:∀p,p∈l'→p.1=a∨∃q,q∈l∧q.1=p.1
 read:(k=2∨k=6)→l'=l
theorem R_bad {e:Option (List UInt8×Int)} {cnt:Nat} {k:Int} {a b c:List UInt8} (h:gI k a b c=false):R e cnt k a b c=(cs3,e):=by
 unfold R;rw[if_pos h]
theorem nmin {n:Int} (h1:1≤n) (h2:n≤MV):1≤min (n+1) MV∧min (n+1) MV≤MV:=by
 simp only[MV]at *;omega
theorem spec_head (l:List Pr) (k:Int) (a b c:List UInt8) (hl:l.length≤64) (ha:a.length≤9223372036854775807) (hb:b.length≤9223372036854775807) (hc:c.length≤9223372036854775807) (h:gI k a b c=false):f85 l k a b c=some (cs3,l):=by
 unfold f85;rw[aA (by omega),sI k a b c ha hb hc,aC,h];rfl
theorem prog_head (l:List Pr) (k:Int) (a b c:List UInt8) (ha:a.length≤9223372036854775807) (hb:b.length≤9223372036854775807) (hc:c.length≤9223372036854775807) (h:gI k a b c=false):aBb l k a b c=some (l,cs3):=by
 unfold aBb;rw[sF k a b c ha hb hc,aC,h];rfl
theorem spec_hit (A C:List Pr) (k:Int) (a b c v:List UInt8) (n:Int) (hV:StV (A++(a,v,n)::C)) (ha:a.length≤9223372036854775807) (hb:b.length≤9223372036854775807) (hc:c.length≤9223372036854775807) (h:gI k a b c=true)
  (hA:∀x,x∈A→less x.1 a=true) (hC:∀x,x∈C→less a x.1=true):
  f85 (A++(a,v,n)::C) k a b c=
   if k=6 then some (cs9++Lib.itoa ((A++(a,v,n)::C).length:Int),A++(a,v,n)::C)else
   if k=2 then some (pG++v++[32]++Lib.itoa n,A++(a,v,n)::C)else
   if k=3 then some ([111,107],A++C)else
   if k=5 then(if v=b then some (okW++Lib.itoa (min (n+1) MV),A++(a,c,min (n+1) MV)::C)else some ([110,111,32]++v,A++(a,v,n)::C))else
   if k=4 then(if(v++c).length>256 then some ([108,111,110,103],A++(a,v,n)::C)else some (okW++Lib.itoa (min (n+1) MV),A++(a,v++c,min (n+1) MV)::C))else
   some (okW++Lib.itoa (min (n+1) MV),A++(a,c,min (n+1) MV)::C):=by
 have hl:=hV.len;have hp:=hV.each (a,v,n) (by simp);obtain⟨p1,p2,p3,p4⟩:=hp;simp only at p1 p2 p3 p4;have hvl:=qI p2;have hil:=ilen (n:=n) (by omega) (by omega);have hcl:=(zF h).2.2;have hl2:=ilen (n:=(((A++(a,v,n)::C).length:Nat):Int)) (by omega) (by omega)
 have tl:∀s,aAF (A++(a,v,n)::C) a (A.length:Int) s=some (okW++Lib.itoa (min (n+1) MV),A++(a,s,min (n+1) MV)::C):=fun s=>
  tail_hit A C a v s n hl (fun x hx=>⟨(hV.each x hx).2.2.1,(hV.each x hx).2.2.2⟩) hA hC
 have hla:=cP A C (a,v,n);unfold f85;rw[aA (by omega),sI k a b c ha hb hc,aC,h,sH A C a v n (by omega) (fun x hx=>iC (hA x hx)) (fun x hx=>uG (hC x hx))];simp only[if_true,bne_self_eq_false,Bool.false_eq_true,if_false,aC,jn,Int.toNat_natCast,getD_at,List.nil_append,beq_iff_eq];rw[dig (n:=(((A++(a,v,n)::C).length:Nat):Int)) (by omega) (by omega),aC,aA (by have:cs9.length=6:=rfl;omega)];have hneg:decide ((A.length:Int)<0)=false:=by simp
 simp only[hneg,Bool.false_eq_true,if_false];split
 ·rfl
 split
 ·rw[dig (n:=n) (by omega) (by omega),aC,aA (by rw[hla];omega),aA (by simp[pG];omega),aA (by simp[pG];omega),aA (by rw[hla];omega),aA (by simp[pG];omega)]
 split
 ·rw[aA (by rw[hla];omega),aA (by omega),aA (by omega),aA (by rw[hla];omega),aA (by rw[hla];omega)];have e1:((A.length:Int)+1).toNat=A.length+1:=by omega
  rw[e1,take_at,drop_at]
 split
 ·rw[aA (by rw[hla];omega)];by_cases e:v=b
  ·rw[if_pos e,if_neg (by simp[e])];exact tl c
  ·rw[if_neg e,if_pos (by simp[e]),aA (by rw[hla];omega),aA (by simp;omega)]
 split
 ·rw[aR (by omega),aA (by rw[hla];omega),aA (by omega)];by_cases e:(v++c).length>256
  ·rw[if_pos e,aR (by omega)]
  ·rw[if_neg e,aO (by omega)];exact tl (v++c)
 ·exact tl c
theorem spec_miss (A C:List Pr) (k:Int) (a b c:List UInt8) (hV:StV (A++C)) (ha:a.length≤9223372036854775807) (hb:b.length≤9223372036854775807) (hc:c.length≤9223372036854775807) (h:gI k a b c=true)
  (hA:∀x,x∈A→less x.1 a=true) (hC:∀x,x∈C→less a x.1=true):
  f85 (A++C) k a b c=
   if k=6 then some (cs9++Lib.itoa ((A++C).length:Int),A++C)else
   if k=2∨k=3∨k=5 then some ([110,111,110,101],A++C)else
   if 64≤(A++C).length then some (wW,A++C)else some (okW++Lib.itoa 1,A++(a,c,1)::C):=by
 have hl:=hV.len;have hcl:=(zF h).2.2;have hl2:=ilen (n:=(((A++C).length:Nat):Int)) (by omega) (by omega)
 have tl:aAF (A++C) a (-1) c=if 64≤(A++C).length then some (wW,A++C)else some (okW++Lib.itoa 1,A++(a,c,1)::C):=
  tail_miss A C a c hl (fun x hx=>⟨(hV.each x hx).2.2.1,(hV.each x hx).2.2.2⟩) hA hC
 unfold f85;rw[aA (by omega),sI k a b c ha hb hc,aC,h,f116_miss (A++C) a (by omega) (fun x hx=>by rcases List.mem_append.1 hx with hx|hx;exact iC (hA x hx);exact uG (hC x hx))];simp only[if_true,bne_self_eq_false,Bool.false_eq_true,if_false,aC,jn,List.nil_append,beq_iff_eq];rw[dig (n:=(((A++C).length:Nat):Int)) (by omega) (by omega),aC,aA (by have:cs9.length=6:=rfl;omega)];have hneg:decide ((-1:Int)<0)=true:=by decide
 have hneg2:decide ((-1:Int)≥0)=false:=by decide
 simp only[hneg,hneg2,if_true,Bool.false_eq_true,if_false];by_cases h6:k=6
 ·rw[if_pos h6,if_pos h6]
 rw[if_neg h6,if_neg h6];by_cases h2:k=2
 ·rw[if_pos h2,if_pos (.inl h2)]
 rw[if_neg h2];by_cases h3:k=3
 ·rw[if_pos h3,if_pos (.inr (.inl h3))]
 rw[if_neg h3];by_cases h5:k=5
 ·rw[if_pos h5,if_pos (.inr (.inr h5))]
 rw[if_neg h5,if_neg (show ¬(k=2∨k=3∨k=5) by omega)];split
 ·rw[aO (by omega)];exact tl
 ·exact tl
theorem okOp_is {k:Int} {a b c:List UInt8} (h:gI k a b c=true):isK k=true:=by
 unfold gI at h;simp only[Bool.and_eq_true]at h;exact h.1.1.1
theorem okK {k:Int} {a b c:List UInt8} (h:gI k a b c=true):k=1∨k=2∨k=3∨k=4∨k=5∨k=6:=by
 have h0:=(okOp_is h);rcases kinds k with h|h|h|h|h|h|h
 ·exact .inl h
 ·exact .inr (.inl h)
 ·exact .inr (.inr (.inl h))
 ·exact .inr (.inr (.inr (.inl h)))
 ·exact .inr (.inr (.inr (.inr (.inl h))))
 ·exact .inr (.inr (.inr (.inr (.inr h))))
 ·rw[h]at h0;cases h0
theorem prog_hit (A C:List Pr) (k:Int) (a b c v:List UInt8) (n:Int) (hV:StV (A++(a,v,n)::C)) (ha:a.length≤9223372036854775807) (hb:b.length≤9223372036854775807) (hc:c.length≤9223372036854775807) (h:gI k a b c=true)
  (hA:∀x,x∈A→less x.1 a=true) (hC:∀x,x∈C→less a x.1=true):
  aBb (A++(a,v,n)::C) k a b c=
   if k=6 then some (A++(a,v,n)::C,cs9++Lib.itoa ((A++(a,v,n)::C).length:Int))else
   if k=1 then some (A++(a,c,min (n+1) MV)::C,okW++Lib.itoa (min (n+1) MV))else
   if k=2 then some (A++(a,v,n)::C,pG++v++[32]++Lib.itoa n)else
   if k=3 then some (A++C,[111,107])else
   if k=4 then(if(v++c).length>256 then some (A++(a,v,n)::C,[108,111,110,103])else some (A++(a,v++c,min (n+1) MV)::C,okW++Lib.itoa (min (n+1) MV)))else
   if v=b then some (A++(a,c,min (n+1) MV)::C,okW++Lib.itoa (min (n+1) MV))else some (A++(a,v,n)::C,[110,111,32]++v):=by
 have hl:=hV.len;have hp:=hV.each (a,v,n) (by simp);obtain⟨p1,p2,p3,p4⟩:=hp;simp only at p1 p2 p3 p4;have hvl:=qI p2;have hil:=ilen (n:=n) (by omega) (by omega);have hcl:=(zF h).2.2;have hl2:=ilen (n:=(((A++(a,v,n)::C).length:Nat):Int)) (by omega) (by omega);have hla:=cP A C (a,v,n);have put:∀s,aBo (A++(a,v,n)::C) a s=some (A++(a,s,min (n+1) MV)::C,okW++Lib.itoa (min (n+1) MV)):=fun s=>putP_hit A C a v s n hl p3 p4 hA hC;unfold aBb;rw[sF k a b c ha hb hc,aC,h];simp only[Bool.not_true,Bool.false_eq_true,if_false];rw[zQ A C a v n (by omega) hA hC,aC];simp only[beq_iff_eq,Bool.not_true,Bool.and_false,Bool.false_eq_true,if_false,Int.toNat_natCast,getD_at];split
 ·rw[ito (n:=(((A++(a,v,n)::C).length:Nat):Int)) (by omega) (by omega),aC,aA (by have:cs9.length=6:=rfl;omega)]
 split
 ·rw[put,aC]
 rw[aA (by rw[hla];omega)];split
 ·rw[ito (n:=n) (by omega) (by omega),aC,aA (by have:pG.length=6:=rfl;omega),aA (by simp[pG];omega),aA (by simp[pG];omega)]
 split
 ·rw[xR _ (by omega),aC];unfold f188;have e1:((A.length:Int)+1).toNat=A.length+1:=by omega
  rw[if_pos ⟨by omega,by omega,by rw[e1,hla];omega⟩,aC,aA (by omega),e1,Int.toNat_natCast,take_at,drop_at]
 split
 ·rw[aA (by omega)];by_cases e:(v++c).length>256
  ·rw[if_pos e,aR (by rw[List.length_append]at e;omega)]
  ·rw[if_neg e,aO (by rw[List.length_append]at e;omega),put,aC,aA (by omega)]
 ·by_cases e:v=b
  ·rw[if_pos e,if_neg (by simp[e]),put,aC]
  ·rw[if_neg e,if_pos (by simp[e]),aA (by simp;omega)]
theorem prog_miss (A C:List Pr) (k:Int) (a b c:List UInt8) (hV:StV (A++C)) (ha:a.length≤9223372036854775807) (hb:b.length≤9223372036854775807) (hc:c.length≤9223372036854775807) (h:gI k a b c=true)
  (hA:∀x,x∈A→less x.1 a=true) (hC:∀x,x∈C→less a x.1=true):
  aBb (A++C) k a b c=
   if k=6 then some (A++C,cs9++Lib.itoa ((A++C).length:Int))else
   if k=1∨k=4 then(if 64≤(A++C).length then some (A++C,wW)else some (A++(a,c,1)::C,okW++Lib.itoa 1))else
   some (A++C,[110,111,110,101]):=by
 have hl:=hV.len;have hl2:=ilen (n:=(((A++C).length:Nat):Int)) (by omega) (by omega);have put:=putP_miss A C a c hl hA hC
 have put':((aBo (A++C) a c).bind fun r=>some (r.1,r.2))=if 64≤(A++C).length then some (A++C,wW)else some (A++(a,c,1)::C,okW++Lib.itoa 1):=by
  rw[put];split<;>rfl
 unfold aBb;rw[sF k a b c ha hb hc,aC,h];simp only[Bool.not_true,Bool.false_eq_true,if_false];rw[uK A C a (by omega) hA hC,aC];simp only[beq_iff_eq,Bool.not_false,Bool.and_true,if_true];split
 ·rw[ito (n:=(((A++C).length:Nat):Int)) (by omega) (by omega),aC,aA (by have:cs9.length=6:=rfl;omega)]
 by_cases h1:k=1
 ·rw[if_pos h1,if_pos (.inl h1)];exact put'
 by_cases h4:k=4
 ·rw[if_neg h1,if_pos h4,if_pos (.inr h4)];exact put'
 ·rw[if_neg h1,if_neg h4,if_neg (by omega)]
theorem exec (l:List Pr) (k:Int) (a b c:List UInt8) (hV:StV l) (ha:a.length≤9223372036854775807) (hb:b.length≤9223372036854775807) (hc:c.length≤9223372036854775807):∃l',Ex l k a b c l':=by
 cases h:gI k a b c
 ·exact⟨l,by rw[R_bad h];exact prog_head l k a b c ha hb hc h,by rw[R_bad h];exact spec_head l k a b c hV.len ha hb hc h,hV,by rw[R_bad h],fun _ _=>rfl,fun p hp=> .inr ⟨p,hp,rfl⟩,fun _=>rfl⟩
 have hk:=okK h
 have hcg:k=1∨k=4∨k=5→gr c 64=true:=by
  unfold gI at h;simp only[Bool.and_eq_true]at h;have:=h.2;rintro(rfl|rfl|rfl)<;>exact this
 have hag:k≠6→gr a 64=true:=by
  unfold gI at h;simp only[Bool.and_eq_true]at h;have:=h.1.1.2;rcases hk with rfl|rfl|rfl|rfl|rfl|rfl<;>intro h6<;>first|exact this|exact absurd rfl h6
 have hf:gI k a b c=false↔False:=by rw[h];simp
 cases view l a hV.srt with
 |hit A C v n e hA hC=>
  subst e;have p:=prog_hit A C k a b c v n hV ha hb hc h hA hC;have s:=spec_hit A C k a b c v n hV ha hb hc h hA hC;have hp:=hV.each (a,v,n) (by simp);have e0:=oZ (C:=C) (v:=v) (n:=n) hA;have hm:=nmin hp.2.2.1 hp.2.2.2
  have keysS:∀s m,∀p,p∈A++(a,s,m)::C→p.1=a∨∃q,q∈A++(a,v,n)::C∧q.1=p.1:=by
   intro s m p hp;rcases List.mem_append.1 hp with hp|hp
   ·exact .inr ⟨p,List.mem_append_left _ hp,rfl⟩
   ·rcases List.mem_cons.1 hp with rfl|hp
    ·exact .inl rfl
    ·exact .inr ⟨p,by simp[hp],rfl⟩
  have setS:∀s,gr s 256=true→StV (A++(a,s,min (n+1) MV)::C):=fun s hs=>stv_set hV hs hm.1 hm.2;have there:∀(s:List UInt8) (m:Int),∀k',k'≠a→ent (A++(a,s,m)::C) k'=ent (A++(a,v,n)::C) k':=fun s m k' hk'=>by rw[lA hk',lA hk']
  rcases hk with rfl|rfl|rfl|rfl|rfl|rfl
  ·refine⟨A++(a,c,min (n+1) MV)::C, ?_, ?_,setS c (gr_up (hcg (.inl rfl))), ?_,there _ _,keysS _ _,fun h=>by omega⟩
   ·rw[p,e0];simp[R,hf]
   ·rw[s,e0];simp[R,hf]
   ·rw[e0,oZ hA];simp[R,hf]
  ·refine⟨A++(a,v,n)::C, ?_, ?_,hV, ?_,there _ _,keysS _ _,fun _=>rfl⟩
   ·rw[p,e0];simp[R,hf]
   ·rw[s,e0];simp[R,hf]
   ·rw[e0];simp[R,hf]
  ·refine⟨A++C, ?_, ?_,stv_del hV, ?_,fun k' hk'=>by rw[lA hk'],fun p hp=> .inr ⟨p,by rcases List.mem_append.1 hp with hp|hp<;>simp[hp],rfl⟩,fun h=>by omega⟩
   ·rw[p,e0];simp[R,hf]
   ·rw[s,e0];simp[R,hf]
   ·rw[e0,aAv hA hC];simp[R,hf]
  ·by_cases hlong:(v++c).length>256
   ·refine⟨A++(a,v,n)::C, ?_, ?_,hV, ?_,there _ _,keysS _ _,fun h=>by omega⟩
    ·rw[p,e0];simp only[R,hf,hlong];simp
    ·rw[s,e0];simp only[R,hf,hlong];simp
    ·rw[e0];simp only[R,hf,hlong];simp
   ·refine⟨A++(a,v++c,min (n+1) MV)::C, ?_, ?_,setS _ (gr_app hp.2.1 (hcg (.inr (.inl rfl))) (by omega)), ?_,there _ _,keysS _ _,fun h=>by omega⟩
    ·rw[p,e0];simp only[R,hf,hlong];simp
    ·rw[s,e0];simp only[R,hf,hlong];simp
    ·rw[e0,oZ hA];simp only[R,hf,hlong];simp
  ·by_cases hvb:v=b
   ·refine⟨A++(a,c,min (n+1) MV)::C, ?_, ?_,setS c (gr_up (hcg (.inr (.inr rfl)))), ?_,there _ _,keysS _ _,fun h=>by omega⟩
    ·rw[p,e0];simp[R,hf,hvb]
    ·rw[s,e0];simp[R,hf,hvb]
    ·rw[e0,oZ hA];simp[R,hf,hvb]
   ·refine⟨A++(a,v,n)::C, ?_, ?_,hV, ?_,there _ _,keysS _ _,fun h=>by omega⟩
    ·rw[p,e0];simp[R,hf,hvb]
    ·rw[s,e0];simp[R,hf,hvb]
    ·rw[e0];simp[R,hf,hvb]
  ·refine⟨A++(a,v,n)::C, ?_, ?_,hV, ?_,there _ _,keysS _ _,fun _=>rfl⟩
   ·rw[p,e0];simp only[R,hf,if_true,if_false]
   ·rw[s,e0];simp only[R,hf,if_true,if_false]
   ·rw[e0];simp only[R,hf,if_true,if_false]
 |miss A C e hA hC=>
  subst e;have p:=prog_miss A C k a b c hV ha hb hc h hA hC;have s:=spec_miss A C k a b c hV ha hb hc h hA hC;have e0:=aAv hA hC;have keep:∀p,p∈A++C→p.1=a∨∃q,q∈A++C∧q.1=p.1:=fun p hp=> .inr ⟨p,hp,rfl⟩
  have keysS:∀s m,∀p,p∈A++(a,s,m)::C→p.1=a∨∃q,q∈A++C∧q.1=p.1:=by
   intro s m p hp;rcases List.mem_append.1 hp with hp|hp
   ·exact .inr ⟨p,List.mem_append_left _ hp,rfl⟩
   ·rcases List.mem_cons.1 hp with rfl|hp
    ·exact .inl rfl
    ·exact .inr ⟨p,by simp[hp],rfl⟩
  have ins:(k=1∨k=4)→∃l',Ex (A++C) k a b c l':=by
   intro h14;have h6:k≠6:=by omega
   have h235:¬(k=2∨k=3∨k=5):=by omega
   by_cases hfull:64≤(A++C).length
   ·refine⟨A++C, ?_, ?_,hV, ?_,fun _ _=>rfl,keep,fun _=>rfl⟩
    ·rw[p,e0,if_neg h6,if_pos h14,if_pos hfull];simp only[R,hf,if_false,if_neg h6,if_pos h14,if_pos hfull]
    ·rw[s,e0,if_neg h6,if_neg h235,if_pos hfull];simp only[R,hf,if_false,if_neg h6,if_pos h14,if_pos hfull]
    ·rw[e0];simp only[R,hf,if_false,if_neg h6,if_pos h14,if_pos hfull]
   ·refine⟨A++(a,c,1)::C, ?_, ?_,stv_ins hV (by omega) (hag h6) (gr_up (hcg (by omega))) hA hC, ?_,fun k' hk'=>by rw[lA hk'],keysS _ _,fun h=>by omega⟩
    ·rw[p,e0,if_neg h6,if_pos h14,if_neg hfull];simp only[R,hf,if_false,if_neg h6,if_pos h14,if_neg hfull]
    ·rw[s,e0,if_neg h6,if_neg h235,if_neg hfull];simp only[R,hf,if_false,if_neg h6,if_pos h14,if_neg hfull]
    ·rw[e0,oZ hA];simp only[R,hf,if_false,if_neg h6,if_pos h14,if_neg hfull]
  have non:(k=2∨k=3∨k=5)→∃l',Ex (A++C) k a b c l':=by
   intro h235;have h6:k≠6:=by omega
   have h14:¬(k=1∨k=4):=by omega
   refine⟨A++C, ?_, ?_,hV, ?_,fun _ _=>rfl,keep,fun _=>rfl⟩
   ·rw[p,e0,if_neg h6,if_neg h14];simp only[R,hf,if_false,if_neg h6,if_neg h14]
   ·rw[s,e0,if_neg h6,if_pos h235];simp only[R,hf,if_false,if_neg h6,if_neg h14]
   ·rw[e0];simp only[R,hf,if_false,if_neg h6,if_neg h14]
  rcases hk with h|h|h|h|h|rfl
  ·exact ins (.inl h)
  ·exact non (.inl h)
  ·exact non (.inr (.inl h))
  ·exact ins (.inr h)
  ·exact non (.inr (.inr h))
  ·refine⟨A++C, ?_, ?_,hV, ?_,fun _ _=>rfl,keep,fun _=>rfl⟩
   ·rw[p,e0];simp only[R,hf,if_true,if_false]
   ·rw[s,e0];simp only[R,hf,if_true,if_false]
   ·rw[e0];simp only[R,hf,if_true,if_false]
abbrev Ss :=Int×Int×List UInt8
structure SesV (l:List Ss):Prop where
 rng:∀p,p∈l→0≤p.1∧p.1<6
 srt:l.Pairwise (fun p q=>p.1<q.1)
theorem SesV.nil :SesV []:=⟨by simp,.nil⟩
theorem ses_len :∀(l:List Ss) (k:Int),l.Pairwise (fun p q=>p.1<q.1)→(∀p,p∈l→k≤p.1∧p.1<6)→(l.length:Int)≤max 0 (6-k)
 |[],k,_,_=>by simp;omega
 |a::l,k,h,hr=>by
  obtain⟨h1,h2⟩:=List.pairwise_cons.1 h
  have ha:=hr a (List.mem_cons_self ..)
  have:=ses_len l (a.1+1) h2 fun p hp=>⟨by have:=h1 p hp;omega,(hr p (List.mem_cons_of_mem _ hp)).2⟩
  simp only[List.length_cons]
  omega
theorem SesV.len {l:List Ss} (h:SesV l):l.length≤6:=by
 have:=ses_len l 0 h.srt h.rng;omega
inductive SView (l:List Ss) (c:Int):Prop
 |hit (A C:List Ss) (n:Int) (r:List UInt8) (h:l=A++(c,n,r)::C) (hA:∀a,a∈A→a.1<c) (hC:∀b,b∈C→c<b.1):SView l c
 |miss (A C:List Ss) (h:l=A++C) (hA:∀a,a∈A→a.1<c) (hC:∀b,b∈C→c<b.1):SView l c
theorem sview :∀(l:List Ss) (c:Int),l.Pairwise (fun p q=>p.1<q.1)→SView l c
 |[],c,_=> .miss [] [] rfl (by simp) (by simp)
 |(x,n,r)::l,c,h=>by
  obtain⟨h1,h2⟩:=List.pairwise_cons.1 h
  by_cases hx:x<c
  ·cases sview l c h2 with
   |hit A C n' r' e hA hC=>exact .hit ((x,n,r)::A) C n' r' (by rw[e];rfl) (by intro a ha;rcases List.mem_cons.1 ha with rfl|ha;exact hx;exact hA a ha) hC
   |miss A C e hA hC=>exact .miss ((x,n,r)::A) C (by rw[e];rfl) (by intro a ha;rcases List.mem_cons.1 ha with rfl|ha;exact hx;exact hA a ha) hC
  ·by_cases he:x=c
   ·subst he
    exact .hit [] l n r rfl (by simp) h1
   ·exact .miss [] ((x,n,r)::l) rfl (by simp) (by intro b hb;rcases List.mem_cons.1 hb with rfl|hb;simp only;omega;have:=h1 b hb;simp only at this;omega)
theorem iD (A B:List Ss) (i:Nat) (d:Ss):(A++B).getD i d=if i<A.length then A.getD i d else B.getD (i-A.length) d:=by
 split
 ·simp[List.getD_eq_getElem?_getD,List.getElem?_append_left, *]
 ·rename_i h;simp[List.getD_eq_getElem?_getD,List.getElem?_append_right (Nat.le_of_not_lt h)]
theorem f151_eq (A B:List Ss) (c:Int) (hc:0≤c∧c<6) (hr:∀p,p∈A++B→0≤p.1∧p.1<6) (hlen:(A++B).length≤1000000) (hA:∀a,a∈A→a.1<c) (hB:∀b,b∈B→¬b.1<c):
  f151 (A++B) c=some ((A.length:Int),decide (0<B.length)&&((B.getD 0 (default:Ss)).1==c)):=by
 have h24:∀(p:Ss),p∈A++B→f180 p.1 p.2.1 p.2.2 c=some (p.1-c):=fun p hp=>by
  have:=hr p hp;unfold f180;rw[fR (k:= .i64) (show-9223372036854775808≤p.1-c∧p.1-c≤9223372036854775807 by omega)]
 have main:∀(K:Int→Option Tq4) (d q i j:Nat),j-i≤d→d<q→i≤A.length→A.length≤j→j≤(A++B).length→gL (A++B) c K q ((i:Int),(j:Int))=K (A.length:Int):=by
  intro K d
  induction d with
  |zero=>
   intro q i j hd hq h1 h2 h3;obtain⟨q,rfl⟩:∃z,q=z+1:=⟨q-1,by omega⟩
   conv=>lhs;unfold gL
   rw[aO (by omega)]
   congr 1;omega
  |succ d ih=>
   intro q i j hd hq h1 h2 h3;obtain⟨q,rfl⟩:∃z,q=z+1:=⟨q-1,by omega⟩
   conv=>lhs;unfold gL
   by_cases hij:i<j
   ·have em:((i:Int)+(j:Int))/2^1=(((i+j)/2:Nat):Int):=by omega
    rw[aR (by omega),aA (by omega),aA (by omega),aA (by decide),em,aA (by omega),Int.toNat_natCast];generalize hm:(i+j)/2=m;have hm1:i≤m:=by omega
    have hm2:m<j:=by omega
    rw[h24 _ (bU _ _ _ (by omega)),aC,aA (by omega)];by_cases hmA:m<A.length
    ·have hl:((A++B).getD m (default:Ss)).1<c:=by
      rw[iD,if_pos hmA];exact hA _ (bU _ _ _ hmA)
     rw[aR (by omega),aA (by omega)];have:=ih q (m+1) j (by omega) (by omega) (by omega) h2 h3;rw[←this];rfl
    ·have hl:¬((A++B).getD m (default:Ss)).1<c:=by
      rw[iD,if_neg hmA];exact hB _ (bU _ _ _ (by rw[List.length_append]at h3;omega))
     rw[aO (by omega)];exact ih q i m (by omega) (by omega) h1 (by omega) (by omega)
   ·rw[aO (by omega)];congr 1;omega
 unfold f151 f179;simp only[jn];have e0:(0:Int)=((0:Nat):Int):=rfl;rw[e0,main _ (A++B).length bG 0 (A++B).length (by omega) (by unfold bG;omega) (Nat.zero_le _) (by simp) (Nat.le_refl _)];rw[Int.toNat_natCast];by_cases hb:0<B.length
 ·have h1:decide ((A.length:Int)<(((A++B).length:Nat):Int))=true:=by rw[List.length_append];simp;omega
  rw[h24 _ (bU _ _ _ (by rw[List.length_append];omega)),h1,iD,if_neg (Nat.lt_irrefl _),Nat.sub_self];simp only[beq_self_eq_true,Bool.true_and,jH,aC];rw[aA (fun _=>by rw[List.length_append];omega),aC];have hd:decide (0<B.length)=true:=by simp[hb]
  rw[hd];by_cases e:(B.getD 0 (default:Ss)).1=c
  ·have e':((B.getD 0 (default:Ss)).1==c)=true:=by simpa using e
   have e2:((B.getD 0 (default:Ss)).1-c==((0:Nat):Int))=true:=by simp only[beq_iff_eq];omega
   rw[e',e2];rfl
  ·have e':((B.getD 0 (default:Ss)).1==c)=false:=by simpa using e
   have e2:((B.getD 0 (default:Ss)).1-c==((0:Nat):Int))=false:=by
    cases h:((B.getD 0 (default:Ss)).1-c==((0:Nat):Int))
    ·rfl
    ·simp only[beq_iff_eq]at h;omega
   rw[e',e2];rfl
 ·have h1:decide ((A.length:Int)<(((A++B).length:Nat):Int))=false:=by rw[List.length_append];simp;omega
  rw[h1];have hd:decide (0<B.length)=false:=by simp[hb]
  rw[hd];simp[gW,chk]
def num (l:List Ss) (c:Int):Int:=match l.find? (fun p=>p.1==c)with|some p=>p.2.1|none=>0
theorem oA {A C:List Ss} {c n:Int} {r:List UInt8} (hA:∀a,a∈A→a.1<c):num (A++(c,n,r)::C) c=n:=by
 unfold num;rw[List.find?_append,List.find?_eq_none.2 fun a ha=>by have:=hA a ha;simp;omega];simp
theorem num_miss {A C:List Ss} {c:Int} (hA:∀a,a∈A→a.1<c) (hC:∀b,b∈C→c<b.1):num (A++C) c=0:=by
 unfold num
 rw [List.find?_eq_none.2 fun a ha=>by
  rcases List.mem_append.1 ha with ha|ha
  ·have:=hA a ha;simp;omega
  ·have:=hC a ha;simp;omega]
theorem nZ {A C:List Ss} {c c' n:Int} {r:List UInt8} (h:c'≠c):num (A++(c,n,r)::C) c'=num (A++C) c':=by
 unfold num;have e:((c,n,r).1==c')=false:=by simp;omega
 rw[List.find?_append,List.find?_append,List.find?_cons];simp only[e]
def jZ (q:Ss):Bool:=(((((decide (q.1≥0))&&(decide (q.1<6)))&&(decide (q.2.1≥1)))&&(decide (q.2.1≤1000000)))&& !(q.2.2==[]))&&decide (((q.2.2.length:Nat):Int)≤200)
theorem fS {q:Ss} (h:jZ q=true):0≤q.1∧q.1<6∧1≤q.2.1∧q.2.1≤1000000∧q.2.2.length≤200:=by
 unfold jZ at h;simp only[Bool.and_eq_true,decide_eq_true_eq]at h;omega
abbrev Mc :=List Pr×List Ss
structure McV (m:Mc):Prop where
 st:StV m.1
 se:SesV m.2
theorem ses_set {A C:List Ss} {c n n':Int} {r r':List UInt8} (h:SesV (A++(c,n,r)::C)):SesV (A++(c,n',r')::C):=by
 refine⟨fun p hp=> ?_, ?_⟩
 ·rcases List.mem_append.1 hp with hp|hp
  ·exact h.rng p (List.mem_append_left _ hp)
  ·rcases List.mem_cons.1 hp with rfl|hp
   ·exact h.rng (c,n,r) (by simp)
   ·exact h.rng p (by simp[hp])
 ·have:=h.srt;simp only[List.pairwise_append,List.pairwise_cons]at this⊢;refine⟨this.1,this.2.1,fun a ha b hb=> ?_⟩;rcases List.mem_cons.1 hb with rfl|hb
  ·exact this.2.2 a ha (c,n,r) (List.mem_cons_self ..)
  ·exact this.2.2 a ha b (List.mem_cons_of_mem _ hb)
theorem ses_ins {A C:List Ss} {c n:Int} {r:List UInt8} (h:SesV (A++C)) (hc:0≤c∧c<6) (hA:∀a,a∈A→a.1<c) (hC:∀b,b∈C→c<b.1):SesV (A++(c,n,r)::C):=by
 refine⟨fun p hp=> ?_, ?_⟩
 ·rcases List.mem_append.1 hp with hp|hp
  ·exact h.rng p (List.mem_append_left _ hp)
  ·rcases List.mem_cons.1 hp with rfl|hp
   ·exact hc
   ·exact h.rng p (List.mem_append_right _ hp)
 ·have:=h.srt;simp only[List.pairwise_append,List.pairwise_cons]at this⊢;refine⟨this.1,⟨hC,this.2.1⟩,fun a ha b hb=> ?_⟩;rcases List.mem_cons.1 hb with rfl|hb
  ·exact hA a ha
  ·exact this.2.2 a ha b hb
theorem setS_at :∀(A C:List Ss) (x y:Ss),(A++x::C).set A.length y=A++y::C
 |[],_,_,_=>rfl
 |a::A,C,x,y=>by
  show a::(A++x::C).set A.length y=_
  rw[setS_at A C x y];rfl
theorem getS_at (A C:List Ss) (x d:Ss):(A++x::C).getD A.length d=x:=by
 rw[iD,if_neg (Nat.lt_irrefl _),Nat.sub_self];rfl
theorem f154_eq (l:List Ss) (h:l.length≤1000000):f154 l=some l:=by
 unfold f154;rw[abc_eq,aA (by omega)]
 ·rfl
 ·intro hl;rw[aA (by omega)];have:l=[]:=List.length_eq_zero_iff.1 hl;rw[this];rfl
structure Ap (m:Mc) (q:Ss) (m':Mc):Prop where
 ok:McV m'
 bad:jZ q=false→m'=m
 old:jZ q=true→q.2.1≤num m.2 q.1→m'=m
 new:jZ q=true→q.2.1≤num m'.2 q.1
 mono:∀c,num m.2 c≤num m'.2 c
theorem qD (x:List UInt8) (hx:x.length≤1000):∃k a b c e,f152 x=some (k,a,b,c,e)∧f84 x=some (k,a,b,c,e)∧a.length≤1000∧b.length≤1000∧c.length≤1000:=by
 by_cases h:NoOp x
 ·exact⟨_,_,_,_,_,f152_miss h (by omega),f84_miss h (by omega),by simp,by simp,by simp⟩
 ·obtain⟨k,a,b,c,hk,rfl⟩:∃k a b c,gI k a b c=true∧txt k a b c=x:=by
   refine Classical.byContradiction fun hn=>h fun k a b c hk hx=>hn ⟨k,a,b,c,hk,hx⟩
  obtain⟨t1,t2,t3⟩:= @txt_len k a b c;exact⟨_,_,_,_,_,f152_hit hk (by omega),f84_hit hk (by omega),by omega,by omega,by omega⟩
theorem wE :∀(q n:Nat),n<10^(q+1)→n≤1000000000000000→∀k,q+1≤k→f88 k (n:Int)=some (Lib.itoa (n:Int))
 |q,n,hn,hb,k,hk=>by
  obtain⟨k,rfl⟩:∃z,k=z+1:=⟨k-1,by omega⟩
  conv=>lhs;unfold f88
  rw[Lib.itoa_nonneg]
  by_cases h:n<10
  ·rw[aR (by omega),aA (by omega),aA (by omega),Lib.decDigits_one h]
   congr 3
  ·rw[aO (by omega)]
   match q,hn,hk with
   |0,hn,_=>omega
   |q+1,hn,hk=>
    have e1:(n:Int)/10=((n/10:Nat):Int):=by omega
    have e2:(n:Int)%10=((n%10:Nat):Int):=by omega
    rw[e1,e2,wE q (n/10) (by rw[Nat.pow_succ]at hn;omega) (by omega) k (by omega),aC,aA (by omega),aA (by omega),aA (by omega),aA (by omega)]
    have hl:=Lib.itoa_length_le ((n/10:Nat):Int) (by omega) (by omega)
    rw[aA (by rw[List.length_singleton];omega),Lib.itoa_nonneg]
    conv=>rhs;rw[Lib.decDigits,dif_neg h]
    congr 3
theorem pC {n:Int} (h0:0≤n) (h1:n≤1000000000000000):f88 bG n=some (Lib.itoa n):=by
 obtain⟨m,rfl⟩:∃m:Nat,n=m:=⟨n.toNat,by omega⟩;exact wE 15 m (by omega) (by omega) bG (by unfold bG;omega)
theorem jC (n:Nat) (hn:n<128) (k:Nat):aBp (k+1) (n:Int)=some [UInt8.ofNat n]:=by
 conv=>lhs;unfold aBp
 rw[aR (by omega),aA (by omega),Int.toNat_natCast]
theorem aAn (n:Nat) (hn:n<16384):∃r,aBp bG (n:Int)=some r∧r.length≤2:=by
 obtain⟨k,hk⟩:∃k,bG=k+2:=⟨bG-2,by unfold bG;omega⟩;rw[hk];by_cases h:n<128
 ·exact⟨_,jC n h (k+1),by simp⟩
 ·conv=>arg 1;intro r;lhs;lhs;unfold aBp
  have e1:(n:Int)/128=((n/128:Nat):Int):=by omega
  rw[aO (by omega),e1,jC (n/128) (by omega) k,aC,aA (by omega),aA (by omega),aA (by omega),aA (by omega),aA (by simp)];exact⟨_,rfl,by simp⟩
theorem f87_len (x:List Ty0) (hx:∀s,s∈x→s.length≤200) (hl:x.length≤100) (K:List UInt8→Option Ty0):∀c k n s,n+c=x.length→c<k→s.length≤2000000-c *10000→∃r,iF x K k (s,n)=K r∧r.length≤s.length+c *202
 |0,k,n,s,hn,hk,hs=>by
  obtain⟨k,rfl⟩:∃z,k=z+1:=⟨k-1,by omega⟩
  obtain rfl:n=x.length:=by omega
  refine⟨s, ?_,by omega⟩
  conv=>lhs;unfold iF
  rw[aO (by omega)]
 |c+1,k,n,s,hn,hk,hs=>by
  obtain⟨k,rfl⟩:∃z,k=z+1:=⟨k-1,by omega⟩
  have hlt:n<x.length:=by omega
  have hxn:(x.getD n []).length≤200:=by
   rw[List.getD_eq_getElem?_getD,List.getElem?_eq_getElem hlt]
   exact hx _ (List.getElem_mem ..)
  obtain⟨r,hr,hr2⟩:=aAn (x.getD n []).length (by omega)
  have hsl:(s++r).length=s.length+r.length:=List.length_append
  have hsl2:((s++r)++x.getD n []).length=s.length+r.length+(x.getD n []).length:=by rw[List.length_append,List.length_append]
  obtain⟨r',h1,h2⟩:=f87_len x hx hl K c k (n+1) ((s++r)++x.getD n []) (by omega) (by omega) (by omega)
  refine⟨r', ?_,by omega⟩
  conv=>lhs;unfold iF
  rw[aR (by omega),hr,aC,aA (by omega),aA (by omega),aA (by omega),aA (by omega),aA (by omega)]
  exact h1
theorem f87_tot (x:List Ty0) (hx:∀s,s∈x→s.length≤200) (hl:x.length≤4):∃r,f87 x=some r∧r.length≤2000:=by
 obtain⟨r0,h0,h02⟩:=aAn x.length (by omega);unfold f87;rw[h0,aC,bV];obtain⟨r,h1,h2⟩:=f87_len x hx (by omega) (fun s6=>some s6) x.length bG 0 r0 (by omega) (fuel_lt (by omega)) (by omega);exact⟨r,h1,by omega⟩
theorem f65_tot (c n:Int) (op:List UInt8) (hc:0≤c∧c<6) (hn:1≤n∧n≤1000000) (hop:op.length≤200):∃r,f65 1 0 [(c,n,op)]=some r∧r.length≤2000:=by
 have l1:=Lib.itoa_length_le c (by omega) (by omega);have l2:=Lib.itoa_length_le n (by omega) (by omega)
 obtain ⟨r, hr, hr2⟩ := f87_tot [cs2, Lib.itoa c, Lib.itoa n, op] (by
  intro s hs;simp only[List.mem_cons,List.not_mem_nil,or_false]at hs;rcases hs with rfl|rfl|rfl|rfl
  ·decide
  ·omega
  ·omega
  ·exact hop) (by simp)
 obtain⟨k,hk⟩:∃k,bG=k+2:=⟨bG-2,by unfold bG;omega⟩;have hd1:=pC (n:=c) (by omega) (by omega);have hd2:=pC (n:=n) (by omega) (by omega)
 have hL:∀K:List Ty0→Option Ty0,iI [(c,n,op)] K bG (0,[cs2])=K [cs2,Lib.itoa c,Lib.itoa n,op]:=by
  intro K;rw[hk]
  conv=>lhs;unfold iI
  rw[aR (by simp)];simp only[List.getD_cons_zero,List.length_cons,List.length_nil];rw[aA (by omega),hd1,aC,hd2,aC,aA (by omega),aA (by omega)]
  conv=>lhs;unfold iI
  rw[aO (by simp)];rfl
 unfold f65;rw[if_neg (by decide),if_neg (by decide),bV,hL,hr];exact⟨r,rfl,hr2⟩
theorem f64_eq (c n:Int) (op:List UInt8):∃v,f64 1 0 [(c,n,op)]=some v∧(v=0↔jZ (c,n,op)=true):=by
 have hg:jZ (c,n,op)=true↔(0≤c∧c<6∧1≤n∧n≤1000000∧op≠[]∧op.length≤200):=by
  unfold jZ;simp only[Bool.and_eq_true,decide_eq_true_eq,Bool.not_eq_true',beq_eq_false_iff_ne];constructor
  ·rintro⟨⟨⟨⟨⟨h1,h2⟩,h3⟩,h4⟩,h5⟩,h6⟩;exact⟨h1,h2,h3,h4,h5,by omega⟩
  ·rintro⟨h1,h2,h3,h4,h5,h6⟩;exact⟨⟨⟨⟨⟨h1,h2⟩,h3⟩,h4⟩,h5⟩,by omega⟩
 obtain⟨k,hk⟩:∃k,bG=k+2:=⟨bG-2,by unfold bG;omega⟩
 have h47:f120 [] c n op=some false:=by
  unfold f120;rw[bV,hk]
  conv=>lhs;unfold gO
  rw[aO (by simp)]
 have h114:∃v,f119 c n op=some v∧(v=0↔jZ (c,n,op)=true):=by
  unfold f119;rw[hg];by_cases h1:0≤c∧c<6∧1≤n∧n≤1000000
  ·rw[if_neg (by simp;omega)];by_cases h2:op=[]
   ·rw[if_pos (by simp[h2])];exact⟨_,rfl,by simp[h2]⟩
   ·rw[if_neg (by simpa using h2)];by_cases h3:op.length≤200
    ·rw[aO (by omega)];exact⟨_,rfl,by simp[h1,h2,h3]⟩
    ·rw[aR (by omega)];exact⟨_,rfl,by simp;omega⟩
  ·rw[if_pos (by simp;omega)];exact⟨_,rfl,by simp;omega⟩
 obtain⟨v,hv,hvg⟩:=h114
 have h73:f86 [(c,n,op)]=some v:=by
  unfold f86;rw[bV,hk]
  conv=>lhs;unfold jI
  rw[aR (by simp)];simp only[List.getD_cons_zero,List.length_cons,List.length_nil];rw[hv,aC,aA (by omega)];by_cases h0:v=0
  ·subst h0;rw[if_neg (by simp),show List.take 0 [(c,n,op)]=[]from rfl,h47,aC,aA (by omega),aA (by omega),if_neg (by simp),aA (by omega)]
   conv=>lhs;unfold jI
   rw[aO (by simp)]
  ·rw[if_pos (by simpa using h0)]
 unfold f64;rw[aA (by simp),aA (by simp),if_neg (by simp),aO (by simp),h73,aC];by_cases h0:v=0
 ·have:=fS (hvg.1 h0);simp only at this;obtain⟨r,hr,hr2⟩:=f65_tot c n op (by omega) (by omega) (by omega);rw[if_neg (by simpa using h0),hr,aC,aO (by omega)];exact⟨0,rfl,by rw[←hvg];simp[h0]⟩
 ·rw[if_pos (by simpa using h0)];exact⟨v,rfl,hvg⟩
theorem f83_hit (p:List Pr) (A C:List Ss) (c n:Int) (r:List UInt8) (hlen:(A++(c,n,r)::C).length≤1000000) (hA:∀a,a∈A→a.1<c) (hC:∀b,b∈C→c<b.1):f83 p (A++(c,n,r)::C) c=some (c,n,r,true):=by
 have hla:(A++(c,n,r)::C).length=A.length+C.length+1:=by simp;omega
 unfold f83;rw[bV]
 rcases rY (fun q i => fD (A ++ (c, n, r) :: C) c (fun _ => some (0, 0, [], false)) q i) (A ++ (c, n, r) :: C) (default : Ss) (fun x => x.1 == c) (fun i => some ((((A ++ (c, n, r) :: C).getD i (default : Ss)).1), (((A ++ (c, n, r) :: C).getD i (default : Ss)).2.1), (((A ++ (c, n, r) :: C).getD i (default : Ss)).2.2), true)) (some (0, 0, [], false)) (fun q i hi=>by
   show fD _ _ _ (q+1) i=_
   conv=>lhs;unfold fD
   rw [aR (by omega), aA (by omega), aA (by omega), aA (by omega)]) (fun q=>by
   show fD _ _ _ (q+1) _=_
   conv=>lhs;unfold fD
   rw[aO (by omega)]) (A++(c,n,r)::C).length bG 0 (by omega) (fuel_lt (by omega))with⟨m,h1,h2,h3,h4,h5⟩|⟨h4,h5⟩
 ·rw[h4]
  have hm:m=A.length:=by
   rw[iD]at h3;by_cases e:m<A.length
   ·rw[if_pos e]at h3;have:=hA _ (bU A m (default:Ss) e);have h6:(A.getD m (default:Ss)).1=c:=beq_iff_eq.1 h3;omega
   ·rw[if_neg e]at h3;by_cases e2:m=A.length
    ·exact e2
    ·obtain⟨z,hz⟩:∃z,m-A.length=z+1:=⟨m-A.length-1,by omega⟩;rw[hz,List.getD_cons_succ]at h3;have:=hC _ (bU C z (default:Ss) (by omega));have h6:(C.getD z (default:Ss)).1=c:=beq_iff_eq.1 h3;omega
  rw[hm,getS_at]
 ·exfalso;rw[List.drop_zero]at h5;have:=List.any_eq_false.1 h5 (c,n,r) (by simp);simp at this
theorem zS (p:List Pr) (l:List Ss) (c:Int) (hlen:l.length≤1000000) (h:∀a,a∈l→(a.1==c)=false):f83 p l c=some (0,0,[],false):=by
 unfold f83
 rw [bV, aAB (fun q i => fD l c (fun _ => some (0, 0, [], false)) q i) l (default : Ss) (fun _ => false) none (some (0, 0, [], false)) (fun q i hi=>by
   show fD _ _ _ (q+1) i=_
   conv=>lhs;unfold fD
   rw [aR (by omega), aA (by omega), h _ (bU _ _ _ hi), if_neg (by simp), aA (by omega), if_neg (by simp)]) (fun q=>by
   show fD _ _ _ (q+1) _=_
   conv=>lhs;unfold fD
   rw[aO (by omega)]) bG (fuel_lt (by omega))]
 simp
abbrev RApp :=Option (List Pr×List Ss×List UInt8)
theorem f62_L0_eq (x:List Ss) (c:Int) (K:List Ss→RApp) (hl:x.length≤1000) (F:Nat) (hF:x.length<F):kX x c K F (0,[])=K (x.foldl (fun s a=>if a.1<c then s++[a]else s) []):=by
 have := rW (kX x c K) x default (fun n s => s.length ≤ n) (fun s a => if a.1 < c then s ++ [a] else s) K (fun k n s hn hi=>by
  conv=>lhs;unfold kX
  rw[aR (by omega),bV,aA (by omega)];by_cases h:(x.getD n (default:Ss)).1<c
  ·rw[aR h,if_pos h,aA (by omega),aA (by omega)];simp only[];rw[aA (by omega)]
  ·rw[aO h,if_neg h];simp only[]
   rw [aA (by omega)]) (fun n s hn hi=>by
  split
  ·simp;omega
  ·omega) (fun k s _=>by
  conv=>lhs;unfold kX
  rw[aO (by omega)]) x.length F 0 [] (by omega) hF (Nat.le_refl _)
 rw[List.drop_zero]at this;exact this
theorem f62_L1_eq (x:List Ss) (c:Int) (K:List Ss→RApp) (hl:x.length≤1000) (s0:List Ss) (hs:s0.length≤1000) (F:Nat) (hF:x.length<F):kW x c K F (0,s0)=K (x.foldl (fun s a=>if a.1>c then s++[a]else s) s0):=by
 have := rW (kW x c K) x default (fun n s => s.length ≤ n + 1000) (fun s a => if a.1 > c then s ++ [a] else s) K (fun k n s hn hi=>by
  conv=>lhs;unfold kW
  rw[aR (by omega),bV,aA (by omega)];by_cases h:(x.getD n (default:Ss)).1>c
  ·rw[aR h,if_pos h,aA (by omega),aA (by omega)];simp only[];rw[aA (by omega)]
  ·rw[aO h,if_neg h];simp only[]
   rw [aA (by omega)]) (fun n s hn hi=>by
  split
  ·simp;omega
  ·omega) (fun k s _=>by
  conv=>lhs;unfold kW
  rw[aO (by omega)]) x.length F 0 s0 (by omega) hF (by omega)
 rw[List.drop_zero]at this;exact this
theorem rX (p:Ss→Prop) [DecidablePred p]:∀(A s:List Ss),(∀a,a∈A→p a)→A.foldl (fun s a=>if p a then s++[a]else s) s=s++A
 |[],s,_=>by simp
 |a::A,s,h=>by
  rw[List.foldl_cons,if_pos (h a (List.mem_cons_self ..)),rX p A _ fun x hx=>h x (List.mem_cons_of_mem _ hx)]
  simp
theorem jS (p:Ss→Prop) [DecidablePred p]:∀(A s:List Ss),(∀a,a∈A→¬p a)→A.foldl (fun s a=>if p a then s++[a]else s) s=s
 |[],s,_=>rfl
 |a::A,s,h=>by
  rw[List.foldl_cons,if_neg (h a (List.mem_cons_self ..)),jS p A _ fun x hx=>h x (List.mem_cons_of_mem _ hx)]
theorem spec_ses (A C mid:List Ss) (c n:Int) (s:List UInt8) (hmid:∀a,a∈mid→a.1=c) (hA:∀a,a∈A→a.1<c) (hC:∀b,b∈C→c<b.1):
  ((A++mid++C).foldl (fun s a=>if a.1>c then s++[a]else s) (((A++mid++C).foldl (fun s a=>if a.1<c then s++[a]else s) [])++[(c,n,s)]))=A++(c,n,s)::C:=by
 have e1:(A++mid++C).foldl (fun s a=>if a.1<c then s++[a]else s) []=A:=by
  rw[List.foldl_append,List.foldl_append,rX (fun a:Ss=>a.1<c) A [] hA,jS (fun a:Ss=>a.1<c) mid _ (fun a ha=>by have:=hmid a ha;omega),jS (fun a:Ss=>a.1<c) C _ (fun a ha=>by have:=hC a ha;omega)];simp
 rw[e1,List.foldl_append,List.foldl_append,jS (fun a:Ss=>a.1>c) A _ (fun a ha=>by have:=hA a ha;omega),jS (fun a:Ss=>a.1>c) mid _ (fun a ha=>by have:=hmid a ha;omega),rX (fun a:Ss=>a.1>c) C _ (fun a ha=>by have:=hC a ha;omega)];simp
theorem pars_both (l1:List Pr) (op:List UInt8) (hop:op.length≤200) (hst:StV l1):∃s l1',StV l1'∧
  (∀ K : List UInt8 × List Pr → RApp, ((f152 op).bind fun(r8:Tq8)=>
   if(r8.2.2.2.2==(0:Int))=true then(aBb l1 r8.1 r8.2.1 r8.2.2.1 r8.2.2.2.1).bind fun(r9:List Pr×List UInt8)=>K (r9.2,r9.1)else K (cs5,l1))=K (s,l1'))∧
  (∀ K : List UInt8 × List Pr → RApp, ((f84 op).bind fun(r8:Tq8)=>
   if(r8.2.2.2.2==(0:Int))=true then(f85 l1 r8.1 r8.2.1 r8.2.2.1 r8.2.2.2.1).bind fun(r9:List UInt8×List Pr)=>K (r9.1,r9.2)else K (cs5,l1))=K (s,l1')):=by
 obtain⟨k,a,b,d,e,hp,hp2,ha,hb,hd⟩:=qD op (by omega);obtain⟨l',hx⟩:=exec l1 k a b d hst (by omega) (by omega) (by omega);rw[hp,hp2];cases he:e==0
 ·refine⟨cs5,l1,hst,fun K=> ?_,fun K=> ?_⟩
  ·show(if(e==0)=true then(aBb l1 k a b d).bind (fun r9=>K (r9.2,r9.1))else K (cs5,l1))=_;rw[he];rfl
  ·show(if(e==0)=true then(f85 l1 k a b d).bind (fun r9=>K (r9.1,r9.2))else K (cs5,l1))=_;rw[he];rfl
 ·refine⟨(R (ent l1 a) l1.length k a b d).1,l',hx.ok,fun K=> ?_,fun K=> ?_⟩
  ·show(if(e==0)=true then(aBb l1 k a b d).bind (fun r9=>K (r9.2,r9.1))else K (cs5,l1))=_;rw[he,if_pos rfl,hx.prog];rfl
  ·show(if(e==0)=true then(f85 l1 k a b d).bind (fun r9=>K (r9.1,r9.2))else K (cs5,l1))=_;rw[he,if_pos rfl,hx.spec];rfl
theorem yU (l1:List Pr) (l2:List Ss) (c n:Int) (op:List UInt8) (hg:jZ (c,n,op)=false):f62 l1 l2 c n op=some (l1,l2,cs3):=by
 obtain⟨v,hv,hvg⟩:=f64_eq c n op;have h0:v≠0:=fun h=>Bool.noConfusion (hg.symm.trans (hvg.1 h));unfold f62;rw[hv,aC,if_pos (by simpa using h0)]
theorem kH (l1:List Pr) (l2 A mid C:List Ss) (c n:Int) (op:List UInt8) (hg:jZ (c,n,op)=true) (hl2:l2=A++mid++C) (hl6:l2.length≤6) (hmid:∀a,a∈mid→a.1=c) (hA:∀a,a∈A→a.1<c) (hC:∀b,b∈C→c<b.1)
  (x n':Int) (r':List UInt8) (has:Bool) (hf:f83 l1 l2 c=some (x,n',r',has)) (s:List UInt8) (l1':List Pr)
  (hK : ∀ K : List UInt8 × List Pr → RApp, ((f84 op).bind fun(r8:Tq8)=>
   if(r8.2.2.2.2==(0:Int))=true then(f85 l1 r8.1 r8.2.1 r8.2.2.1 r8.2.2.2.1).bind fun(r9:List UInt8×List Pr)=>K (r9.1,r9.2)else K (cs5,l1))=K (s,l1')):
  f62 l1 l2 c n op=if(has&&decide (n'>n))=true then some (l1,l2,cs4)else if(has&&(n'==n))=true then some (l1,l2,r')else some (l1',A++(c,n,s)::C,s):=by
 obtain⟨v,hv,hvg⟩:=f64_eq c n op;have h0:v=0:=hvg.2 hg;subst h0;unfold f62;have hF:1000<bG:=fuel_lt (by omega);generalize bG=F at hF;rw[hv,aC,if_neg (by simp),hf,aC];simp only[];split
 ·rfl
 split
 ·rfl
 have hj : ∀ (J : List UInt8 × List Pr → RApp), ((f84 op).bind fun(r8:Tq8)=>jn J fun K1=>
   if(r8.2.2.2.2==(0:Int))=true then(f85 l1 r8.1 r8.2.1 r8.2.2.1 r8.2.2.2.1).bind fun(r9:List UInt8×List Pr)=>K1 (r9.1,r9.2)else K1 (cs5,l1))=J (s,l1'):=hK
 rw[hj];simp only[];rw[bV,f62_L0_eq l2 c _ (by omega) F (by omega)]
 have hle:((l2.foldl (fun s a=>if a.1<c then s++[a]else s) []).length)≤6:=by
  rw[hl2,List.foldl_append,List.foldl_append,rX (fun a:Ss=>a.1<c) A [] hA,jS (fun a:Ss=>a.1<c) mid _ (fun a ha=>by have:=hmid a ha;omega),jS (fun a:Ss=>a.1<c) C _ (fun a ha=>by have:=hC a ha;omega)];rw[hl2,List.length_append,List.length_append]at hl6;simp;omega
 rw[aA (by omega),bV,f62_L1_eq l2 c _ (by omega) _ (by simp;omega) F (by omega),hl2,spec_ses A C mid c n s hmid hA hC]
theorem rE (m:Mc) (q:Ss) (hm:McV m):∃m' s,f123 m.1 m.2 q.1 q.2.1 q.2.2=some (m'.1,m'.2,s)∧f62 m.1 m.2 q.1 q.2.1 q.2.2=some (m'.1,m'.2,s)∧Ap m q m':=by
 obtain⟨l1,l2⟩:=m;obtain⟨c,n,op⟩:=q;obtain⟨hst,hse⟩:=hm;simp only at hst hse⊢
 have hgd:(((!((((decide (c≥0))&&(decide (c<6)))&&(decide (n≥1)))&&(decide (n≤1000000))))||(op==[]))||decide (((op.length:Nat):Int)>200))= !jZ (c,n,op):=by
  unfold jZ;simp only
  have e:decide (((op.length:Nat):Int)>200)= !decide (((op.length:Nat):Int)≤200):=by
   by_cases h:((op.length:Nat):Int)≤200
   ·simp[h]<;>omega
   ·simp[h]<;>omega
  rw[e];cases(((decide (c≥0))&&(decide (c<6)))&&(decide (n≥1)))&&(decide (n≤1000000))<;>cases op==[]<;>cases decide (((op.length:Nat):Int)≤200)<;>rfl
 unfold f123 f150;rw[aC,hgd];cases hg:jZ (c,n,op)
 ·refine⟨(l1,l2),cs3,by simp,yU l1 l2 c n op hg,⟨⟨hst,hse⟩,fun _=>rfl,fun h=>Bool.noConfusion (hg.symm.trans h),fun h=>Bool.noConfusion (hg.symm.trans h),fun _=>Int.le_refl _⟩⟩
 obtain⟨c0,c6,n1,n2,hop⟩:=fS hg;simp only at c0 c6 n1 n2 hop;have hl6:=hse.len;rw[if_neg (by simp)];obtain⟨s,l1',hv',hK,hK2⟩:=pars_both l1 op hop hst;simp only[hK]
 cases sview l2 c hse.srt with
 |hit A C n' r' e hA hC=>
  subst e
  have hf := f151_eq A ((c, n', r') :: C) c ⟨c0, c6⟩ hse.rng (by omega) hA (fun b hb=>by
   rcases List.mem_cons.1 hb with rfl|hb
   ·simp
   ·have:=hC b hb;omega)
  have hf':f151 (A++(c,n',r')::C) c=some ((A.length:Int),true):=by rw[hf];simp
  have hla:(A++(c,n',r')::C).length=A.length+C.length+1:=by simp;omega
  have hnum:=oA (n:=n') (r:=r') (C:=C) hA;have hsp:=kH l1 (A++(c,n',r')::C) A [(c,n',r')] C c n op hg (by simp) hl6 (fun a ha=>by rw[List.mem_singleton.1 ha]) hA hC c n' r' true (f83_hit l1 A C c n' r' (by omega) hA hC) s l1' hK2;simp only[Bool.true_and]at hsp;rw[hf',aC];simp only[Int.toNat_natCast,getS_at,Bool.true_and];rw[aA (fun _=>by rw[hla];omega)];by_cases h1:n'>n
  ·rw[aR h1];rw[aR h1]at hsp;exact⟨(l1,A++(c,n',r')::C),_,rfl,hsp,⟨⟨hst,hse⟩,fun _=>rfl,fun _ _=>rfl,fun _=>(by simp only;rw[hnum];omega),fun _=>Int.le_refl _⟩⟩
  rw[aO h1,aA (fun _=>by rw[hla];omega)];rw[aO h1]at hsp;by_cases h2:n'=n
  ·have e2:(n'==n)=true:=by simp[h2]
   rw[e2,if_pos rfl,aA (by rw[hla];omega)];rw[e2,if_pos rfl]at hsp;exact⟨(l1,A++(c,n',r')::C),_,rfl,hsp,⟨⟨hst,hse⟩,fun _=>rfl,fun _ _=>rfl,fun _=>(by simp only;rw[hnum];omega),fun _=>Int.le_refl _⟩⟩
  ·have e2:(n'==n)=false:=by simp[h2]
   rw[e2,if_neg (by simp),bV];rw[e2,if_neg (by simp)]at hsp;refine⟨(l1',A++(c,n,s)::C),s, ?_,hsp,⟨⟨hv',ses_set hse⟩,fun h=>Bool.noConfusion (hg.symm.trans h),fun _ h=>(by simp only at h;rw[hnum]at h;omega),fun _=>(by simp only;rw[oA hA];exact Int.le_refl _),fun c'=> ?_⟩⟩
   ·simp only[];rw[f154_eq _ (by omega),aC,bV,if_pos (by simp),aA (by rw[hla];omega),aA (by rw[hla];omega),setS_at]
   ·simp only;by_cases hc:c'=c
    ·rw[hc,hnum,oA hA];omega
    ·rw[nZ hc,nZ hc];exact Int.le_refl _
 |miss A C e hA hC=>
  subst e;have hf:=f151_eq A C c ⟨c0,c6⟩ hse.rng (by omega) hA (fun b hb=>by have:=hC b hb;omega)
  have hf':f151 (A++C) c=some ((A.length:Int),false):=by
   rw[hf]
   cases C with
   |nil=>simp
   |cons b C=>
    have:=hC b (List.mem_cons_self ..);have e:(b.1==c)=false:=by simp;omega
    simp[e]
  have hnum:=num_miss hA hC;have hsp:=kH l1 (A++C) A [] C c n op hg (by simp) hl6 (fun a ha=>(List.not_mem_nil ha).elim) hA hC 0 0 [] false (zS l1 (A++C) c (by omega) (fun a ha=>beq_eq_false_iff_ne.2 (by rcases List.mem_append.1 ha with ha|ha;have:=hA a ha;omega;have:=hC a ha;omega))) s l1' hK2;rw[Bool.false_and,Bool.false_and,if_neg (by simp),if_neg (by simp)]at hsp;rw[hf',aC];simp only[Bool.false_and,Bool.false_eq_true,if_false];rw[aA (fun h=>by cases h),aA (fun h=>by cases h),bV]
  have e16:f155 (A.length:Int) (A++C) [(c,n,s)]=some (A++(c,n,s)::C,[(c,n,s)]):=by
   unfold f155;by_cases hc:A.length<(A++C).length
   ·rw[if_pos ⟨by omega,by rw[Int.toNat_natCast];exact hc,by simp,by simp;simp at hl6;omega⟩,Int.toNat_natCast];simp
   ·have:C=[]:=by
     cases C with
     |nil=>rfl
     |cons b C=>simp at hc
    subst this;rw[if_neg (by rw[Int.toNat_natCast];omega)];unfold f155e;rw[List.append_nil,aA (by omega),if_neg (by simp),if_pos (by simp),aA (by simp;simp at hl6;omega)]
  refine⟨(l1',A++(c,n,s)::C),s, ?_,hsp,⟨⟨hv',ses_ins hse ⟨c0,c6⟩ hA hC⟩,fun h=>Bool.noConfusion (hg.symm.trans h),fun _ h=>(by simp only at h;rw[hnum]at h;omega),fun _=>(by simp only;rw[oA hA];exact Int.le_refl _),fun c'=> ?_⟩⟩
  ·simp only[];rw[f154_eq _ (by omega),aC,bV,e16,aC]
  ·simp only;by_cases hc:c'=c
   ·rw[hc,oA hA,hnum];omega
   ·rw[nZ hc];exact Int.le_refl _
def pH (m:Mc) (q:Ss):Mc:=let t:=(f62 m.1 m.2 q.1 q.2.1 q.2.2).getD ([],[],[]);(t.1,t.2.1)
theorem stpR_ex {m:Mc} (q:Ss) (hm:McV m):∃s,f123 m.1 m.2 q.1 q.2.1 q.2.2=some ((pH m q).1,(pH m q).2,s)∧f62 m.1 m.2 q.1 q.2.1 q.2.2=some ((pH m q).1,(pH m q).2,s)∧Ap m q (pH m q):=by
 obtain⟨m',s,h1,h2,ha⟩:=rE m q hm
 have e:pH m q=m':=by
  unfold pH;rw[h2];rfl
 rw[e];exact⟨s,h1,h2,ha⟩
open Go
theorem bits_u8 (x y:Int):0≤dI .and .u8 x y∧dI .and .u8 x y≤255:=by
 unfold dI;generalize((BitVec.ofInt IntKind.u8.bits x&&&BitVec.ofInt IntKind.u8.bits y).toNat:Int)=n;unfold IntKind.wrap;simp[IntKind.bits,IntKind.signed];omega
theorem bits_u64 (x y:Int):0≤dI .or .u64 x y∧dI .or .u64 x y≤18446744073709551615:=by
 unfold dI;generalize((BitVec.ofInt IntKind.u64.bits x|||BitVec.ofInt IntKind.u64.bits y).toNat:Int)=n;unfold IntKind.wrap;simp[IntKind.bits,IntKind.signed];omega
theorem or64 (a b:Nat) (ha:a<2^64) (hb:b<2^64):dI .or .u64 (a:Int) (b:Int)=((a|||b:Nat):Int):=by
 have h:(BitVec.ofInt IntKind.u64.bits (a:Int)|||BitVec.ofInt IntKind.u64.bits (b:Int)).toNat=a|||b:=by
  have e:IntKind.u64.bits=64:=rfl;rw[e,BitVec.toNat_or,BitVec.ofInt_natCast,BitVec.ofInt_natCast,BitVec.toNat_ofNat,BitVec.toNat_ofNat,Nat.mod_eq_of_lt ha,Nat.mod_eq_of_lt hb]
 unfold dI;simp only[h];have:=Nat.or_lt_two_pow ha hb;exact fR (k:= .u64) (show 0≤((a|||b:Nat):Int)∧((a|||b:Nat):Int)≤18446744073709551615 by omega)
theorem and127 :∀m:Fin 256,dI .and .u8 ((m.val:Nat):Int) 127=((m.val%128:Nat):Int):=by decide+kernel
def chk8 (c:Nat):Option Int→Bool
 |some r=>decide (c<2^r.toNat)&&decide (0≤r)&&decide (r≤8)
 |none=>false
theorem len8 :∀c:Fin 128,chk8 c.val (f192 ((c.val:Nat):Int))=true:=by decide+kernel
theorem len8' (c:Nat) (h:c<128):∃t:Nat,f192 (c:Int)=some (t:Int)∧c<2^t∧t≤8:=by
 have h1:=len8 ⟨c,h⟩;simp only at h1;generalize f192 ((c:Nat):Int)=q at h1
 cases q with
 |none=>cases h1
 |some r=>
  simp only[chk8,Bool.and_eq_true,decide_eq_true_eq]at h1;obtain⟨⟨h3,h4⟩,h5⟩:=h1;exact⟨r.toNat,by rw[Int.toNat_of_nonneg h4],h3,by omega⟩
theorem shl_ok (c t n:Nat) (hc:c<2^t) (h:t+7 *n≤64):c *2^(7 *n)<18446744073709551616:=by
 have h1:c *2^(7 *n)<2^t *2^(7 *n):=Nat.mul_lt_mul_of_pos_right hc (Nat.pow_pos (by decide));rw[←Nat.pow_add]at h1;have h2:2^(t+7 *n)≤2^64:=Nat.pow_le_pow_right (by decide) h;omega
theorem rU (x:List UInt8) (K:Unit→Option Tq6) (i:Int) (n k c:Nat) (hn:n<min x.length 10) (hx:x.length≤1000000) (hc:(x.getD n 0).toNat=c) (h8:c<128):
  ∃t:Nat,f192 (c:Int)=some (t:Int)∧dX x K (k+1) (i,n)=if 64<t+7 *n then some (0,0,7)else if c=0∧0<n then some (0,0,2)else some (dI .or .u64 i (((c *2^(7 *n):Nat):Int)),((n+1:Nat):Int),0):=by
 obtain⟨t,ht,h1,h2⟩:=len8' c h8;refine⟨t,ht, ?_⟩
 conv=>lhs;unfold dX
 rw[hc,aR (by omega),aA (by omega),aO (by omega),ht,aC,aA (by omega),aA (by omega)];by_cases h64:64<t+7 *n
 ·rw[aR (by omega),if_pos h64]
 ·rw[aO (by omega),if_neg h64];by_cases hz:c=0∧0<n
  ·rw[if_pos (by simp;omega),if_pos hz]
  ·rw[if_neg (by simp;omega),if_neg hz,aA (by omega),aA (by omega)];have hs:=shl_ok c t n h1 (by omega);have hb:IntKind.bits .u64=64:=rfl
   have e:((c:Int) *2^(7 *n))=((c *2^(7 *n):Nat):Int):=by
    rw[Int.natCast_mul,Int.natCast_pow];rfl
   rw[e,aA ⟨by omega,by omega,by omega⟩,aA (by omega)]
theorem zK (x:List UInt8) (K:Unit→Option Tq6) (i:Int) (n k c:Nat) (hn:n<min x.length 10) (hx:x.length≤1000000) (hc:(x.getD n 0).toNat=c) (h8:128≤c):
  dX x K (k+1) (i,n)=dX x K k (dI .or .u64 i (IntKind.wrap .u64 (dI .and .u8 (c:Int) 127 *2^min (7 *n) (IntKind.bits .u64))),n+1):=by
 have hb:=bits_u8 (c:Int) 127
 conv=>lhs;unfold dX
 rw[hc,aR (by omega),aA (by omega),aR (by omega),aA (by omega),aA (by omega),aA (by omega)]
theorem get_end (x:List UInt8) (K:Unit→Option Tq6) (i:Int) (n k:Nat) (hn:¬n<min x.length 10):dX x K (k+1) (i,n)=K ():=by
 conv=>lhs;unfold dX
 rw[aO (by omega)]
theorem mQ (x:List UInt8) (hx:x.length≤1000000) (K:Unit→Option Tq6) (hK:∃e,K ()=some (0,0,e)∧e≠0):∀(c k n:Nat) (i:Int),n+c=min x.length 10→c<k→
  ∃v j e,dX x K k (i,n)=some (v,j,e)∧(e=0→0≤v∧v≤18446744073709551615∧1≤j∧j≤(x.length:Int))
 |0,k,n,i,hn,hk=>by
  obtain⟨k,rfl⟩:∃z,k=z+1:=⟨k-1,by omega⟩
  obtain⟨e,he,h0⟩:=hK
  rw[get_end x K i n k (by omega),he]
  exact⟨0,0,e,rfl,fun h=>absurd h h0⟩
 |c+1,k,n,i,hn,hk=>by
  obtain⟨k,rfl⟩:∃z,k=z+1:=⟨k-1,by omega⟩
  by_cases h8:(x.getD n 0).toNat<128
  ·obtain⟨t,_,h⟩:=rU x K i n k _ (by omega) hx rfl h8
   rw[h]
   split
   ·exact⟨_,_,_,rfl,fun h=>by cases h⟩
   ·split
    ·exact⟨_,_,_,rfl,fun h=>by cases h⟩
    ·have:=bits_u64 i (((x.getD n 0).toNat *2^(7 *n):Nat):Int)
     exact⟨_,_,_,rfl,fun _=>⟨this.1,this.2,by omega,by omega⟩⟩
  ·rw[zK x K i n k _ (by omega) hx rfl (by omega)]
   exact mQ x hx K hK c k (n+1) _ (by omega) (by omega)
theorem vI (x:List UInt8) (hx:x.length≤1000000):∃v j e,f156 x=some (v,j,e)∧(e=0→0≤v∧v≤18446744073709551615∧1≤j∧j≤(x.length:Int)):=by
 unfold f156;rw[bV];refine mQ x hx _ ?_ (min x.length 10) bG 0 0 (by omega) (fuel_lt (by omega));by_cases h:x.length<10
 ·exact⟨9,by rw[aR (by omega)],by decide⟩
 ·exact⟨7,by rw[aO (by omega)],by decide⟩
theorem vH (n:Nat) (r:List UInt8) (hn:n<16384) (hx:(dJ n++r).length≤1000000):f156 (dJ n++r)=some ((n:Int),((dJ n).length:Int),0):=by
 obtain⟨k,hk⟩:∃k,bG=k+2:=⟨bG-2,by unfold bG;omega⟩;unfold f156;rw[bV,hk];by_cases h:n<128
 ·rw[eV h]at hx⊢;have e:([UInt8.ofNat n]++r).getD 0 0=UInt8.ofNat n:=rfl;have e2:(([UInt8.ofNat n]++r).getD 0 0).toNat=n:=by rw[e];simp[UInt8.toNat_ofNat'];omega
  obtain⟨t,ht,h1⟩:=rU ([UInt8.ofNat n]++r) (fun(_:Unit)=>if(decide (((([UInt8.ofNat n]++r).length:Nat):Int)<(10:Int)))then some ((0:Int),(0:Int),(9:Int))else some ((0:Int),(0:Int),(7:Int))) 0 0 (k+1) n (by simp;omega) hx e2 h;obtain⟨t',ht',_,h8⟩:=len8' n h;rw[ht]at ht';cases ht';rw[h1,if_neg (by omega),if_neg (by omega)];have:=or64 0 n (by omega) (by omega);rw[Nat.zero_or]at this;simpa using this
 ·rw[lD h,eV (show n/128<128 by omega)]at hx⊢;generalize hy:UInt8.ofNat (n%128+128)::[UInt8.ofNat (n/128)]++r=y at hx⊢;have e0:(y.getD 0 0).toNat=n%128+128:=by rw[←hy];simp[UInt8.toNat_ofNat'];omega
  have e1:(y.getD 1 0).toNat=n/128:=by rw[←hy];simp[UInt8.toNat_ofNat'];omega
  have hl:2≤y.length:=by rw[←hy];simp
  rw[zK y _ 0 0 (k+1) _ (by omega) hx e0 (by omega)];have ea:=and127 ⟨n%128+128,by omega⟩;simp only at ea;rw[ea];have em:(n%128+128)%128=n%128:=by omega
  have ew:IntKind.wrap .u64 (((n%128+128)%128:Nat) *2^min (7 *0) (IntKind.bits .u64))=((n%128:Nat):Int):=by
   rw[em];have:((2:Int)^min (7 *0) (IntKind.bits .u64))=1:=rfl;rw[this,Int.mul_one];exact fR (k:= .u64) (show 0≤((n%128:Nat):Int)∧((n%128:Nat):Int)≤18446744073709551615 by omega)
  rw[ew];have eo:=or64 0 (n%128) (by omega) (by omega);rw[Nat.zero_or]at eo;have eo':dI .or .u64 0 ((n%128:Nat):Int)=((n%128:Nat):Int):=eo;rw[eo'];obtain⟨t',ht',_,h8⟩:=len8' (n/128) (by omega);obtain⟨t,ht,h1⟩:=rU y (fun(_:Unit)=>if(decide (((y.length:Nat):Int)<(10:Int)))then some ((0:Int),(0:Int),(9:Int))else some ((0:Int),(0:Int),(7:Int))) ((n%128:Nat):Int) 1 k (n/128) (by omega) hx e1 (by omega);rw[ht]at ht';cases ht';rw[h1,if_neg (by omega),if_neg (by omega)];have e3:=or64 (n%128) (n/128 *2^(7 *1)) (by omega) (by omega)
  have e4:(n%128|||n/128 *2^(7 *1))=n:=by
   have:=Nat.two_pow_add_eq_or_of_lt (i:=7) (b:=n%128) (by omega) (n/128);rw[Nat.or_comm,show n/128 *2^(7 *1)=2^7 *(n/128) by omega,←this];omega
  rw[e3,e4];rfl
theorem f126_some (x:List UInt8) (hx:x.length≤1000000):∃s j e,f126 x=some (s,j,e)∧(e=0→1≤j∧j≤(x.length:Int)∧s.length≤x.length):=by
 obtain⟨v,j,e,h,hb⟩:=vI x hx;unfold f126;rw[h,aC];by_cases he:e=0
 ·subst he;obtain⟨h1,h2,h3,h4⟩:=hb rfl;rw[if_neg (by simp)];dsimp only;rw[aA (by omega),aA (by omega)];by_cases hv:v>(x.length:Int)-j
  ·rw[aR hv];exact⟨_,_,_,rfl,fun h=>by cases h⟩
  ·rw[aO hv,aA (by omega),aA (by omega),aA (by omega)];refine⟨_,_,_,rfl,fun _=>⟨by omega,by omega, ?_⟩⟩;simp only[List.length_drop,List.length_take];omega
 ·rw[if_pos (by simpa using he)];exact⟨_,_,_,rfl,fun h=>absurd h he⟩
def item (s:List UInt8):List UInt8:=dJ s.length++s
theorem f126_item (s r:List UInt8) (hs:s.length<16384) (hx:(item s++r).length≤1000000):f126 (item s++r)=some (s,((item s).length:Int),0):=by
 unfold item at hx⊢;rw[List.append_assoc]at hx⊢;unfold f126;rw[vH s.length (s++r) hs hx,aC];have hl:(dJ s.length++(s++r)).length=(dJ s.length).length+(s.length+r.length):=by simp
 have hl2:(dJ s.length++s).length=(dJ s.length).length+s.length:=by simp
 rw[if_neg (by simp)];dsimp only;rw[aA (by omega),aA (by omega),aO (by omega),aA (by omega),aA (by omega),aA (by omega)];have e:((dJ s.length).length:Int)+(s.length:Int)=(((dJ s.length).length+s.length:Nat):Int):=by omega
 rw[e,Int.toNat_natCast,Int.toNat_natCast,←List.append_assoc,←hl2,List.take_left,List.drop_left]
def fL (L:List Ty0):List UInt8:=(L.map item).flatten
theorem gH (L:List Ty0):cQ L=dJ L.length++fL L:=rfl
theorem cK (s:List UInt8) (L:List Ty0):fL (s::L)=item s++fL L:=rfl
theorem vP (x:List UInt8) (hx:x.length≤1000000) (r2:Tq6) (K:Int×List Ty0→Option (Int×Int×List Ty0)) (hK:∀i l,∃j e l',K (i,l)=some (j,e,l')∧l'=l):
  ∀(c k i n:Nat) (l:List Ty0),i+c=x.length→c<k→n≤i→l.length=n→(∀s,s∈l→s.length≤x.length)→∃j e l',eH x r2 K k ((i:Int),n,l)=some (j,e,l')∧(∀s,s∈l'→s.length≤x.length)∧l'.length≤x.length:=by
 intro c
 induction c using Nat.strongRecOn with
 |ind c ih=>
  intro k i n l hi hk hn hl hs;obtain⟨k,rfl⟩:∃z,k=z+1:=⟨k-1,by omega⟩;by_cases hr:(n:Int)<r2.1
  ·obtain⟨s,j,e,h,hb⟩:=f126_some (x.drop i) (by rw[List.length_drop];omega);rw[List.length_drop]at hb
   have hu:eH x r2 K (k+1) ((i:Int),n,l)=if(e !=0)=true then some (0,e,[])else chk ((l.length+1) *16≤140737488355328) (chk (-9223372036854775808≤(i:Int)+j∧(i:Int)+j≤9223372036854775807) (chk ((n:Int)+1≤18446744073709551615) (eH x r2 K k ((i:Int)+j,n+1,l++[s])))):=by
    conv=>lhs;unfold eH
    rw[aR hr,Int.toNat_natCast,h,aC,aA (by omega)]
   rw[hu];by_cases he:e=0
   ·subst he;obtain⟨h1,h2,h3⟩:=hb rfl;rw[if_neg (by simp),aA (by omega),aA (by omega),aA (by omega)];obtain⟨m,rfl⟩:∃m:Nat,j=m:=⟨j.toNat,by omega⟩
    have := ih (c - m) (by omega) k (i + m) (n + 1) (l ++ [s]) (by omega) (by omega) (by omega) (by simp [hl]) (fun t ht=>by
     rcases List.mem_append.1 ht with ht|ht
     ·exact hs t ht
     ·simp only[List.mem_singleton]at ht;subst ht;omega)
    simpa using this
   ·rw[if_pos (by simpa using he)];exact⟨_,_,_,rfl,by simp,by simp⟩
  ·obtain⟨j,e,l',h,rfl⟩:=hK i l;refine⟨j,e,l', ?_,hs,by omega⟩
   conv=>lhs;unfold eH
   rw[aO hr];exact h
theorem f96_some (x:List UInt8) (hx:x.length≤1000000):∃j e l,f96 x=some (j,e,l)∧(∀s,s∈l→s.length≤x.length)∧l.length≤x.length:=by
 obtain⟨v,j,e,h,hb⟩:=vI x hx
 have h119:∃j e l,f125 x=some (j,e,l)∧(∀s,s∈l→s.length≤x.length)∧l.length≤x.length:=by
  unfold f125;rw[h,aC];by_cases he:e=0
  ·subst he;obtain⟨h1,h2,h3,h4⟩:=hb rfl;rw[if_neg (by simp),bV];obtain⟨m,rfl⟩:∃m:Nat,j=m:=⟨j.toNat,by omega⟩;exact vP x hx _ _ (fun i l=>⟨i,0,l,rfl,rfl⟩) (x.length-m) bG m 0 [] (by omega) (fuel_lt (by omega)) (by omega) rfl (by simp)
  ·rw[if_pos (by simpa using he)];exact⟨_,_,_,rfl,by simp,by simp⟩
 obtain⟨j,e,l,h,hs⟩:=h119;unfold f96;rw[h];exact⟨j,e,l,rfl,hs⟩
theorem rG (n:Nat):1≤(dJ n).length:=by
 rw[dJ];split<;>simp
theorem item_pos (s:List UInt8):1≤(item s).length:=by
 unfold item;have:=rG s.length;rw[List.length_append];omega
theorem kZ (x:List UInt8) (hx:x.length≤1000000) (r2:Tq6) (K:Int×List Ty0→Option (Int×Int×List Ty0)) (L:List Ty0) (hr:r2.1=(L.length:Int)):
  ∀(M:List Ty0) (A:List UInt8) (D:List Ty0) (k:Nat),(∀s,s∈M→s.length<16384)→x=A++fL M→L=D++M→D.length≤A.length→M.length<k→eH x r2 K k ((A.length:Int),D.length,D)=K ((x.length:Int),L)
 |[],A,D,k,_,hxe,hL,_,hk=>by
  obtain⟨k,rfl⟩:∃z,k=z+1:=⟨k-1,by omega⟩
  have e1:x.length=A.length:=by rw[hxe];simp[fL]
  have e2:L=D:=by rw[hL];simp
  conv=>lhs;unfold eH
  rw[aO (by rw[hr,e2];omega),e1,e2]
 |s::M,A,D,k,hM,hxe,hL,hD,hk=>by
  obtain⟨k,rfl⟩:∃z,k=z+1:=⟨k-1,by omega⟩
  simp only[List.length_cons]at hk
  have hl:L.length=D.length+(M.length+1):=by rw[hL];simp
  have e1:x.drop A.length=item s++fL M:=by rw[hxe,List.drop_left,cK]
  have hxl:x.length=A.length+((item s).length+(fL M).length):=by rw[hxe,cK];simp
  have h:=f126_item s (fL M) (hM s (List.mem_cons_self ..)) (by rw[←e1,List.length_drop];omega)
  have hp:=item_pos s
  have ih := kZ x hx r2 K L hr M (A ++ item s) (D ++ [s]) k (fun t ht => hM t (List.mem_cons_of_mem _ ht)) (by rw [hxe, cK]; simp) (by rw [hL]; simp) (by
   simp only[List.length_append,List.length_singleton]
   omega) (by omega)
  conv=>lhs;unfold eH
  rw[aR (by rw[hr];omega),Int.toNat_natCast,e1,h,aC,aA (by omega),if_neg (by simp)]
  dsimp only
  rw[aA (by omega),aA (by omega),aA (by omega),←ih]
  simp
theorem f96_plist (L:List Ty0) (hL:L.length<16384) (hs:∀s,s∈L→s.length<16384) (hx:(cQ L).length≤1000000):f96 (cQ L)=some (((cQ L).length:Int),0,L):=by
 have h119:f125 (cQ L)=some (((cQ L).length:Int),0,L):=by
  unfold f125;rw[gH]at hx⊢;rw[vH L.length (fL L) hL hx,aC,if_neg (by simp),bV];exact kZ (dJ L.length++fL L) hx ((L.length:Int),((dJ L.length).length:Int),0) _ L rfl L (dJ L.length) [] bG hs rfl rfl (Nat.zero_le _) (fuel_lt (by omega))
 unfold f96;rw[h119];rfl
open Go
abbrev Ent :=Int×Int×List Ss×Int
def errE :Ent:=((0:Int),(0:Int),[],(2:Int))
def mW :List UInt8:=[106,111,105,110]
def flt (l:List Ss):List Ty0:=l.flatMap fun q=>[Lib.itoa q.1,Lib.itoa q.2.1,q.2.2]
def strs (k c:Int) (l:List Ss):List Ty0:=if k=2 then[mW,Lib.itoa c]else if k=3 then[cs1]else cs2::flt l
def wK (l:List Ss) (i:Nat):Bool:=jZ (l.getD i default)&& !((l.take i).any fun p=>p.1==(l.getD i default).1&&p.2.1==(l.getD i default).2.1)
def okRs (l:List Ss):Prop:=∀i,i<l.length→wK l i=true
def okE (k c:Int) (l:List Ss):Prop:=(k=1∧c=0∧l.length≤8∧okRs l)∨(k=2∧0≤c∧c<6∧l=[])∨(k=3∧c=0∧l=[])
theorem zJ (c n:Int) (op:List UInt8):jZ (c,n,op)=true↔(0≤c∧c<6∧1≤n∧n≤1000000∧op≠[]∧op.length≤200):=by
 unfold jZ;simp only[Bool.and_eq_true,decide_eq_true_eq,Bool.not_eq_true',beq_eq_false_iff_ne];constructor
 ·rintro⟨⟨⟨⟨⟨h1,h2⟩,h3⟩,h4⟩,h5⟩,h6⟩;exact⟨h1,h2,h3,h4,h5,by omega⟩
 ·rintro⟨h1,h2,h3,h4,h5,h6⟩;exact⟨⟨⟨⟨⟨h1,h2⟩,h3⟩,h4⟩,h5⟩,by omega⟩
theorem iZ {l:List Ss} (h:okRs l):∀q,q∈l→jZ q=true:=by
 intro q hq;obtain⟨i,hi,rfl⟩:=List.mem_iff_getElem.1 hq;have:=h i hi;unfold wK at this;simp only[Bool.and_eq_true]at this;have e:l.getD i default=l[i]:=by simp[List.getD_eq_getElem?_getD,hi]
 rw[e]at this;exact this.1
theorem jR (l:List Ss):(flt l).length=3 *l.length:=by
 unfold flt
 induction l with
 |nil=>rfl
 |cons a l ih=>simp[ih];omega
theorem nH (q:Ss) (l:List Ss):flt (q::l)=Lib.itoa q.1::Lib.itoa q.2.1::q.2.2::flt l:=rfl
theorem itoa1 (n:Int) (h0:0≤n) (h1:n<10):(Lib.itoa n).length=1:=by
 rw[Lib.itoa,if_neg (by omega),Lib.decDigits,dif_pos (by omega)];rfl
theorem flt_small {l:List Ss} (h:∀q,q∈l→jZ q=true):∀s,s∈flt l→s.length≤200:=by
 intro s hs;unfold flt at hs;obtain⟨q,hq,hs⟩:=List.mem_flatMap.1 hs;have hg:=fS (h q hq);simp only[List.mem_cons,List.not_mem_nil,or_false]at hs;rcases hs with rfl|rfl|rfl
 ·have:=itoa1 q.1 (by omega) (by omega);omega
 ·have:=oG q.2.1 (by omega) (by omega);omega
 ·omega
theorem iU {k c:Int} {l:List Ss} (h:okE k c l):(∀s,s∈strs k c l→s.length≤200)∧(strs k c l).length≤25∧0<(strs k c l).length:=by
 rcases h with⟨rfl,rfl,h1,h2⟩|⟨rfl,h1,h2,rfl⟩|⟨rfl,rfl,rfl⟩
 ·rw[strs,if_neg (by decide),if_neg (by decide)];refine⟨fun s hs=> ?_,by rw[List.length_cons,jR];omega,by simp⟩;rcases List.mem_cons.1 hs with rfl|hs
  ·decide
  ·exact flt_small (iZ h2) s hs
 ·rw[strs,if_pos rfl];refine⟨fun s hs=> ?_,by simp,by simp⟩;simp only[List.mem_cons,List.not_mem_nil,or_false]at hs;rcases hs with rfl|rfl
  ·decide
  ·have:=itoa1 c (by omega) (by omega);omega
 ·rw[strs,if_neg (by decide),if_pos rfl];exact⟨fun s hs=>by simp only[List.mem_singleton]at hs;subst hs;decide,by simp,by simp⟩
theorem items_len (L:List Ty0) (b:Nat) (hb:b<16384) (h:∀s,s∈L→s.length≤b):(fL L).length≤L.length *(b+2):=by
 induction L with
 |nil=>simp[fL]
 |cons s L ih=>
  have h1:=ih fun t ht=>h t (List.mem_cons_of_mem _ ht);have h2:=h s (List.mem_cons_self ..);have h3:=dL 1 s.length (by omega);rw[cK,List.length_append,item,List.length_append,List.length_cons,Nat.add_mul];omega
theorem nW (L:List Ty0) (b:Nat) (hb:b<16384) (hl:L.length<16384) (h:∀s,s∈L→s.length≤b):(cQ L).length≤2+L.length *(b+2):=by
 have h1:=items_len L b hb h;have h2:=dL 1 L.length (by omega);rw[gH,List.length_append];omega
theorem flt_items {l:List Ss} (h:∀q,q∈l→jZ q=true):(fL (flt l)).length≤l.length *212:=by
 induction l with
 |nil=>simp[fL,flt]
 |cons q l ih=>
  have h1:=ih fun t ht=>h t (List.mem_cons_of_mem _ ht);have hg:=fS (h q (List.mem_cons_self ..));have a1:=itoa1 q.1 (by omega) (by omega);have a2:=oG q.2.1 (by omega) (by omega);have v1:=dL 0 (Lib.itoa q.1).length (by omega);have v2:=dL 0 (Lib.itoa q.2.1).length (by omega);have v3:=dL 1 q.2.2.length (by omega);rw[nH,cK,cK,cK];simp only[List.length_append,item,List.length_cons];omega
theorem rH {k c:Int} {l:List Ss} (h:okE k c l):(cQ (strs k c l)).length≤2000:=by
 rcases h with⟨rfl,rfl,h1,h2⟩|⟨rfl,h1,h2,rfl⟩|⟨rfl,rfl,rfl⟩
 ·rw[strs,if_neg (by decide),if_neg (by decide),gH,cK];have:=flt_items (iZ h2);have hl:(cs2::flt l).length=1+3 *l.length:=by rw[List.length_cons,jR];omega
  have v:=dL 0 (cs2::flt l).length (by omega)
  have e:(item cs2).length=6:=by
   have:cs2.length=5:=rfl;rw[item,List.length_append,this,eV (by decide)];rfl
  simp only[List.length_append];omega
 ·rw[strs,if_pos rfl]
  have := nW [mW, Lib.itoa c] 200 (by omega) (by simp) (fun s hs=>by
   simp only[List.mem_cons,List.not_mem_nil,or_false]at hs;rcases hs with rfl|rfl
   ·decide
   ·have:=itoa1 c (by omega) (by omega);omega)
  simp only[List.length_cons,List.length_nil]at this;omega
 ·rw[strs,if_neg (by decide),if_pos rfl];have:=nW [cs1] 200 (by omega) (by simp) (fun s hs=>by simp only[List.mem_singleton]at hs;subst hs;decide);simp only[List.length_cons,List.length_nil]at this;omega
theorem qZ (x:List Ss) (hl:x.length≤1000000) (c m:Int) (s:List UInt8) (K:Int×Int×List UInt8→Option (Int×Int×Int×List UInt8)):∀(d k n:Nat),n+d=x.length→d<k→
  ((x.drop n).any (fun p=>p.1==c&&p.2.1==m)=true→∃i:Nat,fJ x K k (n,c,m,s)=some ((i:Int),c,m,s))∧((x.drop n).any (fun p=>p.1==c&&p.2.1==m)=false→fJ x K k (n,c,m,s)=K (c,m,s))
 |0,k,n,hn,hk=>by
  obtain⟨k,rfl⟩:∃z,k=z+1:=⟨k-1,by omega⟩
  rw[List.drop_eq_nil_of_le (by omega)]
  refine⟨fun h=>by simp at h,fun _=> ?_⟩
  conv=>lhs;unfold fJ
  rw[aO (by omega)]
 |d+1,k,n,hn,hk=>by
  obtain⟨k,rfl⟩:∃z,k=z+1:=⟨k-1,by omega⟩
  obtain⟨i1,i2⟩:=qZ x hl c m s K d k (n+1) (by omega) (by omega)
  have e:fJ x K (k+1) (n,c,m,s)=if((x.getD n default).1==c&&(x.getD n default).2.1==m)=true then some ((n:Int),c,m,s)else fJ x K k (n+1,c,m,s):=by
   conv=>lhs;unfold fJ
   rw[aR (by omega)]
   unfold f196 f197
   simp only[aC]
   rw[aA (by omega),aA (by omega)]
  rw[e,getD_drop x n default (by omega),List.any_cons]
  cases h:((x.getD n default).1==c&&(x.getD n default).2.1==m)
  ·simp only[Bool.false_or,Bool.false_eq_true,if_false]
   exact⟨i1,i2⟩
  ·refine⟨fun _=>⟨n,by simp⟩,fun h=>by simp at h⟩
theorem f162_eq (x:List Ss) (hl:x.length≤1000000) (c m:Int) (s:List UInt8):f162 x c m s=some (x.any (fun p=>p.1==c&&p.2.1==m)):=by
 unfold f162 f69 f100;rw[bV];obtain⟨h1,h2⟩:=qZ x hl c m s (fun((i10,i11,s12):Tq0)=>some ((-1:Int),i10,i11,s12)) x.length bG 0 (by omega) (fuel_lt (by omega));rw[List.drop_zero]at h1 h2;cases h:x.any (fun p=>p.1==c&&p.2.1==m)
 ·rw[h2 h];rfl
 ·obtain⟨i,hi⟩:=h1 h;rw[hi];simp[aC]
theorem qT (x:List Ss) (hl:x.length≤1000000):∀(d k n:Nat),n+d=x.length→d<k→∃v,gN x (fun _=>some 0) k n=some v∧(v=0↔∀i,n≤i→i<x.length→wK x i=true)
 |0,k,n,hn,hk=>by
  obtain⟨k,rfl⟩:∃z,k=z+1:=⟨k-1,by omega⟩
  refine⟨0, ?_,by simp;omega⟩
  conv=>lhs;unfold gN
  rw[aO (by omega)]
 |d+1,k,n,hn,hk=>by
  obtain⟨k,rfl⟩:∃z,k=z+1:=⟨k-1,by omega⟩
  obtain⟨v,hv,hi⟩:=qT x hl d k (n+1) (by omega) (by omega)
  have hg:=zJ (x.getD n default).1 (x.getD n default).2.1 (x.getD n default).2.2
  have bad:wK x n=false→∀w:Int,w≠0→(w=0↔∀i,n≤i→i<x.length→wK x i=true):=fun h w hw=>
   ⟨fun e=>absurd e hw,fun h'=>by have:=h' n (Nat.le_refl _) (by omega);rw[h]at this;cases this⟩
  have gbad:jZ (x.getD n default)≠true→wK x n=false:=fun h=>by
   unfold wK
   simp only[Bool.not_eq_true]at h
   rw[h,Bool.false_and]
  conv=>enter [1,v,1,1];unfold gN
  rw[aR (by omega),aA (by omega)]
  generalize hq:x.getD n default=q at *
  by_cases h1:0≤q.1∧q.1<6∧1≤q.2.1∧q.2.1≤1000000
  ·rw[if_neg (by simp;omega)]
   by_cases h2:q.2.2=[]
   ·rw[if_pos (by simp[h2])]
    exact⟨_,rfl,bad (gbad fun h=>(hg.1 h).2.2.2.2.1 h2) _ (by decide)⟩
   ·rw[if_neg (by simpa using h2)]
    by_cases h3:q.2.2.length≤200
    ·rw[aO (by omega),f162_eq _ (by rw[List.length_take];omega),aC,aA (by omega)]
     have hgd:jZ q=true:=hg.2 ⟨h1.1,h1.2.1,h1.2.2.1,h1.2.2.2,h2,h3⟩
     cases ha:(x.take n).any (fun p=>p.1==q.1&&p.2.1==q.2.1)
     ·rw[if_neg (by simp),aA (by omega)]
      refine⟨v,hv,hi.trans ⟨fun h i h4 h5=> ?_,fun h i h4 h5=>h i (by omega) h5⟩⟩
      by_cases hin:i=n
      ·subst hin
       unfold wK
       rw[hq,hgd,ha]
       rfl
      ·exact h i (by omega) h5
     ·rw[if_pos rfl]
      exact⟨_,rfl,bad (by unfold wK;rw[hq,ha];simp) _ (by decide)⟩
    ·rw[aR (by omega)]
     exact⟨_,rfl,bad (gbad fun h=>h3 (hg.1 h).2.2.2.2.2) _ (by decide)⟩
  ·rw[if_pos (by simp;omega)]
   exact⟨_,rfl,bad (gbad fun h=>h1 (by have:=hg.1 h;omega)) _ (by decide)⟩
theorem f98_eq (k c:Int) (l:List Ss) (hl:l.length≤1000000):∃v,f98 k c l=some v∧(v=0↔okE k c l):=by
 unfold f98 okE;by_cases h1:k=1
 ·subst h1;rw[if_pos (by decide)];by_cases hc:c=0
  ·rw[if_neg (by simp[hc])];by_cases h8:l.length≤8
   ·rw[aO (by omega)];obtain⟨v,hv,hi⟩:=qT l hl l.length bG 0 (by omega) (fuel_lt (by omega))
    have h136:f129 l=some v:=by
     unfold f129;rw[bV];exact hv
    rw[h136];refine⟨v,rfl,hi.trans ⟨fun h=> .inl ⟨rfl,hc,h8,fun i h2=>h i (Nat.zero_le _) h2⟩, ?_⟩⟩;rintro(⟨_,_,_,h⟩|⟨h,_⟩|⟨h,_⟩)
    ·exact fun i _ h2=>h i h2
    ·omega
    ·omega
   ·rw[aR (by omega)];exact⟨_,rfl,by simp;omega⟩
  ·rw[if_pos (by simpa using hc)];exact⟨_,rfl,by simp;omega⟩
 ·rw[if_neg (by simpa using h1)];have hn:l=[]↔l.length=0:=List.length_eq_zero_iff.symm;by_cases h2:k=2
  ·subst h2;rw[if_pos (by decide)];by_cases h3:0≤c∧c<6∧l=[]
   ·rw[if_neg (by rw[h3.2.2];simp;omega)];exact⟨_,rfl,by simp[h3]⟩
   ·rw[if_pos (by rw[hn]at h3;simp only[Bool.or_eq_true,decide_eq_true_eq];omega)]
    exact ⟨_,rfl,fun h=>absurd h (by decide),fun h=>by
     rcases h with⟨h,_⟩|⟨_,h5,h6,h7⟩|⟨h,_⟩
     ·omega
     ·exact absurd ⟨h5,h6,h7⟩ h3
     ·omega⟩
  ·rw[if_neg (by simpa using h2)];by_cases h3:k=3
   ·subst h3;rw[if_pos (by decide)];by_cases h4:c=0∧l=[]
    ·rw[if_neg (by rw[h4.2];simp;omega)];exact⟨_,rfl,by simp[h4]⟩
    ·rw[if_pos (by rw[hn]at h4;simp only[Bool.or_eq_true,bne_iff_ne,decide_eq_true_eq];omega)]
     exact ⟨_,rfl,fun h=>absurd h (by decide),fun h=>by
      rcases h with⟨h,_⟩|⟨h,_⟩|⟨_,h5,h6⟩
      ·omega
      ·omega
      ·exact absurd ⟨h5,h6⟩ h4⟩
   ·rw[if_neg (by simpa using h3)];exact⟨_,rfl,by simp;omega⟩
theorem f58_eq (n:Int) (h: -9223372036854775808≤n∧n≤9223372036854775807):f58 n=some (Lib.itoa n):=by
 unfold f58 itoaO;rw[if_pos h]
theorem xW (L:List Ty0) (h:(cQ L).length≤1000000) (hl:L.length≤1000000):f130 L=some (cQ L):=by
 unfold f130 zC;rw[if_pos (by omega)]
theorem uM (x:List Ss) (hl:x.length≤8) (hx:∀q,q∈x→jZ q=true) (K:List Ty0→Option Ty0):∀(d k n:Nat) (a:List Ty0),n+d=x.length→d<k→a.length≤1+3 *n→mI x K k (n,a)=K (a++flt (x.drop n))
 |0,k,n,a,hn,hk,ha=>by
  obtain⟨k,rfl⟩:∃z,k=z+1:=⟨k-1,by omega⟩
  rw[List.drop_eq_nil_of_le (by omega)]
  conv=>lhs;unfold mI
  rw[aO (by omega)]
  simp[flt]
 |d+1,k,n,a,hn,hk,ha=>by
  obtain⟨k,rfl⟩:∃z,k=z+1:=⟨k-1,by omega⟩
  have hg:=fS (hx _ (bU x n default (by omega)))
  have ih:=uM x hl hx K d k (n+1) (a++[Lib.itoa (x.getD n default).1,Lib.itoa (x.getD n default).2.1,(x.getD n default).2.2]) (by omega) (by omega) (by simp;omega)
  conv=>lhs;unfold mI
  rw[aR (by omega),aA (by omega),f58_eq _ (by omega),aC,f58_eq _ (by omega),aC,aA (by omega),aA (by omega),ih,getD_drop x n default (by omega),nH]
  simp
theorem f99_eq {k c:Int} {l:List Ss} (h:okE k c l):f99 k c l=some (cQ (strs k c l)):=by
 have hl:=rH h;have hs:=iU h;rcases h with⟨rfl,rfl,h1,h2⟩|⟨rfl,h1,h2,rfl⟩|⟨rfl,rfl,rfl⟩
 ·have e:strs 1 0 l=cs2::flt l:=by rw[strs,if_neg (by decide),if_neg (by decide)]
  rw[e]at hl hs⊢;unfold f99;rw[if_neg (by decide),if_neg (by decide),bV,uM l h1 (iZ h2) _ l.length bG 0 [cs2] (by omega) (fuel_lt (by omega)) (by simp),List.drop_zero];rw[List.singleton_append,xW _ (by omega) (by omega)];rfl
 ·have e:strs 2 c []=[mW,Lib.itoa c]:=by rw[strs,if_pos rfl]
  rw[e]at hl hs⊢;unfold f99;rw[if_pos (by decide),f58_eq _ (by omega),aC];have:=xW [mW,Lib.itoa c] (by omega) (by omega);unfold mW at this⊢;rw[this];rfl
 ·have e:strs 3 0 []=[cs1]:=by rw[strs,if_neg (by decide),if_pos rfl]
  rw[e]at hl hs⊢;unfold f99;rw[if_neg (by decide),if_pos (by decide),xW _ (by omega) (by omega)];rfl
open Classical in
theorem tail_eq (x:List UInt8) (n c:Int) (l:List Ss) (hl:l.length≤1000000):
  ((f98 n c l).bind fun(r11:Int)=>
   gW ((r11 !=(0:Int))==false) (f99 n c l) fun(r12:List UInt8)=>
   if((r11 !=(0:Int))||(!(r12==x)))then some ((0:Int),(0:Int),([]:List Ss),(2:Int))else some (n,c,l,(0:Int)))=some (if okE n c l∧cQ (strs n c l)=x then(n,c,l,0)else errE):=by
 obtain⟨v,hv,hi⟩:=f98_eq n c l hl;rw[hv,aC];by_cases h:v=0
 ·have hE:=hi.1 h;subst h;rw[f99_eq hE];rw[show(((0:Int) !=0)==false)=true from rfl,jH,aC];by_cases he:cQ (strs n c l)=x
  ·rw[if_neg (by simp[he]),if_pos ⟨hE,he⟩]
  ·rw[if_pos (by simp[he]),if_neg (fun h=>he h.2)];rfl
 ·have hE:¬okE n c l:=fun hE=>h (hi.2 hE);have e:((v !=(0:Int))==false)=false:=by simpa using h
  rw[e,nY,if_pos (by simp[h]),if_neg (fun h=>hE h.1)];rfl
open Go
theorem xH (K:Nat×Int×List Ss→Option Ent):∀(d k:Nat) (L:List Ty0) (a:List Ss),L.length≤d→d<k→(∀s,s∈L→s.length≤1000000)→L.length≤1000000→a.length+L.length≤1000000→∃l,l.length≤1000000∧gT K k (L,a)=K (1,0,l):=by
 intro d
 induction d with
 |zero=>
  intro k L a hL hk _ _ ha;obtain⟨k,rfl⟩:∃z,k=z+1:=⟨k-1,by omega⟩;refine⟨a,by omega, ?_⟩
  conv=>lhs;unfold gT
  rw[aO (by omega)]
 |succ d ih=>
  intro k L a hL hk hs hl ha;obtain⟨k,rfl⟩:∃z,k=z+1:=⟨k-1,by omega⟩;by_cases h3:3≤L.length
  ·obtain⟨v0,b0,h0,_⟩:=lT (L.getD 0 []) (by have:=hs _ (bU L 0 [] (by omega));omega);obtain⟨v1,b1,h1,_⟩:=lT (L.getD 1 []) (by have:=hs _ (bU L 1 [] (by omega));omega);obtain⟨l,hl2,h⟩:=ih k (L.drop 3) (a++[(v0,v1,L.getD 2 [])]) (by rw[List.length_drop];omega) (by omega) (fun s hs'=>hs s (List.mem_of_mem_drop hs')) (by rw[List.length_drop];omega) (by rw[List.length_drop,List.length_append];simp only[List.length_singleton];omega);refine⟨l,hl2, ?_⟩
   conv=>lhs;unfold gT
   unfold f97;rw[aR (by omega),h0,aC,aA (by omega),h1,aC,aA (by omega),aA (by omega),aA (by omega),aA (by omega)];exact h
  ·refine⟨a,by omega, ?_⟩
   conv=>lhs;unfold gT
   rw[aO (by omega)]
theorem qP (K:Nat×Int×List Ss→Option Ent):∀(l a:List Ss) (k:Nat),l.length<k→(∀q,q∈l→jZ q=true)→a.length+l.length≤1000→gT K k (flt l,a)=K (1,0,a++l)
 |[],a,k,hk,_,_=>by
  obtain⟨k,rfl⟩:∃z,k=z+1:=⟨k-1,by omega⟩
  conv=>lhs;unfold gT
  rw[aO (by simp[flt]),List.append_nil]
 |(c,n,s)::l,a,k,hk,hg,ha=>by
  obtain⟨k,rfl⟩:∃z,k=z+1:=⟨k-1,by omega⟩
  simp only[List.length_cons]at hk ha
  have h:=fS (hg _ (List.mem_cons_self ..))
  simp only at h
  have ih:=qP K l (a++[(c,n,s)]) k (by omega) (fun q hq=>hg q (List.mem_cons_of_mem _ hq)) (by simp;omega)
  conv=>lhs;unfold gT
  unfold f97
  rw[nH]
  simp only[List.getD_cons_zero,List.getD_cons_succ,List.length_cons,List.drop_succ_cons,List.drop_zero]
  rw[aR (by omega),lU c (by omega) (by omega),aC,aA (by omega),lU n (by omega) (by omega),aC,aA (by omega),aA (by omega),aA (by omega),aA (by omega),ih]
  simp
open Classical in
theorem f68_hit {k c:Int} {l:List Ss} (h:okE k c l):f68 (cQ (strs k c l))=some (k,c,l,0):=by
 have hl:=rH h;have hs:=iU h;have h84:=f96_plist (strs k c l) (by omega) (fun s hs'=>by have:=hs.1 s hs';omega) (by omega)
 have key : ∀ n : Nat, k = (n : Int) → l.length ≤ 1000000 → ((f98 (n:Int) c l).bind fun(r11:Int)=>
   gW ((r11 !=(0:Int))==false) (f99 (n:Int) c l) fun(r12:List UInt8)=>
   if((r11 !=(0:Int))||(!(r12==cQ (strs k c l))))then some ((0:Int),(0:Int),([]:List Ss),(2:Int))else some ((n:Int),c,l,(0:Int)))=some (k,c,l,0):=by
  intro n hn hl1;subst hn;rw[tail_eq _ _ _ _ hl1,if_pos ⟨h,rfl⟩]
 unfold f68;rw[h84,aC];dsimp only;rw[if_neg (by simp;intro e;rw[e]at hs;simp at hs),aA (by omega),bV,aA (by omega)];rcases h with⟨rfl,rfl,h1,h2⟩|⟨rfl,h1,h2,rfl⟩|⟨rfl,rfl,rfl⟩
 ·have e:strs 1 0 l=cs2::flt l:=by rw[strs,if_neg (by decide),if_neg (by decide)]
  generalize hx:cQ (strs 1 0 l)=x at *;rw[e]at *;rw[if_neg (by simp;intro h;exact absurd h (by decide)),aA (by simp),if_neg (by simp;decide),List.drop_succ_cons,List.drop_zero];rw[qP _ l [] bG (fuel_lt (by omega)) (iZ h2) (by simp;omega),List.nil_append];exact key 1 rfl (by omega)
 ·have e:strs 2 c []=[mW,Lib.itoa c]:=by rw[strs,if_pos rfl]
  generalize hx:cQ (strs 2 c [])=x at *;rw[e]at *;unfold f97;rw[if_pos (by rfl)];simp only[List.drop_succ_cons,List.drop_zero,List.getD_cons_zero];rw[lU c (by omega) (by omega),aC,aA (by simp)];exact key 2 rfl (by simp)
 ·have e:strs 3 0 []=[cs1]:=by rw[strs,if_neg (by decide),if_pos rfl]
  generalize hx:cQ (strs 3 0 [])=x at *;rw[e]at *;rw[if_neg (by decide),aA (by simp),if_pos (by rfl)];exact key 3 rfl (by simp)
open Classical in
theorem zV (x:List UInt8) (hx:x.length≤1000000) (h:∀k c l,okE k c l→cQ (strs k c l)≠x):f68 x=some errE:=by
 obtain⟨j,e,L,h84,hs,hl⟩:=f96_some x hx
 have key : ∀ (n : Nat) c l, l.length ≤ 1000000 → ((f98 (n:Int) c l).bind fun(r11:Int)=>
   gW ((r11 !=(0:Int))==false) (f99 (n:Int) c l) fun(r12:List UInt8)=>
   if((r11 !=(0:Int))||(!(r12==x)))then some ((0:Int),(0:Int),([]:List Ss),(2:Int))else some ((n:Int),c,l,(0:Int)))=some errE:=by
  intro n c l hl1;rw[tail_eq _ _ _ _ hl1,if_neg (fun hh=>h _ _ _ hh.1 hh.2)]
 unfold f68;rw[h84,aC];dsimp only;by_cases h0:((e !=0)||(((L.length:Nat):Int)==0))=true
 ·rw[if_pos h0];rfl
 ·have hL:1≤L.length:=by
   simp only[Bool.or_eq_true,bne_iff_ne,beq_iff_eq]at h0;omega
  rw[if_neg h0,aA (by omega),bV,aA (by omega)];by_cases h1:((L.getD 0 []==([106,111,105,110]:List UInt8))&&((((L.drop 1).length:Nat):Int)==1))=true
  ·rw[if_pos h1]
   have h1':(L.drop 1).length=1:=by
    simp only[Bool.and_eq_true,beq_iff_eq]at h1;omega
   obtain⟨v0,b0,h0,_⟩:=lT ((L.drop 1).getD 0 []) (by have:=hs _ (List.mem_of_mem_drop (bU (L.drop 1) 0 [] (by omega)));omega);unfold f97;rw[h0,aC,aA (by omega)];exact key 2 _ _ (by simp)
  ·rw[if_neg h1,aA (by omega)];by_cases h2:(L.getD 0 []==cs1)=true
   ·rw[if_pos h2];exact key 3 _ _ (by simp)
   ·rw[if_neg h2];obtain⟨l,hl2,e2⟩:=xH _ (L.drop 1).length bG (L.drop 1) [] (Nat.le_refl _) (fuel_lt (by rw[List.length_drop];omega)) (fun s hs'=>by have:=hs s (List.mem_of_mem_drop hs');omega) (by rw[List.length_drop];omega) (by rw[List.length_drop];simp;omega);rw[e2];exact key 1 _ _ hl2
open Go
theorem vR (n:Nat) (hn:n<16384):aBp bG (n:Int)=some (dJ n):=by
 obtain⟨k,hk⟩:∃k,bG=k+2:=⟨bG-2,by unfold bG;omega⟩;rw[hk];by_cases h:n<128
 ·rw[jC n h (k+1),eV h]
 ·have e1:(n:Int)/128=((n/128:Nat):Int):=by omega
  conv=>lhs;unfold aBp
  rw[aO (by omega),e1,jC (n/128) (by omega) k,aC,aA (by omega),aA (by omega),aA (by omega),aA (by omega),aA (by simp),lD h,eV (show n/128<128 by omega)];have e2:((n:Int)%128+128).toNat=n%128+128:=by omega
  rw[e2];rfl
theorem uP (x:List Ty0) (hx:∀s,s∈x→s.length≤200) (hl:x.length≤25) (K:List UInt8→Option Ty0):∀c k n s,n+c=x.length→c<k→s.length≤2+202 *n→iF x K k (s,n)=K (s++fL (x.drop n))
 |0,k,n,s,hn,hk,hs=>by
  obtain⟨k,rfl⟩:∃z,k=z+1:=⟨k-1,by omega⟩
  rw[List.drop_eq_nil_of_le (by omega)]
  conv=>lhs;unfold iF
  rw[aO (by omega)]
  simp[fL]
 |c+1,k,n,s,hn,hk,hs=>by
  obtain⟨k,rfl⟩:∃z,k=z+1:=⟨k-1,by omega⟩
  have hxn:=hx _ (bU x n [] (by omega))
  have hv:=dL 1 (x.getD n []).length (by omega)
  have hsl:(s++dJ (x.getD n []).length).length=s.length+(dJ (x.getD n []).length).length:=List.length_append
  have hsl2:((s++dJ (x.getD n []).length)++x.getD n []).length=s.length+(dJ (x.getD n []).length).length+(x.getD n []).length:=by rw[List.length_append,List.length_append]
  have ih:=uP x hx hl K c k (n+1) ((s++dJ (x.getD n []).length)++x.getD n []) (by omega) (by omega) (by omega)
  conv=>lhs;unfold iF
  rw[aR (by omega),vR _ (by omega),aC,aA (by omega),aA (by omega),aA (by omega),aA (by omega),aA (by omega),ih,getD_drop x n [] (by omega),cK]
  simp[item]
theorem f87_eq (x:List Ty0) (hx:∀s,s∈x→s.length≤200) (hl:x.length≤25):f87 x=some (cQ x):=by
 have hv:=dL 1 x.length (by omega);unfold f87;rw[vR _ (by omega),aC,bV];exact uP x hx hl (fun s6=>some s6) x.length bG 0 (dJ x.length) (by omega) (fuel_lt (by omega)) (by omega)
theorem uW (x:List Ss) (hl:x.length≤8) (hx:∀q,q∈x→jZ q=true) (K:List Ty0→Option Ty0):∀(d k n:Nat) (a:List Ty0),n+d=x.length→d<k→a.length≤1+3 *n→iI x K k (n,a)=K (a++flt (x.drop n))
 |0,k,n,a,hn,hk,ha=>by
  obtain⟨k,rfl⟩:∃z,k=z+1:=⟨k-1,by omega⟩
  rw[List.drop_eq_nil_of_le (by omega)]
  conv=>lhs;unfold iI
  rw[aO (by omega)]
  simp[flt]
 |d+1,k,n,a,hn,hk,ha=>by
  obtain⟨k,rfl⟩:∃z,k=z+1:=⟨k-1,by omega⟩
  have hg:=fS (hx _ (bU x n default (by omega)))
  have ih:=uW x hl hx K d k (n+1) (a++[Lib.itoa (x.getD n default).1,Lib.itoa (x.getD n default).2.1,(x.getD n default).2.2]) (by omega) (by omega) (by simp;omega)
  conv=>lhs;unfold iI
  rw[aR (by omega),aA (by omega),pC (by omega) (by omega),aC,pC (by omega) (by omega),aC,aA (by omega),aA (by omega),ih,getD_drop x n default (by omega),nH]
  simp
theorem f65_eq {k c:Int} {l:List Ss} (h:okE k c l):f65 k c l=some (cQ (strs k c l)):=by
 have hs:=iU h;rcases h with⟨rfl,rfl,h1,h2⟩|⟨rfl,h1,h2,rfl⟩|⟨rfl,rfl,rfl⟩
 ·have e:strs 1 0 l=cs2::flt l:=by rw[strs,if_neg (by decide),if_neg (by decide)]
  rw[e]at hs⊢;unfold f65;rw[if_neg (by decide),if_neg (by decide),bV,uW l h1 (iZ h2) _ l.length bG 0 [cs2] (by omega) (fuel_lt (by omega)) (by simp),List.drop_zero];rw[List.singleton_append,f87_eq _ hs.1 hs.2.1];rfl
 ·have e:strs 2 c []=[mW,Lib.itoa c]:=by rw[strs,if_pos rfl]
  rw[e]at hs⊢;unfold f65;rw[if_pos (by decide),pC (by omega) (by omega),aC];have:=f87_eq [mW,Lib.itoa c] hs.1 hs.2.1;unfold mW at this⊢;rw[this];rfl
 ·have e:strs 3 0 []=[cs1]:=by rw[strs,if_neg (by decide),if_pos rfl]
  rw[e]at hs⊢;unfold f65;rw[if_neg (by decide),if_pos (by decide),f87_eq _ hs.1 hs.2.1];rfl
theorem qX (x:List Ss) (hl:x.length≤1000000) (c m:Int) (s:List UInt8):∀(d k n:Nat),n+d=x.length→d<k→gO x c m s (fun _=>some false) k n=some ((x.drop n).any (fun p=>p.1==c&&p.2.1==m))
 |0,k,n,hn,hk=>by
  obtain⟨k,rfl⟩:∃z,k=z+1:=⟨k-1,by omega⟩
  rw[List.drop_eq_nil_of_le (by omega)]
  conv=>lhs;unfold gO
  rw[aO (by omega)]
  rfl
 |d+1,k,n,hn,hk=>by
  obtain⟨k,rfl⟩:∃z,k=z+1:=⟨k-1,by omega⟩
  have ih:=qX x hl c m s d k (n+1) (by omega) (by omega)
  conv=>lhs;unfold gO
  unfold f149
  rw[aR (by omega),aC,aA (by omega),aA (by omega),ih,getD_drop x n default (by omega),List.any_cons]
  cases((x.getD n default).1==c&&(x.getD n default).2.1==m)
  ·rw[if_neg (by simp),Bool.false_or]
  ·rw[if_pos rfl,Bool.true_or]
theorem f120_eq (x:List Ss) (hl:x.length≤1000000) (c m:Int) (s:List UInt8):f120 x c m s=some (x.any (fun p=>p.1==c&&p.2.1==m)):=by
 unfold f120;rw[bV];exact qX x hl c m s x.length bG 0 (by omega) (fuel_lt (by omega))
theorem f119_eq (c n:Int) (op:List UInt8):∃v,f119 c n op=some v∧(v=0↔jZ (c,n,op)=true):=by
 unfold f119;rw[zJ];by_cases h1:0≤c∧c<6∧1≤n∧n≤1000000
 ·rw[if_neg (by simp;omega)];by_cases h2:op=[]
  ·rw[if_pos (by simp[h2])];exact⟨_,rfl,by simp[h2]⟩
  ·rw[if_neg (by simpa using h2)];by_cases h3:op.length≤200
   ·rw[aO (by omega)];exact⟨_,rfl,by simp[h1,h2,h3]⟩
   ·rw[aR (by omega)];exact⟨_,rfl,by simp;omega⟩
 ·rw[if_pos (by simp;omega)];exact⟨_,rfl,by simp;omega⟩
theorem uQ (x:List Ss) (hl:x.length≤1000000):∀(d k n:Nat),n+d=x.length→d<k→∃v,jI x (fun _=>some 0) k n=some v∧(v=0↔∀i,n≤i→i<x.length→wK x i=true)
 |0,k,n,hn,hk=>by
  obtain⟨k,rfl⟩:∃z,k=z+1:=⟨k-1,by omega⟩
  refine⟨0, ?_,by simp;omega⟩
  conv=>lhs;unfold jI
  rw[aO (by omega)]
 |d+1,k,n,hn,hk=>by
  obtain⟨k,rfl⟩:∃z,k=z+1:=⟨k-1,by omega⟩
  obtain⟨v,hv,hi⟩:=uQ x hl d k (n+1) (by omega) (by omega)
  obtain⟨w,hw,hg⟩:=f119_eq (x.getD n default).1 (x.getD n default).2.1 (x.getD n default).2.2
  have bad:wK x n=false→∀w:Int,w≠0→(w=0↔∀i,n≤i→i<x.length→wK x i=true):=fun h w hw=>
   ⟨fun e=>absurd e hw,fun h'=>by have:=h' n (Nat.le_refl _) (by omega);rw[h]at this;cases this⟩
  conv=>enter [1,v,1,1];unfold jI
  rw[aR (by omega),hw,aC,aA (by omega)]
  by_cases h0:w=0
  ·have hgd:jZ (x.getD n default)=true:=hg.1 h0
   rw[if_neg (by simpa using h0),f120_eq _ (by rw[List.length_take];omega),aC,aA (by omega),aA (by omega)]
   cases ha:(x.take n).any (fun p=>p.1==(x.getD n default).1&&p.2.1==(x.getD n default).2.1)
   ·rw[if_neg (by simp),aA (by omega)]
    refine⟨v,hv,hi.trans ⟨fun h i h4 h5=> ?_,fun h i h4 h5=>h i (by omega) h5⟩⟩
    by_cases hin:i=n
    ·subst hin
     unfold wK
     rw[hgd,ha]
     rfl
    ·exact h i (by omega) h5
   ·rw[if_pos rfl]
    exact⟨_,rfl,bad (by unfold wK;rw[ha];simp) _ (by decide)⟩
  ·rw[if_pos (by simpa using h0)]
   refine⟨_,rfl,bad ?_ _ h0⟩
   have:¬jZ (x.getD n default)=true:=fun h=>h0 (hg.2 h)
   unfold wK
   simp only[Bool.not_eq_true]at this
   rw[this,Bool.false_and]
theorem f64_gen (k c:Int) (l:List Ss) (hl:l.length≤1000000):∃v,f64 k c l=some v∧(v=0↔okE k c l):=by
 have hn:l=[]↔l.length=0:=List.length_eq_zero_iff.symm;unfold f64;rw[aA (by intro h1 _ h2;rw[h1,h2];rfl),aA (by intro h1 _ h2;rw[h1,h2];rfl)];by_cases h1:(k=1∧c=0)∨(k=2∧0≤c∧c<6∧l.length=0)∨(k=3∧c=0∧l.length=0)
 ·rw[if_neg (by simp only[Bool.or_eq_true,Bool.and_eq_true,Bool.not_eq_true',beq_eq_false_iff_ne,bne_iff_ne,decide_eq_true_eq];omega)];by_cases h8:l.length≤8
  ·rw[aO (by omega)];obtain⟨v,hv,hi⟩:=uQ l hl l.length bG 0 (by omega) (fuel_lt (by omega))
   have h73:f86 l=some v:=by
    unfold f86;rw[bV];exact hv
   rw[h73,aC]
   have hE:okE k c l↔v=0:=by
    rw[hi];unfold okE;rw[hn];constructor
    ·rintro(⟨_,_,_,h⟩|⟨_,_,_,h⟩|⟨_,_,h⟩)
     ·exact fun i _ h2=>h i h2
     ·intro i _ h2;omega
     ·intro i _ h2;omega
    ·intro h;rcases h1 with⟨h3,h4⟩|h3|h3
     ·exact .inl ⟨h3,h4,h8,fun i h2=>h i (Nat.zero_le _) h2⟩
     ·exact .inr (.inl h3)
     ·exact .inr (.inr h3)
   by_cases h0:v=0
   ·have hE':=hE.2 h0;rw[if_neg (by simpa using h0),f65_eq hE',aC];have:=rH hE';rw[aO (by omega)];exact⟨0,rfl,by simp[hE']⟩
   ·rw[if_pos (by simpa using h0)];exact⟨v,rfl,hE.symm⟩
  ·rw[aR (by omega)];refine⟨_,rfl,fun h=>absurd h (by decide),fun h=> ?_⟩;unfold okE at h;rw[hn]at h;omega
 ·rw[if_pos (by simp only[Bool.or_eq_true,Bool.and_eq_true,Bool.not_eq_true',beq_eq_false_iff_ne,bne_iff_ne,decide_eq_true_eq];omega)];refine⟨_,rfl,fun h=>absurd h (by decide),fun h=> ?_⟩;unfold okE at h;rw[hn]at h;omega
open Classical in
theorem yQ (x:List UInt8) (n c:Int) (l:List Ss) (hl:l.length≤1000000):
  ((f64 n c l).bind fun(r11:Int)=>
   gW ((r11 !=(0:Int))==false) (f65 n c l) fun(r12:List UInt8)=>
   if((r11 !=(0:Int))||(!(r12==x)))then some ((0:Int),(0:Int),([]:List Ss),(2:Int))else some (n,c,l,(0:Int)))=some (if okE n c l∧cQ (strs n c l)=x then(n,c,l,0)else errE):=by
 obtain⟨v,hv,hi⟩:=f64_gen n c l hl;rw[hv,aC];by_cases h:v=0
 ·have hE:=hi.1 h;subst h;rw[f65_eq hE];rw[show(((0:Int) !=0)==false)=true from rfl,jH,aC];by_cases he:cQ (strs n c l)=x
  ·rw[if_neg (by simp[he]),if_pos ⟨hE,he⟩]
  ·rw[if_pos (by simp[he]),if_neg (fun h=>he h.2)];rfl
 ·have hE:¬okE n c l:=fun hE=>h (hi.2 hE);have e:((v !=(0:Int))==false)=false:=by simpa using h
  rw[e,nY,if_pos (by simp[h]),if_neg (fun h=>hE h.1)];rfl
open Go
theorem vZ (x:List UInt8) (m:Nat) (hx:x.length≤1000000):∃n j:Nat,aBq x (m:Int)=some ((n:Int),(j:Int))∧(j=0∨(1≤j∧j≤x.length∧n≤m)):=by
 have hb:=fun i=>(x.getD i 0).toNat_lt;unfold aBq;by_cases h0:x=[]
 ·rw[if_pos (by simp[h0])];exact⟨0,0,rfl,.inl rfl⟩
 ·have hl:0<x.length:=List.length_pos_iff.2 h0;have b0:=hb 0;have b1:=hb 1;rw[if_neg (by simpa using h0),aA (by omega),aA (by omega),bV];generalize(x.getD 0 0).toNat=a at *;generalize(x.getD 1 0).toNat=b at *;by_cases h1:128≤a
  ·rw[aR (by omega)];by_cases h2:x.length<2
   ·have e:decide ((x.length:Int)<2)=true:=by simp;omega
    rw[e];refine⟨0,0, ?_,.inl rfl⟩;simp[chk]
   ·have e:decide ((x.length:Int)<2)=false:=by simp;omega
    rw[e,aA (fun _=>by omega),aA (fun _=>by omega)];by_cases h3:b=0∨128≤b
    ·rw[if_pos (by simp;omega)];exact⟨0,0,rfl,.inl rfl⟩
    ·rw[if_neg (by simp;omega),aA (by omega),aA (by omega),aA (by omega),aA (by omega),aA (by omega)];dsimp only;by_cases h4:a-128+128 *b≤m
     ·rw[aO (by omega)];exact⟨a-128+128 *b,2,by congr 2;omega,.inr ⟨by omega,by omega,h4⟩⟩
     ·rw[aR (by omega)];exact⟨0,0,rfl,.inl rfl⟩
  ·rw[aO (by omega)];dsimp only;by_cases h4:a≤m
   ·rw[aO (by omega)];exact⟨a,1,rfl,.inr ⟨by omega,by omega,h4⟩⟩
   ·rw[aR (by omega)];exact⟨0,0,rfl,.inl rfl⟩
theorem vY (n m:Nat) (r:List UInt8) (hn:n≤m) (hm:m<16384):aBq (dJ n++r) (m:Int)=some ((n:Int),((dJ n).length:Int)):=by
 unfold aBq;by_cases h:n<128
 ·rw[eV h];have e:(([UInt8.ofNat n]++r).getD 0 0).toNat=n:=by simp[UInt8.toNat_ofNat'];omega
  rw[if_neg (by simp),aA (by simp),e,aA (by omega),bV,aO (by omega)];dsimp only;rw[aO (by omega)];rfl
 ·rw[lD h,eV (show n/128<128 by omega)];generalize hy:UInt8.ofNat (n%128+128)::[UInt8.ofNat (n/128)]++r=y;have e0:(y.getD 0 0).toNat=n%128+128:=by rw[←hy];simp[UInt8.toNat_ofNat'];omega
  have e1:(y.getD 1 0).toNat=n/128:=by rw[←hy];simp[UInt8.toNat_ofNat'];omega
  have hl:2≤y.length:=by rw[←hy];simp
  have hne:y≠[]:=fun h=>by rw[h]at hl;simp at hl
  rw[if_neg (by simpa using hne),aA (by omega),e0,e1,aA (by omega),bV,aR (by omega)];have e:decide ((y.length:Int)<2)=false:=by simp;omega
  rw[e,aA (fun _=>by omega),aA (fun _=>by omega),if_neg (by simp;omega),aA (by omega),aA (by omega),aA (by omega),aA (by omega),aA (by omega)];have ev:((((n%128+128:Nat):Int)-128)+((128 *(n/128):Nat):Int))=(n:Int):=by omega
  rw[ev];dsimp only;rw[aO (by omega)];rfl
theorem xG (x:List UInt8) (hx:x.length≤1000000) (r2:Tq2) (K:Int×List Ty0→Option (Bool×List Ty0)) (hK:∀i l,∃b,K (i,l)=some (b,l)):
  ∀(c k i n:Nat) (l:List Ty0),i+c=x.length→c<k→n≤i→l.length=n→(∀s,s∈l→s.length≤x.length)→∃b l',iG x r2 K k ((i:Int),n,l)=some (b,l')∧(∀s,s∈l'→s.length≤x.length)∧l'.length≤x.length:=by
 intro c
 induction c using Nat.strongRecOn with
 |ind c ih=>
  intro k i n l hi hk hn hl hs;obtain⟨k,rfl⟩:∃z,k=z+1:=⟨k-1,by omega⟩;by_cases hr:(n:Int)<r2.1
  ·obtain⟨m,j,h,hb⟩:=vZ (x.drop i) 200 (by rw[List.length_drop];omega);rw[List.length_drop]at hb
   conv=>enter [1,b,1,l',1,1];unfold iG
   have h':aBq (List.drop i x) 200=some ((m:Int),(j:Int)):=h;rw[aR hr,Int.toNat_natCast,h',aC];dsimp only;rw[aA (by omega)];by_cases hj:j=0
   ·subst hj;rw[aA (fun h=>by simp at h),aA (fun h=>by simp at h),if_pos (by simp)];exact⟨_,_,rfl,by simp,by simp⟩
   ·have hb':1≤j∧j≤x.length-i∧m≤200:=by omega
    rw[aA (fun _=>by omega),aA (fun _=>by omega)];by_cases hle:i+j+m≤x.length
    ·rw[if_neg (by simp;omega),aA (by omega),aA (by omega),aA (by omega),aA (by omega),aA (by omega),aA (by omega),aA (by omega),aA (by omega)];have e:(i:Int)+(j:Int)+(m:Int)=((i+j+m:Nat):Int):=by omega
     rw[e]
     exact ih (c - (j + m)) (by omega) k (i + j + m) (n + 1) _ (by omega) (by omega) (by omega) (by simp [hl]) (fun t ht=>by
      rcases List.mem_append.1 ht with ht|ht
      ·exact hs t ht
      ·simp only[List.mem_singleton]at ht;subst ht;rw[List.length_drop,List.length_take];omega)
    ·rw[if_pos (by simp;omega)];exact⟨_,_,rfl,by simp,by simp⟩
  ·obtain⟨b,h⟩:=hK i l;refine⟨b,l, ?_,hs,by omega⟩
   conv=>lhs;unfold iG
   rw[aO hr];exact h
theorem f81_some (x:List UInt8) (hx:x.length≤1000000):∃b L,f81 x=some (b,L)∧(∀s,s∈L→s.length≤x.length)∧L.length≤x.length:=by
 obtain⟨m,j,h,hb⟩:=vZ x 25 hx;have h':aBq x 25=some ((m:Int),(j:Int)):=h;unfold f81;rw[h',aC];by_cases hj:j=0
 ·subst hj;rw[if_pos (by rfl)];exact⟨_,_,rfl,by simp,by simp⟩
 ·rw[if_neg (by simp;omega),bV];exact xG x hx _ _ (fun i l=>⟨_,rfl⟩) (x.length-j) bG j 0 [] (by omega) (fuel_lt (by omega)) (by omega) rfl (by simp)
theorem mM (x:List UInt8) (hx:x.length≤1000000) (r2:Tq2) (K:Int×List Ty0→Option (Bool×List Ty0)) (L:List Ty0) (hr:r2.1=(L.length:Int)):
  ∀(M:List Ty0) (A:List UInt8) (D:List Ty0) (k:Nat),(∀s,s∈M→s.length≤200)→x=A++fL M→L=D++M→D.length≤A.length→M.length<k→iG x r2 K k ((A.length:Int),D.length,D)=K ((x.length:Int),L)
 |[],A,D,k,_,hxe,hL,_,hk=>by
  obtain⟨k,rfl⟩:∃z,k=z+1:=⟨k-1,by omega⟩
  have e1:x.length=A.length:=by rw[hxe];simp[fL]
  have e2:L=D:=by rw[hL];simp
  conv=>lhs;unfold iG
  rw[aO (by rw[hr,e2];omega),e1,e2]
 |s::M,A,D,k,hM,hxe,hL,hD,hk=>by
  obtain⟨k,rfl⟩:∃z,k=z+1:=⟨k-1,by omega⟩
  simp only[List.length_cons]at hk
  have hl:L.length=D.length+(M.length+1):=by rw[hL];simp
  have e1:x.drop A.length=dJ s.length++(s++fL M):=by rw[hxe,List.drop_left,cK,item,List.append_assoc]
  have hsl:=hM s (List.mem_cons_self ..)
  have hv:=rG s.length
  have hil:(item s).length=(dJ s.length).length+s.length:=by rw[item,List.length_append]
  have hxl:x.length=A.length+((item s).length+(fL M).length):=by rw[hxe,cK];simp
  have h:aBq (dJ s.length++(s++fL M)) 200=some ((s.length:Int),((dJ s.length).length:Int)):=vY s.length 200 _ hsl (by omega)
  have ih := mM x hx r2 K L hr M (A ++ item s) (D ++ [s]) k (fun t ht => hM t (List.mem_cons_of_mem _ ht)) (by rw [hxe, cK]; simp) (by rw [hL]; simp) (by
   simp only[List.length_append,List.length_singleton]
   omega) (by omega)
  have cut:(x.take (A.length+(dJ s.length).length+s.length)).drop (A.length+(dJ s.length).length)=s:=by
   have:x=(A++dJ s.length)++(s++fL M):=by rw[hxe,cK,item];simp
   rw[this,←List.length_append,List.drop_take,List.drop_left,Nat.add_sub_cancel_left,List.take_left]
  conv=>lhs;unfold iG
  rw[aR (by rw[hr];omega),Int.toNat_natCast,e1,h,aC]
  dsimp only
  rw[aA (by omega),aA (fun _=>by omega),aA (fun _=>by omega),if_neg (by simp only[Bool.or_eq_true,beq_iff_eq,decide_eq_true_eq];omega),aA (by omega),aA (by omega),aA (by omega),aA (by omega),aA (by omega),aA (by omega),aA (by omega),aA (by omega)]
  have ea:(A.length:Int)+((dJ s.length).length:Int)=((A.length+(dJ s.length).length:Nat):Int):=by omega
  have eb:((A.length+(dJ s.length).length:Nat):Int)+(s.length:Int)=((A.length+(dJ s.length).length+s.length:Nat):Int):=by omega
  rw[ea,eb,Int.toNat_natCast,Int.toNat_natCast,cut,←ih]
  simp only[List.length_append,List.length_singleton,hil,Nat.add_assoc]
theorem f81_plist (L:List Ty0) (hL:L.length≤25) (hs:∀s,s∈L→s.length≤200):f81 (cQ L)=some (true,L):=by
 have hx:=nW L 200 (by omega) (by omega) hs
 have hx':(cQ L).length≤1000000:=by
  have:L.length *(200+2)≤25 *202:=Nat.mul_le_mul hL (Nat.le_refl _);omega
 have hv:=rG L.length
 have h:aBq (cQ L) 25=some ((L.length:Int),((dJ L.length).length:Int)):=by
  rw[gH];exact vY L.length 25 _ hL (by omega)
 unfold f81;rw[h,aC,if_neg (by simp only[beq_iff_eq];omega),bV];have:=mM (cQ L) hx' ((L.length:Int),((dJ L.length).length:Int)) (fun((i7,l8):Int×List Ty0)=>some ((i7==(((cQ L).length:Nat):Int)),l8)) L rfl L (dJ L.length) [] bG hs rfl rfl (Nat.zero_le _) (fuel_lt (by omega));refine this.trans ?_;simp
theorem oO (x:List UInt8) (hx:x.length≤1000000) (K:Int→Option Int):∀(d k n:Nat) (i:Int),n+d=x.length→d<k→0≤i→i<10^n→n≤7→fN x K k (i,n)=some (-1)∨∃j,0≤j∧j≤9999999∧fN x K k (i,n)=K j
 |0,k,n,i,hn,hk,h0,h1,h7=>by
  obtain⟨k,rfl⟩:∃z,k=z+1:=⟨k-1,by omega⟩
  have h10:(10:Int)^n≤10^7:=by
   have:(10:Nat)^n≤10^7:=Nat.pow_le_pow_right (by decide) h7
   exact_mod_cast this
  refine .inr ⟨i,h0,by omega, ?_⟩
  conv=>lhs;unfold fN
  rw[aO (by omega)]
 |d+1,k,n,i,hn,hk,h0,h1,h7=>by
  obtain⟨k,rfl⟩:∃z,k=z+1:=⟨k-1,by omega⟩
  have h10:(10:Int)^n≤10^7:=by
   have:(10:Nat)^n≤10^7:=Nat.pow_le_pow_right (by decide) h7
   exact_mod_cast this
  generalize hc:(x.getD n 0).toNat=c
  have e:fN x K (k+1) (i,n)=if(((decide (((c:Nat):Int)<(48:Int)))||(decide (((c:Nat):Int)>(57:Int))))||(decide ((n:Int)>(6:Int))))=true then some (-1)else
    chk (0≤(((c:Nat):Int)-(48:Int))∧(((c:Nat):Int)-(48:Int))≤255) (fN x K k (10 *i+(((c:Nat):Int)-48),n+1)):=by
   conv=>lhs;unfold fN
   rw[hc,aR (by omega),aA (by omega),aA (fun _=>by omega)]
   by_cases hb:(((decide (((c:Nat):Int)<(48:Int)))||(decide (((c:Nat):Int)>(57:Int))))||(decide ((n:Int)>(6:Int))))=true
   ·rw[if_pos hb,if_pos hb]
   ·rw[if_neg hb,if_neg hb]
    simp only[Bool.or_eq_true,decide_eq_true_eq]at hb
    rw[aA (by omega),aA (by omega),aA (by omega),aA (by omega),aA (by omega),aA (by omega),aA (by omega)]
  rw[e]
  by_cases hb:(((decide (((c:Nat):Int)<(48:Int)))||(decide (((c:Nat):Int)>(57:Int))))||(decide ((n:Int)>(6:Int))))=true
  ·rw[if_pos hb]
   exact .inl rfl
  ·rw[if_neg hb]
   simp only[Bool.or_eq_true,decide_eq_true_eq]at hb
   rw[aA (by omega)]
   exact oO x hx K d k (n+1) _ (by omega) (by omega) (by omega) (by rw[Int.pow_succ];omega) (by omega)
theorem sC (s:List UInt8) (hx:s.length≤1000000):∃v,f82 s=some v:=by
 unfold f82;rw[bV];rcases oO s hx (fun(i4:Int)=>gW ((s==[])==false) (f88 bG i4) fun(r5:List UInt8)=>if((s==[])||(!(r5==s)))then some (-1:Int)else some i4) s.length bG 0 0 (by omega) (fuel_lt (by omega)) (by omega) (by simp) (by omega)with h|⟨j,h1,h2,h⟩
 ·exact⟨_,h⟩
 ·have hd:=pC (n:=j) h1 (by omega);by_cases h0:s=[]
  ·refine⟨-1,h.trans ?_⟩;have e:(s==[])=true:=by simp[h0]
   rw[e];rfl
  ·have e:(s==[])=false:=by simpa using h0
   by_cases h3:Lib.itoa j=s
   ·refine⟨j,h.trans ?_⟩;rw[e,hd,show((false:Bool)==false)=true from rfl,jH,aC,if_neg (by simp[h3])]
   ·refine⟨-1,h.trans ?_⟩;rw[e,hd,show((false:Bool)==false)=true from rfl,jH,aC,if_pos (by simp[h3])]
theorem mL (x:List UInt8) (hx:x.length≤7) (K:Int→Option Int):∀(d k n i v:Nat),n+d=x.length→d<k→i<10^n→Lib.parseUint10 i (x.drop n)= .ok v→fN x K k ((i:Int),n)=K (v:Int)
 |0,k,n,i,v,hn,hk,h1,hp=>by
  obtain⟨k,rfl⟩:∃z,k=z+1:=⟨k-1,by omega⟩
  rw[List.drop_eq_nil_of_le (by omega)]at hp
  simp only[Lib.parseUint10,Lib.NumEnd.ok.injEq]at hp
  conv=>lhs;unfold fN
  rw[aO (by omega),hp]
 |d+1,k,n,i,v,hn,hk,h1,hp=>by
  obtain⟨k,rfl⟩:∃z,k=z+1:=⟨k-1,by omega⟩
  have h10:(10:Nat)^n≤10^7:=Nat.pow_le_pow_right (by decide) (by omega)
  rw[getD_drop x n 0 (by omega)]at hp
  simp only[Lib.parseUint10]at hp
  generalize hc:(x.getD n 0).toNat=c at hp
  split at hp
  case isFalse=>cases hp
  rename_i h48
  rw[if_neg (by omega),if_neg (by omega)]at hp
  have ih:=mL x hx K d k (n+1) (i *10+(c-48)) v (by omega) (by omega) (by rw[Nat.pow_succ];omega) hp
  conv=>lhs;unfold fN
  rw[hc,aR (by omega),aA (by omega),aA (fun _=>by omega),if_neg (by simp;omega),aA (by omega),aA (by omega),aA (by omega),aA (by omega),aA (by omega),aA (by omega),←ih]
  have e:(10:Int) *(i:Int)+(((c:Nat):Int)-48)=((i *10+(c-48):Nat):Int):=by omega
  rw[e]
theorem sD (n:Int) (h0:0≤n) (h1:n≤9999999):f82 (Lib.itoa n)=some n:=by
 have hl:=oG n h0 h1;obtain⟨m,rfl⟩:∃m:Nat,n=m:=⟨n.toNat,by omega⟩;have e:Lib.itoa (m:Int)=Lib.decDigits m:=by rw[Lib.itoa,if_neg (by omega),Int.toNat_natCast]
 have hp:=tT m (by omega);have hd:=pC (n:=(m:Int)) h0 (by omega);have hne:=dig_ne m;rw[e]at hl hd⊢;unfold f82;rw[bV];refine(mL (Lib.decDigits m) hl _ (Lib.decDigits m).length bG 0 0 m (by omega) (fuel_lt (by omega)) (by simp) (by rw[List.drop_zero];exact hp)).trans ?_;have e2:(Lib.decDigits m==[])=false:=by simpa using hne
 rw[e2,hd,show((false:Bool)==false)=true from rfl,jH,aC,if_neg (by simp)]
theorem oP (b:Bool) (L:List Ty0) (hs:∀s,s∈L→s.length≤1000000) (hl:L.length≤1000000) (K:Nat×Int×List Ss→Option Ent):∀(d k n:Nat) (a:List Ss),n+3 *d=L.length→d<k→a.length≤n→∃l,l.length≤1000000∧iL (b,L) K k (n,a)=K (1,0,l)
 |0,k,n,a,hn,hk,ha=>by
  obtain⟨k,rfl⟩:∃z,k=z+1:=⟨k-1,by omega⟩
  refine⟨a,by omega, ?_⟩
  conv=>lhs;unfold iL
  rw[aO (by dsimp only;omega)]
 |d+1,k,n,a,hn,hk,ha=>by
  obtain⟨k,rfl⟩:∃z,k=z+1:=⟨k-1,by omega⟩
  obtain⟨v0,h0⟩:=sC (L.getD n []) (hs _ (bU L n [] (by omega)))
  obtain⟨v1,h1⟩:=sC (L.getD (n+1) []) (hs _ (bU L (n+1) [] (by omega)))
  obtain⟨l,hl2,h⟩:=oP b L hs hl K d k (n+3) (a++[(v0,v1,L.getD (n+2) [])]) (by omega) (by omega) (by simp;omega)
  refine⟨l,hl2, ?_⟩
  conv=>lhs;unfold iL
  dsimp only
  rw[aR (by omega),h0,aC,h1,aC,aA (by omega),aA (by omega),aA (by omega),aA (by omega),aA (by omega),aA (by omega),aA (by omega),aA (by omega),aA (by omega),aA (by omega)]
  exact h
theorem qQ (b:Bool) (K:Nat×Int×List Ss→Option Ent) (w:List UInt8) (M:List Ss) (hM:M.length≤8):∀(l a:List Ss) (k:Nat),M=a++l→l.length<k→(∀q,q∈l→jZ q=true)→iL (b,w::flt M) K k (1+3 *a.length,a)=K (1,0,M)
 |[],a,k,hMe,hk,_=>by
  obtain⟨k,rfl⟩:∃z,k=z+1:=⟨k-1,by omega⟩
  have e:M=a:=by rw[hMe,List.append_nil]
  have hfl:(w::flt M).length=1+3 *M.length:=by rw[List.length_cons,jR];omega
  conv=>lhs;unfold iL
  dsimp only
  rw[aO (by rw[hfl,e];omega),e]
 |(c,n,s)::l,a,k,hMe,hk,hg=>by
  obtain⟨k,rfl⟩:∃z,k=z+1:=⟨k-1,by omega⟩
  simp only[List.length_cons]at hk
  have h:=fS (hg _ (List.mem_cons_self ..))
  simp only at h
  have hml:M.length=a.length+(l.length+1):=by rw[hMe];simp
  have hfl:(w::flt M).length=1+3 *M.length:=by rw[List.length_cons,jR];omega
  have hf:flt M=flt a++(Lib.itoa c::Lib.itoa n::s::flt l):=by rw[hMe];simp[flt]
  have g:∀i,i<3→(w::flt M).getD (1+3 *a.length+i) []=[Lib.itoa c,Lib.itoa n,s].getD i []:=by
   intro i hi
   rw[show 1+3 *a.length+i=(3 *a.length+i)+1 by omega,List.getD_cons_succ,hf,List.getD_eq_getElem?_getD,List.getElem?_append_right (by rw[jR];omega),jR,Nat.add_sub_cancel_left]
   match i,hi with
   |0,_=>rfl
   |1,_=>rfl
   |2,_=>rfl
  have g0:(w::flt M).getD (1+3 *a.length) []=Lib.itoa c:=g 0 (by omega)
  have g1:(w::flt M).getD (1+3 *a.length+1) []=Lib.itoa n:=g 1 (by omega)
  have g2:(w::flt M).getD (1+3 *a.length+2) []=s:=g 2 (by omega)
  have ih:=qQ b K w M hM l (a++[(c,n,s)]) k (by rw[hMe];simp) (by omega) (fun q hq=>hg q (List.mem_cons_of_mem _ hq))
  conv=>lhs;unfold iL
  dsimp only
  rw[g0,g1,g2,aR (by omega),sD c (by omega) (by omega),aC,sD n (by omega) (by omega),aC,aA (by omega),aA (by omega),aA (by omega),aA (by omega),aA (by omega),aA (by omega),aA (by omega),aA (by omega),aA (by omega),aA (by omega),←ih]
  have e:(a++[(c,n,s)]).length=a.length+1:=by simp
  rw[e]
  rfl
open Go
open Classical in
theorem f61_hit {k c:Int} {l:List Ss} (h:okE k c l):f61 (cQ (strs k c l))=some (k,c,l,0):=by
 have hs:=iU h;have h81:=f81_plist (strs k c l) hs.2.1 hs.1
 have key : ∀ n : Nat, k = (n : Int) → l.length ≤ 1000000 → ((f64 (n:Int) c l).bind fun(r11:Int)=>
   gW ((r11 !=(0:Int))==false) (f65 (n:Int) c l) fun(r12:List UInt8)=>
   if((r11 !=(0:Int))||(!(r12==cQ (strs k c l))))then some ((0:Int),(0:Int),([]:List Ss),(2:Int))else some ((n:Int),c,l,(0:Int)))=some (k,c,l,0):=by
  intro n hn hl1;subst hn;rw[yQ _ _ _ _ hl1,if_pos ⟨h,rfl⟩]
 unfold f61;rw[h81,aC];dsimp only;rw[if_neg (by simp only[Bool.not_true,Bool.false_or,beq_iff_eq];omega),bV,aA (by omega),aA (by omega)];rcases h with⟨rfl,rfl,h1,h2⟩|⟨rfl,h1,h2,rfl⟩|⟨rfl,rfl,rfl⟩
 ·have e:strs 1 0 l=cs2::flt l:=by rw[strs,if_neg (by decide),if_neg (by decide)]
  generalize hx:cQ (strs 1 0 l)=x at *;rw[e]at *;have hfl:(cs2::flt l).length=1+3 *l.length:=by rw[List.length_cons,jR];omega
  have n1:((cs2::flt l).getD 0 []==cs1)=false:=rfl;have n2:((cs2::flt l).getD 0 []==([106,111,105,110]:List UInt8))=false:=rfl;have n3:((cs2::flt l).getD 0 []==cs2)=true:=rfl;rw[n1,n2,n3,if_neg (by decide),aA (by omega),aA (by omega),Bool.false_and,if_neg (by decide),aA (by omega),aA (by omega),aA (fun _=>by omega),if_pos (by simp only[Bool.true_and,beq_iff_eq];omega)]
  have := qQ true (fun((n3,i4,l5):Nat×Int×(List Ss))=>
   (f64 (n3:Int) i4 l5).bind fun(r11:Int)=>
   gW ((r11 !=(0:Int))==false) (f65 (n3:Int) i4 l5) fun(r12:List UInt8)=>
   if((r11 !=(0:Int))||(!(r12==x)))then some ((0:Int),(0:Int),([]:List Ss),(2:Int))else some ((n3:Int),i4,l5,(0:Int))) cs2 l h1 l [] bG rfl (fuel_lt (by omega)) (iZ h2)
  exact this.trans (key 1 rfl (by omega))
 ·have e:strs 2 c []=[mW,Lib.itoa c]:=by rw[strs,if_pos rfl]
  generalize hx:cQ (strs 2 c [])=x at *;rw[e]at *;have n1:([mW,Lib.itoa c].getD 0 []==cs1)=false:=rfl;have n2:([mW,Lib.itoa c].getD 0 []==([106,111,105,110]:List UInt8))=true:=rfl;rw[n1,n2,if_neg (by decide),aA (by simp),aA (by simp),if_pos (by rfl)];simp only[List.getD_cons_succ,List.getD_cons_zero];rw[sD c (by omega) (by omega),aC,aA (by simp),aA (by simp)];exact key 2 rfl (by simp)
 ·have e:strs 3 0 []=[cs1]:=by rw[strs,if_neg (by decide),if_pos rfl]
  generalize hx:cQ (strs 3 0 [])=x at *;rw[e]at *;rw[if_pos (by rfl)];exact key 3 rfl (by simp)
open Classical in
theorem aAb (x:List UInt8) (hx:x.length≤1000000) (h:∀k c l,okE k c l→cQ (strs k c l)≠x):f61 x=some errE:=by
 obtain⟨b,L,h81,hs,hl⟩:=f81_some x hx
 have key : ∀ (n : Nat) c l, l.length ≤ 1000000 → ((f64 (n:Int) c l).bind fun(r11:Int)=>
   gW ((r11 !=(0:Int))==false) (f65 (n:Int) c l) fun(r12:List UInt8)=>
   if((r11 !=(0:Int))||(!(r12==x)))then some ((0:Int),(0:Int),([]:List Ss),(2:Int))else some ((n:Int),c,l,(0:Int)))=some errE:=by
  intro n c l hl1;rw[yQ _ _ _ _ hl1,if_neg (fun hh=>h _ _ _ hh.1 hh.2)]
 unfold f61;rw[h81,aC];dsimp only;by_cases h0:((!b)||(((L.length:Nat):Int)==0))=true
 ·rw[if_pos h0];rfl
 ·have hL:1≤L.length:=by
   simp only[Bool.or_eq_true,beq_iff_eq]at h0;omega
  rw[if_neg h0,bV,aA (by omega),aA (by omega)];by_cases h2:(L.getD 0 []==cs1)=true
  ·rw[if_pos h2];exact key 3 _ _ (by simp)
  ·rw[if_neg h2,aA (by omega),aA (by omega)];by_cases h1:((L.getD 0 []==([106,111,105,110]:List UInt8))&&(((L.length:Nat):Int)==2))=true
   ·rw[if_pos h1]
    have h1':L.length=2:=by
     simp only[Bool.and_eq_true,beq_iff_eq]at h1;omega
    obtain⟨v,hv⟩:=sC (L.getD 1 []) (by have:=hs _ (bU L 1 [] (by omega));omega);rw[hv,aC,aA (by omega),aA (by omega)];exact key 2 _ _ (by simp)
   ·rw[if_neg h1,aA (by omega),aA (by omega),aA (fun _=>by omega)];by_cases h3:((L.getD 0 []==cs2)&&(((L.length%3:Nat):Int)==1))=true
    ·rw[if_pos h3];simp only[Bool.and_eq_true,beq_iff_eq]at h3
     obtain ⟨l, hl2, e⟩ := oP b L (fun s hs' => by have := hs s hs'; omega) (by omega) (fun((n3,i4,l5):Nat×Int×(List Ss))=>
      (f64 (n3:Int) i4 l5).bind fun(r11:Int)=>
      gW ((r11 !=(0:Int))==false) (f65 (n3:Int) i4 l5) fun(r12:List UInt8)=>
      if((r11 !=(0:Int))||(!(r12==x)))then some ((0:Int),(0:Int),([]:List Ss),(2:Int))else some ((n3:Int),i4,l5,(0:Int))) (L.length/3) bG 1 [] (by omega) (fuel_lt (by omega)) (by simp)
     exact e.trans (key 1 _ _ hl2)
    ·rw[if_neg h3];exact key 0 _ _ (by simp)
theorem aAy (x:List UInt8) (hx:x.length≤1000000):∃k c l e,f68 x=some (k,c,l,e)∧f61 x=some (k,c,l,e)∧l.length≤8:=by
 by_cases h:∃k c l,okE k c l∧cQ (strs k c l)=x
 ·obtain⟨k,c,l,hE,rfl⟩:=h;refine⟨k,c,l,0,f68_hit hE,f61_hit hE, ?_⟩;rcases hE with⟨_,_,h,_⟩|⟨_,_,_,rfl⟩|⟨_,_,rfl⟩
  ·exact h
  ·simp
  ·simp
 ·have h':∀k c l,okE k c l→cQ (strs k c l)≠x:=fun k c l hE e=>h ⟨k,c,l,hE,e⟩;exact⟨_,_,_,_,zV x hx h',aAb x hx h',by simp⟩
def resR (m:Mc) (q:Ss):List UInt8:=((f62 m.1 m.2 q.1 q.2.1 q.2.2).getD ([],[],[])).2.2
theorem rI {m:Mc} (q:Ss) (hm:McV m):f123 m.1 m.2 q.1 q.2.1 q.2.2=some ((pH m q).1,(pH m q).2,resR m q)∧f62 m.1 m.2 q.1 q.2.1 q.2.2=some ((pH m q).1,(pH m q).2,resR m q)∧McV (pH m q):=by
 obtain⟨s,h1,h2,ha⟩:=stpR_ex q hm
 have e:resR m q=s:=by
  unfold resR;rw[h2];rfl
 rw[e];exact⟨h1,h2,ha.ok⟩
def pF (m:Mc):List Ss→Mc×List Ss
 |[]=>(m,[])
 |q::l=>((pF (pH m q) l).1,(q.1,q.2.1,resR m q)::(pF (pH m q) l).2)
theorem entR_ok :∀(l:List Ss) (m:Mc),McV m→McV (pF m l).1
 |[],_,h=>h
 |q::l,m,h=>entR_ok l (pH m q) (rI q h).2.2
theorem sJ :∀(l:List Ss) (m:Mc),(pF m l).2.length=l.length
 |[],_=>rfl
 |q::l,m=>by simp[pF,sJ l]
theorem uO (r4:Ent) (h8:r4.2.2.1.length≤8) (K:List Pr×List Ss×List Ss→Option (List Pr×List Ss×List Ss)):∀(d k n:Nat) (m:Mc) (a:List Ss),McV m→n+d=r4.2.2.1.length→d<k→a.length≤n→
  mK r4 K k (n,m.1,m.2,a)=K ((pF m (r4.2.2.1.drop n)).1.1,(pF m (r4.2.2.1.drop n)).1.2,a++(pF m (r4.2.2.1.drop n)).2)
 |0,k,n,m,a,hm,hn,hk,ha=>by
  obtain⟨k,rfl⟩:∃z,k=z+1:=⟨k-1,by omega⟩
  rw[List.drop_eq_nil_of_le (by omega)]
  conv=>lhs;unfold mK
  rw[aO (by omega)]
  simp[pF]
 |d+1,k,n,m,a,hm,hn,hk,ha=>by
  obtain⟨k,rfl⟩:∃z,k=z+1:=⟨k-1,by omega⟩
  obtain⟨h1,_,h3⟩:=rI (r4.2.2.1.getD n default) hm
  have ih:=uO r4 h8 K d k (n+1) (pH m (r4.2.2.1.getD n default)) (a++[((r4.2.2.1.getD n default).1,(r4.2.2.1.getD n default).2.1,resR m (r4.2.2.1.getD n default))]) h3 (by omega) (by omega) (by simp;omega)
  conv=>lhs;unfold mK
  rw[aR (by omega),aA (by omega),h1,aC,aA (by omega),aA (by omega),ih,getD_drop r4.2.2.1 n default (by omega)]
  simp[pF]
theorem oS (r4:Ent) (h8:r4.2.2.1.length≤8) (K:List Pr×List Ss×List Ss→Option (List Pr×List Ss×List Ss)):∀(d k n:Nat) (m:Mc) (a:List Ss),McV m→n+d=r4.2.2.1.length→d<k→a.length≤n→
  mO r4 K k (n,m.1,m.2,a)=K ((pF m (r4.2.2.1.drop n)).1.1,(pF m (r4.2.2.1.drop n)).1.2,a++(pF m (r4.2.2.1.drop n)).2)
 |0,k,n,m,a,hm,hn,hk,ha=>by
  obtain⟨k,rfl⟩:∃z,k=z+1:=⟨k-1,by omega⟩
  rw[List.drop_eq_nil_of_le (by omega)]
  conv=>lhs;unfold mO
  rw[aO (by omega)]
  simp[pF]
 |d+1,k,n,m,a,hm,hn,hk,ha=>by
  obtain⟨k,rfl⟩:∃z,k=z+1:=⟨k-1,by omega⟩
  obtain⟨_,h1,h3⟩:=rI (r4.2.2.1.getD n default) hm
  have ih:=oS r4 h8 K d k (n+1) (pH m (r4.2.2.1.getD n default)) (a++[((r4.2.2.1.getD n default).1,(r4.2.2.1.getD n default).2.1,resR m (r4.2.2.1.getD n default))]) h3 (by omega) (by omega) (by simp;omega)
  conv=>lhs;unfold mO
  rw[aR (by omega),aA (by omega),h1,aC,aA (by omega),aA (by omega),ih,getD_drop r4.2.2.1 n default (by omega)]
  simp[pF]
theorem rA (m:Mc) (hm:McV m) (v:List UInt8) (hv:v.length≤1000000):∃m' rs,f90 m.1 m.2 v=some (m'.1,m'.2,rs)∧f37 m.1 m.2 v=some (m'.1,m'.2,rs)∧McV m'∧rs.length≤8:=by
 obtain⟨k,c,l,e,h1,h2,h8⟩:=aAy v hv;unfold f90 f37;rw[h1,h2,aC,aC];by_cases he:(e !=0)=true
 ·rw[if_pos he,if_pos he];exact⟨m,[],rfl,rfl,hm,by simp⟩
 ·rw[if_neg he,if_neg he,bV,bV];have a1:=uO (k,c,l,e) h8 (fun((l10,l11,l12):List Pr×List Ss×List Ss)=>some (l10,l11,l12)) l.length bG 0 m [] hm (by simp) (fuel_lt (by omega)) (by simp);have a2:=oS (k,c,l,e) h8 (fun((l10,l11,l12):List Pr×List Ss×List Ss)=>some (l10,l11,l12)) l.length bG 0 m [] hm (by simp) (fuel_lt (by omega)) (by simp);exact⟨(pF m l).1,(pF m l).2,a1,a2,entR_ok l m hm,by rw[sJ];exact h8⟩
def yR (m:Mc) (v:List UInt8):Mc:=let t:=(f37 m.1 m.2 v).getD ([],[],[]);(t.1,t.2.1)
theorem stpV_ex {m:Mc} (v:List UInt8) (hm:McV m) (hv:v.length≤1000000):∃rs,f90 m.1 m.2 v=some ((yR m v).1,(yR m v).2,rs)∧f37 m.1 m.2 v=some ((yR m v).1,(yR m v).2,rs)∧McV (yR m v):=by
 obtain⟨m',rs,h1,h2,hm',_⟩:=rA m hm v hv
 have e:yR m v=m':=by
  unfold yR;rw[h2];rfl
 rw[e];exact⟨rs,h1,h2,hm'⟩
theorem stpV_ok :∀(l:List Ty0) (m:Mc),McV m→(∀v,v∈l→v.length≤1000000)→McV (l.foldl yR m)
 |[],_,h,_=>h
 |v::l,m,h,hv=>stpV_ok l (yR m v) (stpV_ex v h (hv v (List.mem_cons_self ..))).choose_spec.2.2 (fun u hu=>hv u (List.mem_cons_of_mem _ hu))
abbrev RMc :=List Pr×List Ss
theorem uN (x:List Ty0) (hl:x.length≤1000000) (hx:∀v,v∈x→v.length≤1000000) (K:RMc→Option RMc):∀(d k n:Nat) (m:Mc),McV m→n+d=x.length→d<k→mJ x K k (n,m.1,m.2)=K (((x.drop n).foldl yR m).1,((x.drop n).foldl yR m).2)
 |0,k,n,m,hm,hn,hk=>by
  obtain⟨k,rfl⟩:∃z,k=z+1:=⟨k-1,by omega⟩
  rw[List.drop_eq_nil_of_le (by omega)]
  conv=>lhs;unfold mJ
  rw[aO (by omega)]
  rfl
 |d+1,k,n,m,hm,hn,hk=>by
  obtain⟨k,rfl⟩:∃z,k=z+1:=⟨k-1,by omega⟩
  obtain⟨rs,h1,_,h3⟩:=stpV_ex (x.getD n []) hm (hx _ (bU x n [] (by omega)))
  have ih:=uN x hl hx K d k (n+1) (yR m (x.getD n [])) h3 (by omega) (by omega)
  conv=>lhs;unfold mJ
  rw[aR (by omega),aA (by omega),h1,aC,aA (by omega),ih,getD_drop x n [] (by omega)]
  rfl
theorem f91_eq (x:List Ty0) (hl:x.length≤1000000) (hx:∀v,v∈x→v.length≤1000000):f91 x=some ((x.foldl yR ([],[])).1,(x.foldl yR ([],[])).2):=by
 have h:=uN x hl hx (fun((l7,l8):RMc)=>some (l7,l8)) x.length bG 0 ([],[]) ⟨StV.nil,SesV.nil⟩ (by omega) (fuel_lt (by omega));unfold f91 f124;rw[aC,bV];exact h
end Go.Abs
namespace Go.Abs
section
variable {α β:Type} [DecidableEq α]
theorem uF (x:α):∀(l:List (α×β)) (i:Nat),jB x (l.map (·.1)) i=none→∀p,p∈l→x≠p.1
 |[],_,_,p,hp=>by cases hp
 |q::l,i,h,p,hp=>by
  simp only[List.map_cons,jB]at h
  by_cases e:x=q.1
  ·rw[if_pos e]at h;cases h
  ·rw[if_neg e]at h
   rcases List.mem_cons.1 hp with rfl|hp
   ·exact e
   ·exact uF x l (i+1) h p hp
theorem uE (x:α):∀(l:List (α×β)) (i j:Nat),jB x (l.map (·.1)) i=some j→∃A p B,l=A++p::B∧j=i+A.length∧x=p.1∧∀q,q∈A→x≠q.1
 |[],_,_,h=>by cases h
 |q::l,i,j,h=>by
  simp only[List.map_cons,jB]at h
  by_cases e:x=q.1
  ·rw[if_pos e]at h;cases h
   exact⟨[],q,l,rfl,rfl,e,by simp⟩
  ·rw[if_neg e]at h
   obtain⟨A,p,B,h1,h2,h3,h4⟩:=uE x l (i+1) j h
   refine⟨q::A,p,B,by rw[h1];rfl,by simp;omega,h3,fun r hr=> ?_⟩
   rcases List.mem_cons.1 hr with rfl|hr
   ·exact e
   ·exact h4 r hr
theorem oM (x:α):∀(A:List (α×β)) (B:List (α×β)),(∀q,q∈A→x≠q.1)→(A++B).find? (fun p=>decide (x=p.1))=B.find? (fun p=>decide (x=p.1))
 |[],_,_=>rfl
 |a::A,B,h=>by
  rw[List.cons_append,List.find?_cons]
  have:decide (x=a.1)=false:=decide_eq_false (h a (List.mem_cons_self ..))
  rw[this]
  exact oM x A B fun q hq=>h q (List.mem_cons_of_mem _ hq)
theorem zO (l:List (α×β)) (x k:α) (y:β):(eP l x y).find? (fun p=>decide (k=p.1))=if k=x then some (x,y)else l.find? (fun p=>decide (k=p.1)):=by
 unfold eP
 cases hi:jB x (l.map (·.1)) 0 with
 |none=>
  have h:=uF x l 0 hi;simp only[];by_cases e:k=x
  ·subst e;rw[if_pos rfl,oM _ _ _ h,List.find?_cons];simp
  ·rw[if_neg e,List.find?_append]
   cases l.find? (fun p=>decide (k=p.1))with
   |some _=>rfl
   |none=>simp[e]
 |some j=>
  obtain⟨A,p,B,rfl,h2,h3,h4⟩:=uE x l 0 j hi;have ej:j=A.length:=by omega
  subst ej;simp only[]
  have es:(A++p::B).set A.length (x,y)=A++(x,y)::B:=by
   rw[List.set_append_right _ _ (Nat.le_refl _)];simp
  rw[es];by_cases e:k=x
  ·subst e;rw[if_pos rfl,oM _ _ _ h4,List.find?_cons];simp
  ·rw[if_neg e,List.find?_append,List.find?_append,List.find?_cons,List.find?_cons];have h5:decide (k=x)=false:=decide_eq_false e;have h6:decide (k=p.1)=false:=decide_eq_false (fun h=>e (by rw[h,h3]));simp only[h5,h6]
theorem mG (l:List (α×β)) (x k:α) (y z:β):gM (eP l x y) z k=if k=x then y else gM l z k:=by
 unfold gM;rw[zO];by_cases e:k=x
 ·rw[if_pos e,if_pos e]
 ·rw[if_neg e,if_neg e]
theorem hM_find (l:List (α×β)) (k:α):hM l k=(l.find? (fun p=>decide (k=p.1))).isSome:=by
 unfold hM
 induction l with
 |nil=>rfl
 |cons a l ih=>
  rw[List.any_cons,List.find?_cons]
  cases decide (k=a.1)with
  |true=>rfl
  |false=>simpa using ih
theorem hM_upd (l:List (α×β)) (x k:α) (y:β):hM (eP l x y) k=(decide (k=x)||hM l k):=by
 rw[hM_find,hM_find,zO];by_cases e:k=x
 ·rw[if_pos e];simp[e]
 ·rw[if_neg e];simp[e]
theorem hM_mem {l:List (α×β)} {k:α} (h:hM l k=true):∃p,p∈l∧p.1=k:=by
 unfold hM at h;obtain⟨p,hp,e⟩:=List.any_eq_true.1 h;exact⟨p,hp,(of_decide_eq_true e).symm⟩
theorem updM_len (l:List (α×β)) (x:α) (y:β):(eP l x y).length≤l.length+1:=by
 unfold eP
 cases jB x (l.map (·.1)) 0 with
 |none=>simp
 |some j=>simp
end
theorem kI {β:Type}:∀(k:Nat) (l:List (Int×β)),(∀i,i<k→∃p,p∈l∧p.1=((i:Nat):Int))→k≤l.length
 |0,_,_=>Nat.zero_le _
 |k+1,l,h=>by
  obtain⟨p,hp,e⟩:=h k (by omega)
  have ih:=kI k (l.filter fun q=> !decide (q.1=((k:Nat):Int))) fun i hi=>by
   obtain⟨q,hq,eq⟩:=h i (by omega)
   exact⟨q,List.mem_filter.2 ⟨hq,by simp;omega⟩,eq⟩
  have hlt:(l.filter fun q=> !decide (q.1=((k:Nat):Int))).length<l.length:=by
   rcases Nat.lt_or_ge (l.filter fun q=> !decide (q.1=((k:Nat):Int))).length l.length with h2|h2
   ·exact h2
   ·have:=List.length_filter_eq_length_iff.1 (Nat.le_antisymm (List.length_filter_le _ l) h2) p hp
    simp[e]at this
  omega
end Go.Abs
namespace Go.Abs
def pty (k w:Int):Int×Bool:=if k=4∧0≤w∧w<12 then(w,true)else if k=3∧0≤w∧w<6 then(12+w,true)else(0,false)
theorem uZ {x1 x2 x3 x4 x5 x6 x7}:
  f50 x1 x2 x3 x4 x5 x6 x7=some (pty x2 x3):=by
 unfold f50 pty f57;by_cases h4:x2=4∧0≤x3∧x3<12
 ·rw[if_pos h4,if_pos (by simp[h4.1,h4.2.1,h4.2.2])]
 ·rw[if_neg h4,if_neg (by simp;omega)];by_cases h3:x2=3
  ·have e:((x2==(3:Int))==true)=true:=by simp[h3]
   rw[e,jH,aC];by_cases hw:0≤x3∧x3<6
   ·rw[if_pos (by simp[h3,hw.1,hw.2]),if_pos ⟨h3,hw⟩,aA (by omega)]
   ·rw[if_neg (by simp;omega),if_neg (by omega)]
  ·have e:((x2==(3:Int))==true)=false:=by simp[h3]
   rw[e,nY,if_neg (by simp),if_neg (fun h=>h3 h.1)]
def st (p:Y51):Bool:=(pty p.2.1 p.2.2.1).2
abbrev ptyP (p:Y51):Int×Bool:=pty p.2.1 p.2.2.1
abbrev slot (p:Y51):Int:=p.2.2.2.1
abbrev eB (p:Y51):List UInt8:=p.2.2.2.2.2.1
theorem st_kind {p:Y51} (h:st p=true):p.2.1=4∨p.2.1=3:=by
 unfold st pty at h;by_cases h4:p.2.1=4∧0≤p.2.2.1∧p.2.2.1<12
 ·exact .inl h4.1
 ·rw[if_neg h4]at h;by_cases h3:p.2.1=3∧0≤p.2.2.1∧p.2.2.1<6
  ·exact .inr h3.1
  ·rw[if_neg h3]at h;cases h
abbrev MV_ :=List Tq5
abbrev MX_ :=List Tq4
abbrev MS_ :=List Ty1
abbrev MA_ :=List Tq2
abbrev MQ_ :=List (Tq0×Bool)
abbrev MK_ :=List (Tq2×Bool)
def seeV (a:MV_) (s:Int) (t:List UInt8):MV_:=if hM a s=true then a else eP a s t
def seeX (a:MV_) (b:MX_) (s:Int) (t:List UInt8):MX_:=if hM a s=true then(if(gM a [] s==t)=true then b else eP b s true)else b
def seeS (c:MS_) (q s:Int) (t:List UInt8):MS_:=if hM c (q,s)=true then c else eP c (q,s) t
def seeA (d:MA_) (k w:Int):MA_:=if(k==3)=true then eP d w (gM d 0 w+1)else d
theorem f57_eq {x1 x2 x3 x4 x5 x6 x7}:
  f57 x1 x2 x3 x4 x5 x6 x7=some (decide (x3≥0)&&decide (x3<6)):=rfl
theorem zD {α β:Type} [Inhabited α] {c:Bool} {a:α} {k:α→Option β}:gW c (some a) k=k (if c=true then a else default):=by
 cases c<;>rfl
theorem f45_st {x1 x2 x3 x4 x5 x6 x7} (a:MV_) (b:MX_) (c:MS_) (d:MA_) (e:MS_) (f:MQ_) (g:MK_) (h:(pty x2 x3).2=true) (hb: -9223372036854775808≤gM d 0 x3+1∧gM d 0 x3+1≤9223372036854775807):
  f45 x1 x2 x3 x4 x5 x6 x7 a b c d e f g=some (seeV a x4 x6,seeX a b x4 x6,seeS c (pty x2 x3).1 x4 x6,seeA d x2 x3,e,f,g):=by
 have hk:x2≠1∧x2≠2:=by
  unfold pty at h;by_cases h4:x2=4∧0≤x3∧x3<12
  ·omega
  ·rw[if_neg h4]at h;by_cases h3:x2=3∧0≤x3∧x3<6
   ·omega
   ·rw[if_neg h3]at h;cases h
 have e1:(x2==(1:Int))=false:=by simp[hk.1]
 have e2:(x2==(2:Int))=false:=by simp[hk.2]
 unfold f45;rw[bV,uZ,aC,if_pos h];simp only[bV,e1,e2,nY,Bool.false_and,show(false==true)=false from rfl];unfold seeV seeX seeS seeA
 cases h1:hM a x4 with
 |false=>
  cases h3:hM c ((pty x2 x3).1,x4)with
  |false=>
   cases h4:(x2==3)with
   |false=>rfl
   |true=>simp[aA hb]
  |true=>
   cases h4:(x2==3)with
   |false=>rfl
   |true=>simp[aA hb]
 |true=>
  cases h2:(gM a [] x4==x6)with
  |false=>
   cases h3:hM c ((pty x2 x3).1,x4)with
   |false=>
    cases h4:(x2==3)with
    |false=>rfl
    |true=>simp[aA hb]
   |true=>
    cases h4:(x2==3)with
    |false=>rfl
    |true=>simp[aA hb]
  |true=>
   cases h3:hM c ((pty x2 x3).1,x4)with
   |false=>
    cases h4:(x2==3)with
    |false=>rfl
    |true=>simp[aA hb]
   |true=>
    cases h4:(x2==3)with
    |false=>rfl
    |true=>simp[aA hb]
theorem f45_no {x1 x2 x3 x4 x5 x6 x7} (a:MV_) (b:MX_) (c:MS_) (d:MA_) (e:MS_) (f:MQ_) (g:MK_) (h:(pty x2 x3).2=false):
  ∃e' f' g',f45 x1 x2 x3 x4 x5 x6 x7 a b c d e f g=some (a,b,c,d,e',f',g'):=by
 unfold f45;rw[bV,uZ,aC,if_neg (by rw[h];simp)];dsimp only;simp only[f57_eq,zD]
 repeat' split
 all_goals exact⟨_,_,_,rfl⟩
theorem xL {R:Type} {x1 x2 x3 x4 x5 x6 x7} (a:MV_) (b:MX_) (c:MS_) (d:MA_) (e:MS_) (f:MQ_) (g:MK_) (h:(pty x2 x3).2=false)
  {k:MV_×MX_×MS_×MA_×MS_×MQ_×MK_→Option R} {r:Option R} (hk:∀e' f' g',k (a,b,c,d,e',f',g')=r):
  (f45 x1 x2 x3 x4 x5 x6 x7 a b c d e f g).bind k=r:=by
 obtain⟨e',f',g',h1⟩:=f45_no (x1:=x1) (x4:=x4) (x5:=x5) (x6:=x6) (x7:=x7) a b c d e f g h;rw[h1];exact hk e' f' g'
def gV (s:MV_×MX_) (p:Y51):MV_×MX_:=if st p=true then(seeV s.1 (slot p) (eB p),seeX s.1 s.2 (slot p) (eB p))else s
abbrev RCom :=Option (List Ty0)
theorem oV (x:List Y51) (hx:x.length≤1000000) (K:MV_×MX_×MS_×MA_×MS_×MQ_×MK_→RCom) (J:MV_×MX_→RCom) (hK:∀a b c d e f g,K (a,b,c,d,e,f,g)=J (a,b)):
  ∀(m k n:Nat) (a:MV_) (b:MX_) (c:MS_) (d:MA_) (e:MS_) (f:MQ_) (g:MK_),n+m=x.length→m<k→(∀w,0≤gM d 0 w∧gM d 0 w≤n)→mR x K k (n,a,b,c,d,e,f,g)=J ((x.drop n).foldl gV (a,b))
 |0,k,n,a,b,c,d,e,f,g,hn,hk,hd=>by
  obtain⟨k,rfl⟩:∃z,k=z+1:=⟨k-1,by omega⟩
  rw[List.drop_eq_nil_of_le (by omega)]
  conv=>lhs;unfold mR
  rw[aO (by omega),hK]
  rfl
 |m+1,k,n,a,b,c,d,e,f,g,hn,hk,hd=>by
  obtain⟨k,rfl⟩:∃z,k=z+1:=⟨k-1,by omega⟩
  rw[getD_drop x n (default:Y51) (by omega),List.foldl_cons]
  conv=>lhs;unfold mR
  rw[aR (by omega),aA (by omega)]
  by_cases hs:st (x.getD n default)=true
  ·have hd':=hd (x.getD n (default:Y51)).2.2.1
   rw[f45_st a b c d e f g hs (by omega),aC,aA (by omega)]
   have ih := oV x hx K J hK m k (n + 1) (seeV a (slot (x.getD n default)) (eB (x.getD n default))) (seeX a b (slot (x.getD n default)) (eB (x.getD n default))) (seeS c (ptyP (x.getD n default)).1 (slot (x.getD n default)) (eB (x.getD n default))) (seeA d (x.getD n default).2.1 (x.getD n default).2.2.1) e f g (by omega) (by omega) (fun w=>by
    unfold seeA
    split
    ·rw[mG]
     split
     ·constructor<;>omega
     ·have:=hd w;constructor<;>omega
    ·have:=hd w;constructor<;>omega)
   refine Eq.trans ih ?_
   unfold gV
   rw[if_pos hs]
  ·have hs':st (x.getD n default)=false:=by simpa using hs
   refine xL a b c d e f g hs' fun e' f' g'=> ?_
   rw[aA (by omega)]
   refine(oV x hx K J hK m k (n+1) a b c d e' f' g' (by omega) (by omega) (fun w=>by have:=hd w;constructor<;>omega)).trans ?_
   unfold gV
   rw[if_neg hs]
def lR (x:List Y51):MV_×MX_:=x.foldl gV ([],[])
theorem sM :∀(x:List Y51) (s:MV_×MX_),(x.foldl gV s).1.length≤s.1.length+x.length
 |[],s=>by simp
 |p::x,s=>by
  rw[List.foldl_cons]
  have ih:=sM x (gV s p)
  have h:(gV s p).1.length≤s.1.length+1:=by
   unfold gV
   split
   ·show(seeV s.1 (slot p) (eB p)).length≤_
    unfold seeV
    split
    ·omega
    ·exact updM_len _ _ _
   ·omega
  simp only[List.length_cons]
  omega
theorem f14_eq (x:List Y51) (hx:x.length≤1000000):f14 x=iP (lR x).1 (lR x).2 bG []:=by
 unfold f14 f44;rw[aC,bV];exact oV x hx _ (fun s=>iP s.1 s.2 bG []) (fun _ _ _ _ _ _ _=>rfl) x.length bG 0 [] [] [] [] [] [] [] (by omega) (fuel_lt (by omega)) (fun w=>⟨Int.le_refl _,Int.le_refl _⟩)
theorem nP {α:Type} (l:List α) (j:Nat) (d:α) (h:j<l.length):l.take (j+1)=l.take j++[l.getD j d]:=by
 rw[List.take_add_one];simp[List.getD_eq_getElem?_getD,h]
theorem f15_refl (l:List Ty0) (hl:l.length≤1000000):f15 l l=some true:=by
 unfold f15;rw[if_neg (by simp),bV]
 have:∀(m k n:Nat),n+m=l.length→m<k→mP l l (fun _=>some true) k n=some true:=by
  intro m
  induction m with
  |zero=>
   intro k n hn hk;obtain⟨k,rfl⟩:∃z,k=z+1:=⟨k-1,by omega⟩
   conv=>lhs;unfold mP
   rw[aO (by omega)]
  |succ m ih=>
   intro k n hn hk;obtain⟨k,rfl⟩:∃z,k=z+1:=⟨k-1,by omega⟩
   conv=>lhs;unfold mP
   rw[aR (by omega),aA (by omega),aA (by omega),if_neg (by simp),aA (by omega)];exact ih k (n+1) (by omega) (by omega)
 exact this l.length bG 0 (by omega) (fuel_lt (by omega))
def tx (x:List Y51) (s:Int):List Ty0:=(x.filter fun p=>st p&&decide (slot p=s)).map eB
theorem yJ (x y:List Y51) (s:Int):tx (x++y) s=tx x s++tx y s:=by
 unfold tx;rw[List.filter_append,List.map_append]
theorem yI (p:Y51) (s:Int):tx [p] s=if st p=true∧slot p=s then[eB p]else[]:=by
 unfold tx;by_cases h:st p=true∧slot p=s
 ·rw[if_pos h,List.filter_cons_of_pos (by simp[h.1,h.2])];rfl
 ·rw[if_neg h,List.filter_cons_of_neg (by simpa using h)];rfl
structure ComI (x:List Y51) (a:MV_) (b:MX_):Prop where
 h:∀s,hM a s= !(tx x s).isEmpty
 g:∀s,gM a [] s=(tx x s).headD []
 m:∀s,gM b false s=(tx x s).any fun t=> !(t==(tx x s).headD [])
theorem comI :∀x:List Y51,ComI x (lR x).1 (lR x).2:=by
 intro x;generalize hn:x.length=n
 induction n generalizing x with
 |zero=>
  obtain rfl:=List.eq_nil_of_length_eq_zero hn
  exact⟨fun s=>rfl,fun s=>rfl,fun s=>rfl⟩
 |succ n ih=>
  have hne:x≠[]:=fun e=>by subst e;cases hn
  obtain⟨y,p,rfl⟩:∃y p,x=y++[p]:=⟨x.dropLast,x.getLast hne,(List.dropLast_concat_getLast hne).symm⟩;have hI:=ih y (by simpa using hn);have e:lR (y++[p])=gV (lR y) p:=by unfold lR;rw[List.foldl_append];rfl
  rw[e];generalize(lR y)=q at hI;obtain⟨a,b⟩:=q;unfold gV;by_cases hs:st p=true
  ·rw[if_pos hs];dsimp only
   have ht:∀s,tx (y++[p]) s=if slot p=s then tx y s++[eB p]else tx y s:=fun s=>by
    rw[yJ,yI];by_cases h:slot p=s
    ·rw[if_pos ⟨hs,h⟩,if_pos h]
    ·rw[if_neg (fun q=>h q.2),if_neg h,List.append_nil]
   have hh:=hI.h (slot p);have hg:=hI.g (slot p);have hm:=hI.m (slot p);unfold seeV seeX
   cases hT:tx y (slot p)with
   |nil=>
    rw[hT]at hh hg hm;simp only[List.isEmpty_nil,Bool.not_true]at hh;rw[if_neg (by rw[hh];simp),if_neg (by rw[hh];simp)];refine⟨fun s=> ?_,fun s=> ?_,fun s=> ?_⟩
    ·rw[hM_upd,ht];by_cases h:slot p=s
     ·subst h;rw[if_pos rfl];simp
     ·rw[if_neg h,hI.h s,decide_eq_false (fun e=>h e.symm)];simp
    ·rw[mG,ht];by_cases h:slot p=s
     ·subst h;rw[if_pos rfl,if_pos rfl,hT];rfl
     ·rw[if_neg h,if_neg (fun e=>h e.symm),hI.g s]
    ·rw[ht];by_cases h:slot p=s
     ·subst h;rw[if_pos rfl,hT,hm];simp
     ·rw[if_neg h,hI.m s]
   |cons t r=>
    rw[hT]at hh hg hm;simp only[List.isEmpty_cons,Bool.not_false]at hh;simp only[List.headD_cons]at hg;rw[if_pos hh,if_pos hh,hg];refine⟨fun s=> ?_,fun s=> ?_,fun s=> ?_⟩
    ·rw[hI.h s,ht];by_cases h:slot p=s
     ·subst h;rw[if_pos rfl,hT];simp
     ·rw[if_neg h]
    ·rw[hI.g s,ht];by_cases h:slot p=s
     ·subst h;rw[if_pos rfl,hT];rfl
     ·rw[if_neg h]
    ·rw[ht];by_cases h:slot p=s
     ·subst h;rw[if_pos rfl,hT];by_cases h3:(t==eB p)=true
      ·rw[if_pos h3,hm];have h4:eB p=t:=(eq_of_beq h3).symm;simp[h4]
      ·rw[if_neg h3,mG,if_pos rfl]
       have h4:(eB p==t)=false:=by
        cases h5:(eB p==t)with
        |false=>rfl
        |true=>exact absurd (by rw[eq_of_beq h5];simp) h3
       simp[h4]
     ·rw[if_neg h];split
      ·exact hI.m s
      ·rw[mG,if_neg (fun e=>h e.symm),hI.m s]
  ·rw[if_neg hs];have ht:∀s,tx (y++[p]) s=tx y s:=fun s=>by rw[yJ,yI,if_neg (fun q=>hs q.1),List.append_nil]
   exact⟨fun s=>by rw[ht];exact hI.h s,fun s=>by rw[ht];exact hI.g s,fun s=>by rw[ht];exact hI.m s⟩
/-! ### the reference's Common -/
abbrev Cfg_ :=List UInt8×Int×BitVec 16×List (BitVec 16)×List (BitVec 16)×Ty7
section
variable {x1:List Ty0} {x2:List (List UInt8×BitVec 16)} {x3:BitVec 16} {x4:List Cfg_} {x5:List Int} {x6:List (List UInt8×Bool×Ty7)}
end
end Go.Abs
namespace Go.Abs
abbrev who (p:Y51):Int:=p.2.2.1
abbrev nmb (p:Y51):Int:=p.2.2.2.2.1
abbrev aBs :=MV_×MX_×MS_×MA_×MS_×MQ_×MK_
def cl (p:Y51):Bool:=decide (p.2.2.1≥0)&&decide (p.2.2.1<6)
def iv (p:Y51):Bool:=(p.2.1==1)&&cl p
def ak (p:Y51):Bool:=(p.2.1==2)&&cl p
def seeE (e:MS_) (p:Y51):MS_:=if iv p=true then(if hM e (who p,nmb p)=true then e else eP e (who p,nmb p) (eB p))else e
def seeQ (f:MQ_) (p:Y51):MQ_:=if iv p=true then eP f (who p,nmb p,eB p) true else f
def seeK (g:MK_) (p:Y51):MK_:=if ak p=true then eP g (who p,nmb p) true else g
def seeP (q:MS_×MA_) (p:Y51):MS_×MA_:=if st p=true then(seeS q.1 (ptyP p).1 (slot p) (eB p),seeA q.2 p.2.1 (who p))else q
def seeR (q:aBs) (p:Y51):aBs:=((gV (q.1,q.2.1) p).1,(gV (q.1,q.2.1) p).2,(seeP (q.2.2.1,q.2.2.2.1) p).1,(seeP (q.2.2.1,q.2.2.2.1) p).2,seeE q.2.2.2.2.1 p,seeQ q.2.2.2.2.2.1 p,seeK q.2.2.2.2.2.2 p)
theorem f45_all (p:Y51) (a:MV_) (b:MX_) (c:MS_) (d:MA_) (e:MS_) (f:MQ_) (g:MK_) (hb: -9223372036854775808≤gM d 0 (who p)+1∧gM d 0 (who p)+1≤9223372036854775807):
  f45 p.1 p.2.1 p.2.2.1 p.2.2.2.1 p.2.2.2.2.1 p.2.2.2.2.2.1 p.2.2.2.2.2.2 a b c d e f g=some (seeR (a,b,c,d,e,f,g) p):=by
 unfold seeR gV seeP;by_cases h:st p=true
 ·rw[if_pos h,if_pos h];have hk:=st_kind h;have e1:iv p=false:=by unfold iv;rcases hk with h|h<;>rw[h]<;>rfl
  have e2:ak p=false:=by unfold ak;rcases hk with h|h<;>rw[h]<;>rfl
  rw[f45_st a b c d e f g h hb];unfold seeE seeQ seeK;rw[e1,e2];rfl
 ·have h':(pty p.2.1 p.2.2.1).2=false:=by simpa[st]using h
  rw[if_neg h,if_neg h];unfold f45;rw[bV,uZ,aC,if_neg (by rw[h'];simp)];dsimp only;simp only[f57_eq,zD];unfold seeE seeQ seeK iv ak;have hc:(decide (p.2.2.1≥0)&&decide (p.2.2.1<6))=cl p:=rfl;rw[hc]
  cases h1:(p.2.1==(1:Int))with
  |true=>
   have h2:(p.2.1==(2:Int))=false:=by
    have:=eq_of_beq h1;rw[this];rfl
   rw[h2]
   cases cl p with
   |false=>rfl
   |true=>
    cases hM e (who p,nmb p)<;>rfl
  |false=>
   cases h2:(p.2.1==(2:Int))with
   |false=>rfl
   |true=>
    cases cl p with
    |false=>rfl
    |true=>rfl
def FI {K:Type} [DecidableEq K] (c:List (K×List UInt8)) (L:K→List Ty0):Prop:=∀k,hM c k= !(L k).isEmpty∧gM c [] k=(L k).headD []
theorem FI_step {K:Type} [DecidableEq K] {c:List (K×List UInt8)} {L:K→List Ty0} (hI:FI c L) (k0:K) (t:List UInt8) (L':K→List Ty0) (hL:∀k,L' k=if k=k0 then L k++[t]else L k):
  FI (if hM c k0=true then c else eP c k0 t) L':=by
 intro k;obtain⟨h1,h2⟩:=hI k;rw[hL];by_cases hh:hM c k0=true
 ·rw[if_pos hh];by_cases e:k=k0
  ·subst e;rw[if_pos rfl]
   cases hz:L k with
   |nil=>rw[h1,hz]at hh;simp at hh
   |cons x r=>rw[h1,h2,hz];exact⟨rfl,rfl⟩
  ·rw[if_neg e];exact⟨h1,h2⟩
 ·rw[if_neg hh,hM_upd,mG];by_cases e:k=k0
  ·subst e
   cases hz:L k with
   |nil=>rw[if_pos rfl,if_pos rfl];simp
   |cons x r=>rw[h1,hz]at hh;simp at hh
  ·rw[if_neg e,if_neg e,decide_eq_false e,Bool.false_or];exact⟨h1,h2⟩
def tsL (y:List Y51) (k:Tq2):List Ty0:=(y.filter fun p=>st p&&(decide ((ptyP p).1=k.1)&&decide (slot p=k.2))).map eB
def ivL (y:List Y51) (k:Tq2):List Ty0:=(y.filter fun p=>iv p&&(decide (who p=k.1)&&decide (nmb p=k.2))).map eB
def akB (y:List Y51) (k:Tq2):Bool:=y.any fun p=>ak p&&(decide (who p=k.1)&&decide (nmb p=k.2))
def asB (y:List Y51) (k:Tq0):Bool:=y.any fun p=>iv p&&(decide (who p=k.1)&&(decide (nmb p=k.2.1)&&decide (eB p=k.2.2)))
def acN (y:List Y51) (w:Int):Nat:=(y.filter fun p=>st p&&((p.2.1==3)&&decide (who p=w))).length
def wJ (y:List Y51):aBs:=y.foldl seeR ([],[],[],[],[],[],[])
theorem rec_com :∀(y:List Y51) (q:aBs),((y.foldl seeR q).1,(y.foldl seeR q).2.1)=y.foldl gV (q.1,q.2.1)
 |[],q=>rfl
 |p::y,q=>by
  rw[List.foldl_cons,List.foldl_cons,rec_com y (seeR q p)]
  rfl
def RI (y:List Y51) (q:aBs):Prop:=FI q.2.2.1 (tsL y)∧(∀w,gM q.2.2.2.1 0 w=((acN y w:Nat):Int))∧FI q.2.2.2.2.1 (ivL y)∧(∀k,gM q.2.2.2.2.2.1 false k=asB y k)∧(∀k,gM q.2.2.2.2.2.2 false k=akB y k)
theorem RI_step {y:List Y51} {q:aBs} (p:Y51) (h:RI y q):RI (y++[p]) (seeR q p):=by
 obtain⟨hc,hd,he,hf,hg⟩:=h;obtain⟨a,b,c,d,e,f,g⟩:=q;dsimp only at hc hd he hf hg
 have hT:∀k,tsL (y++[p]) k=if st p=true∧(ptyP p).1=k.1∧slot p=k.2 then tsL y k++[eB p]else tsL y k:=fun k=>by
  unfold tsL;rw[List.filter_append,List.map_append];by_cases h:st p=true∧(ptyP p).1=k.1∧slot p=k.2
  ·rw[if_pos h,List.filter_cons_of_pos (by rw[h.1,decide_eq_true h.2.1,decide_eq_true h.2.2];rfl)];rfl
  ·rw[if_neg h,List.filter_cons_of_neg (by simpa using h)];exact List.append_nil _
 have hV:∀k,ivL (y++[p]) k=if iv p=true∧who p=k.1∧nmb p=k.2 then ivL y k++[eB p]else ivL y k:=fun k=>by
  unfold ivL;rw[List.filter_append,List.map_append];by_cases h:iv p=true∧who p=k.1∧nmb p=k.2
  ·rw[if_pos h,List.filter_cons_of_pos (by rw[h.1,decide_eq_true h.2.1,decide_eq_true h.2.2];rfl)];rfl
  ·rw[if_neg h,List.filter_cons_of_neg (by simpa using h)];exact List.append_nil _
 unfold seeR seeP;refine⟨?_,fun w=> ?_, ?_,fun k=> ?_,fun k=> ?_⟩
 ·show FI (if st p=true then(seeS c (ptyP p).1 (slot p) (eB p),seeA d p.2.1 (who p))else(c,d)).1 _;by_cases h:st p=true
  ·rw[if_pos h];refine FI_step hc ((ptyP p).1,slot p) (eB p) _ fun k=> ?_;rw[hT];by_cases e:k=((ptyP p).1,slot p)
   ·subst e;rw[if_pos ⟨h,rfl,rfl⟩,if_pos rfl]
   ·rw[if_neg e,if_neg (fun z=>e (by obtain⟨_,z1,z2⟩:=z;rw[z1,z2]))]
  ·rw[if_neg h];intro k;rw[hT,if_neg (fun z=>h z.1)];exact hc k
 ·show gM (if st p=true then(seeS c (ptyP p).1 (slot p) (eB p),seeA d p.2.1 (who p))else(c,d)).2 0 w=_;unfold acN;rw[List.filter_append,List.length_append];have hd':=hd w;unfold acN at hd';by_cases h:st p=true
  ·rw[if_pos h];show gM (seeA d p.2.1 (who p)) 0 w=_;unfold seeA;by_cases h3:(p.2.1==(3:Int))=true
   ·rw[if_pos h3,mG];by_cases hw:w=who p
    ·subst hw;rw[if_pos rfl,hd',List.filter_cons_of_pos (by rw[h,h3,decide_eq_true rfl];rfl)];simp
    ·rw[if_neg hw,hd',List.filter_cons_of_neg (by rw[decide_eq_false (fun z=>hw z.symm)];simp)];simp
   ·rw[if_neg h3,hd',List.filter_cons_of_neg (by rw[show(p.2.1==(3:Int))=false by simpa using h3];simp)];simp
  ·rw[if_neg h,List.filter_cons_of_neg (by rw[show st p=false by simpa using h];simp)];exact hd'.trans (by simp)
 ·show FI (seeE e p) _;unfold seeE;by_cases h:iv p=true
  ·rw[if_pos h];refine FI_step he (who p,nmb p) (eB p) _ fun k=> ?_;rw[hV];by_cases e:k=(who p,nmb p)
   ·subst e;rw[if_pos ⟨h,rfl,rfl⟩,if_pos rfl]
   ·rw[if_neg e,if_neg (fun z=>e (by obtain⟨_,z1,z2⟩:=z;rw[z1,z2]))]
  ·rw[if_neg h];intro k;rw[hV,if_neg (fun z=>h z.1)];exact he k
 ·show gM (seeQ f p) false k=_;unfold seeQ asB;rw[List.any_append];have hf':=hf k;unfold asB at hf';by_cases h:iv p=true
  ·rw[if_pos h,mG];by_cases e:k=(who p,nmb p,eB p)
   ·subst e;rw[if_pos rfl];simp[h]
   ·rw[if_neg e,hf',List.any_cons,h]
    have:(decide (who p=k.1)&&(decide (nmb p=k.2.1)&&decide (eB p=k.2.2)))=false:=by
     by_cases z1:who p=k.1
     ·by_cases z2:nmb p=k.2.1
      ·by_cases z3:eB p=k.2.2
       ·exact absurd (by rw[z1,z2,z3]) e
       ·rw[decide_eq_false z3];simp
      ·rw[decide_eq_false z2];simp
     ·rw[decide_eq_false z1];simp
    rw[this];simp
  ·rw[if_neg h,hf',List.any_cons,show iv p=false by simpa using h];simp
 ·show gM (seeK g p) false k=_;unfold seeK akB;rw[List.any_append];have hg':=hg k;unfold akB at hg';by_cases h:ak p=true
  ·rw[if_pos h,mG];by_cases e:k=(who p,nmb p)
   ·subst e;rw[if_pos rfl];simp[h]
   ·rw[if_neg e,hg',List.any_cons,h]
    have:(decide (who p=k.1)&&decide (nmb p=k.2))=false:=by
     by_cases z1:who p=k.1
     ·by_cases z2:nmb p=k.2
      ·exact absurd (by rw[z1,z2]) e
      ·rw[decide_eq_false z2];simp
     ·rw[decide_eq_false z1];simp
    rw[this];simp
  ·rw[if_neg h,hg',List.any_cons,show ak p=false by simpa using h];simp
theorem recI (y:List Y51):ComI y (wJ y).1 (wJ y).2.1∧RI y (wJ y):=by
 refine⟨?_, ?_⟩
 ·have h:=comI y;have e:=rec_com y ([],[],[],[],[],[],[]);unfold wJ;unfold lR at h;rw[←e]at h;exact h
 ·generalize hn:y.length=n
  induction n generalizing y with
  |zero=>
   obtain rfl:=List.eq_nil_of_length_eq_zero hn
   exact⟨fun k=>⟨rfl,rfl⟩,fun w=>rfl,fun k=>⟨rfl,rfl⟩,fun k=>rfl,fun k=>rfl⟩
  |succ n ih=>
   have hne:y≠[]:=fun e=>by subst e;cases hn
   obtain⟨z,p,rfl⟩:∃z p,y=z++[p]:=⟨y.dropLast,y.getLast hne,(List.dropLast_concat_getLast hne).symm⟩;have e:wJ (z++[p])=seeR (wJ z) p:=by unfold wJ;rw[List.foldl_append];rfl
   rw[e];exact RI_step p (ih z (by simpa using hn))
theorem recY_snoc (y:List Y51) (p:Y51):wJ (y++[p])=seeR (wJ y) p:=by unfold wJ;rw[List.foldl_append];rfl
end Go.Abs
namespace Go.Abs
theorem beqD {α:Type} [BEq α] [LawfulBEq α] [DecidableEq α] (a b:α):(a==b)=decide (a=b):=by
 by_cases h:a=b
 ·subst h;simp
 ·simp[h]
theorem any_mix (T:List Ty0) (t:List UInt8):(T.any fun u=> !(u==t))=(!T.isEmpty&&(!(T.headD []==t)||T.any fun u=> !(u==T.headD []))):=by
 cases T with
 |nil=>rfl
 |cons a r=>
  by_cases h:a=t
  ·subst h;simp
  ·have:(a==t)=false:=beq_false_of_ne h;simp[this]
end Go.Abs
namespace Go.Abs
theorem okRs_cl {l:List Ss} (h:okRs l):∀q∈l,0≤q.1∧q.1<6:=by
 intro q hq;obtain⟨i,hi,e⟩:=List.getElem_of_mem hq;have h1:=h i hi;unfold wK at h1;have e2:l.getD i (default:Ss)=q:=by rw[List.getD_eq_getElem?_getD,List.getElem?_eq_getElem hi,e];rfl
 simp only[Bool.and_eq_true]at h1;have h2:=fS (q:=q) (by first|exact e2▸h1.1|exact e2▸h1.2|(rw[←e2];exact h1.1)|(rw[←e2];exact h1.1.1));exact⟨h2.1,h2.2.1⟩
theorem dec_cl (x:List UInt8) (hx:x.length≤1000000):∃k c l e,f68 x=some (k,c,l,e)∧f61 x=some (k,c,l,e)∧l.length≤8∧∀q∈l,0≤q.1∧q.1<6:=by
 by_cases h:∃k c l,okE k c l∧cQ (strs k c l)=x
 ·obtain⟨k,c,l,hE,rfl⟩:=h;refine⟨k,c,l,0,f68_hit hE,f61_hit hE, ?_⟩;rcases hE with⟨_,_,h,h2⟩|⟨_,_,_,rfl⟩|⟨_,_,rfl⟩
  ·exact⟨h,okRs_cl h2⟩
  ·simp
  ·simp
 ·have h':∀k c l,okE k c l→cQ (strs k c l)≠x:=fun k c l hE e=>h ⟨k,c,l,hE,e⟩;exact⟨_,_,_,_,zV x hx h',aAb x hx h',by simp⟩
def ctn (l:List Ss) (w m:Int) (op:List UInt8):Bool:=l.any fun q=>((q.1==w)&&(q.2.1==m))&&(q.2.2==op)
theorem qW (l:List Ss) (hl:l.length≤1000) (w m:Int) (op:List UInt8):∀(d k n:Nat),n+d=l.length→d<k→∃i:Int,iR l w m op (fun _=>some (-1:Int)) k n=some i∧decide (i≥0)=ctn (l.drop n) w m op
 |0,k,n,hn,hk=>by
  obtain⟨k,rfl⟩:∃z,k=z+1:=⟨k-1,by omega⟩
  rw[List.drop_eq_nil_of_le (by omega)]
  conv=>enter [1,i,1,1];unfold iR
  rw[aO (by omega)]
  exact⟨-1,rfl,rfl⟩
 |d+1,k,n,hn,hk=>by
  obtain⟨k,rfl⟩:∃z,k=z+1:=⟨k-1,by omega⟩
  obtain⟨i,h1,h2⟩:=qW l hl w m op d k (n+1) (by omega) (by omega)
  conv=>enter [1,i,1,1];unfold iR
  rw[aR (by omega),aA (by omega),getD_drop l n default (by omega)]
  unfold ctn
  rw[List.any_cons]
  generalize l.getD n default=q
  have e:((w==q.1)&&((m==q.2.1)&&((op==q.2.2)&&true)))=(((q.1==w)&&(q.2.1==m))&&(q.2.2==op)):=by
   rw[Bool.and_true,BEq.comm (a:=w),BEq.comm (a:=m),BEq.comm (a:=op),Bool.and_assoc]
  rw[e]
  cases hq:(((q.1==w)&&(q.2.1==m))&&(q.2.2==op))with
  |true=>
   rw[if_pos rfl]
   exact⟨_,rfl,by rw[Bool.true_or];exact decide_eq_true (by omega)⟩
  |false=>
   rw[if_neg (by simp),aA (by omega)]
   exact⟨i,h1,by rw[h2,Bool.false_or];rfl⟩
theorem f89_eq (l:List Ss) (hl:l.length≤1000) (w m:Int) (op:List UInt8):f89 l w m op=some (ctn l w m op):=by
 obtain⟨i,h1,h2⟩:=qW l hl w m op l.length bG 0 (by omega) (fuel_lt (by omega));unfold f89 f122;rw[bV,h1,aC,h2,List.drop_zero]
theorem tsL_len (y:List Y51) (q:Int) (n:Nat) (h:∀i:Nat,i<n→tsL y (q,(i:Int))≠[]):n≤y.length:=by
 have:=kI n (y.map fun p=>(slot p,())) fun i hi=>by
  have h1:=h i hi;unfold tsL at h1;obtain⟨u,hu⟩:=List.exists_mem_of_ne_nil _ h1;obtain⟨p,hp,_⟩:=List.mem_map.1 hu;obtain⟨hp1,hp2⟩:=List.mem_filter.1 hp;simp only[Bool.and_eq_true,decide_eq_true_eq]at hp2;exact⟨(slot p,()),List.mem_map.2 ⟨p,hp1,rfl⟩,hp2.2.2⟩
 simpa using this
theorem tsL_mem {y:List Y51} {k:Int×Int} {b:Nat} (hb:∀p∈y,(eB p).length≤b):((tsL y k).headD []).length≤b:=by
 cases h:tsL y k with
 |nil=>exact Nat.zero_le _
 |cons u r=>
  have hu:u∈tsL y k:=by rw[h];exact List.mem_cons_self
  unfold tsL at hu;obtain⟨p,hp,rfl⟩:=List.mem_map.1 hu;exact hb p (List.mem_filter.1 hp).1
abbrev RB_ :=Option (Bool×aBs)
theorem sX (y:List Y51) (hy:y.length≤1000000) (w s:Int) (hw:0≤w∧w<6) (bd:Nat) (hb:∀p∈y,(eB p).length≤bd) (a:MV_) (b:MX_) (c:MS_) (d:MA_) (e:MS_) (f:MQ_) (g:MK_) (hc:FI c (tsL y)) (K1:List Ty0→RB_):
  ∀(j k n:Nat) (l:List Ty0),n+j=y.length+1→j<k→l.length=n→(∀i:Nat,i<n→tsL y (12+w,(i:Int))≠[])→(∀v,v∈l→v.length≤bd)→
  (jJ w s a b c d e f g K1 k (n,l)=some (false,a,b,c,d,e,f,g))∨∃vs,vs.length≤y.length+1∧(∀v,v∈vs→v.length≤bd)∧jJ w s a b c d e f g K1 k (n,l)=K1 vs
 |0,k,n,l,hn,hk,hl,hs,hbl=>by
  exfalso
  have:=tsL_len y (12+w) n hs
  omega
 |j+1,k,n,l,hn,hk,hl,hs,hbl=>by
  obtain⟨k,rfl⟩:∃z,k=z+1:=⟨k-1,by omega⟩
  have hny:=tsL_len y (12+w) n hs
  have e1:jJ w s a b c d e f g K1 (k+1) (n,l)=if(decide ((n:Int)<s))=true then(if(!(hM c (((12:Int)+w),(n:Int))))=true then some (false,a,b,c,d,e,f,g)else chk (((l).length+1) *16≤140737488355328) (chk (((n:Int)+(1:Int))≤9223372036854775807) ((jJ w s a b c d e f g K1 k) ((n+1),(l++[(gM c [] (((12:Int)+w),(n:Int)))])))))else K1 l:=by
   conv=>lhs;unfold jJ
  rw[e1]
  obtain⟨c1,c2⟩:=hc (12+w,(n:Int))
  by_cases hns:(n:Int)<s
  ·rw[if_pos (decide_eq_true hns),c1,c2]
   cases hz:(tsL y (12+w,(n:Int))).isEmpty with
   |true=>rw[if_pos (by rfl)];exact .inl rfl
   |false=>
    rw[if_neg (by simp),aA (by omega),aA (by omega)]
    refine sX y hy w s hw bd hb a b c d e f g hc K1 j k (n+1) _ (by omega) (by omega) (by simp[hl]) (fun i hi=> ?_) (fun v hv=> ?_)
    ·rcases Nat.lt_or_ge i n with h3|h3
     ·exact hs i h3
     ·obtain rfl:i=n:=by omega
      intro z
      rw[z]at hz;cases hz
    ·rcases List.mem_append.1 hv with h3|h3
     ·exact hbl v h3
     ·obtain rfl:v=(tsL y (12+w,(n:Int))).headD []:=by simpa using h3
      exact tsL_mem hb
  ·rw[if_neg (by simpa using hns)]
   exact .inr ⟨l,by omega,hbl,rfl⟩
theorem yY (rs:List Ss) (hl:rs.length≤1000) (i1 i2 w i4 m:Int) (s6 res:List UInt8) (K:Int×Int×Int×Int×Int×List UInt8×List UInt8→Option Tq10):∀(d k n:Nat),n+d=rs.length→d<k→
  (∃i,i<rs.length∧iE rs K k (n,i1,i2,w,i4,m,s6,res)=some ((i:Int),i1,i2,w,i4,m,s6,res))∨(iE rs K k (n,i1,i2,w,i4,m,s6,res)=K (i1,i2,w,i4,m,s6,res))
 |0,k,n,hn,hk=>by
  obtain⟨k,rfl⟩:∃z,k=z+1:=⟨k-1,by omega⟩
  refine .inr ?_
  conv=>lhs;unfold iE
  rw[aO (by omega)]
 |d+1,k,n,hn,hk=>by
  obtain⟨k,rfl⟩:∃z,k=z+1:=⟨k-1,by omega⟩
  have ih:=yY rs hl i1 i2 w i4 m s6 res K d k (n+1) (by omega) (by omega)
  have e1:iE rs K (k+1) (n,i1,i2,w,i4,m,s6,res)=if(((rs.getD n default).1==w)&&((rs.getD n default).2.1==m))=true then some ((n:Int),i1,i2,w,i4,m,s6,res)else iE rs K k (n+1,i1,i2,w,i4,m,s6,res):=by
   conv=>lhs;unfold iE
   rw[aR (by omega)]
   unfold f93
   rw[aC,aA (by omega)]
   dsimp only
   rw[aA (by omega)]
  rw[e1]
  cases h:(((rs.getD n default).1==w)&&((rs.getD n default).2.1==m))with
  |true=>
   rw[if_pos rfl]
   exact .inl ⟨n,by omega,rfl⟩
  |false=>
   rw[if_neg (by simp)]
   exact ih
theorem aAO (y:List Y51) (hy:y.length≤60) (hb:∀p∈y,(eB p).length≤20000) (a:MV_) (b:MX_) (c:MS_) (d:MA_) (e:MS_) (f:MQ_) (g:MK_) (hc:FI c (tsL y)) (p:Y51) (hp:cl p=true):
  ∃v,f66 p.1 p.2.1 p.2.2.1 p.2.2.2.1 p.2.2.2.2.1 p.2.2.2.2.2.1 p.2.2.2.2.2.2 a b c d e f g=some (v,a,b,c,d,e,f,g):=by
 have hw:0≤p.2.2.1∧p.2.2.1<6:=by
  unfold cl at hp;simpa using hp
 obtain⟨i1,i2,w,s,m,t,res⟩:=p;dsimp only at hw⊢;unfold f66;obtain⟨c1,c2⟩:=hc (12+w,s);have hlv:=tsL_mem (k:=(12+w,s)) hb;obtain⟨k0,c0,l0,e0,d1,d2,d3,_⟩:=dec_cl ((tsL y (12+w,s)).headD []) (by omega);rw[aA (by omega),c2,d1,aC,bV];dsimp only;generalize((((gM g false (w,m))||(!(hM e (w,m))))||(!(hM c (12+w,s))))||(e0 !=(0:Int)))=G
 cases G with
 |true=>
  refine⟨false, ?_⟩
  rw[show(true==false)=false from rfl,nY,Bool.true_or,if_pos rfl]
 |false=>
  rw[show(false==false)=true from rfl,jH,f89_eq l0 (by omega),aC,Bool.false_or]
  cases ctn l0 w m (gM e [] (w,m))with
  |false=>exact⟨false,by rw[if_pos (by rfl)]⟩
  |true=>
   rw[if_neg (by simp)];rcases sX y (by omega) w s hw 20000 hb a b c d e f g hc _ (y.length+1) bG 0 [] (by omega) (fuel_lt (by omega)) rfl (by simp) (by simp)with h1|⟨vs,hv1,hv2,h1⟩
   ·exact⟨false,h1⟩
   ·have hv3:∀v,v∈vs→v.length≤1000000:=fun v hv=>by have:=hv2 v hv;omega
    have hm:=stpV_ok vs ([],[]) ⟨StV.nil,SesV.nil⟩ hv3;obtain⟨m',rs,q1,_,_,q4⟩:=rA _ hm ((tsL y (12+w,s)).headD []) (by omega)
    suffices H : ∃ v, ((f91 vs).bind fun r20=>(f90 r20.1 r20.2 ((tsL y (12+w,s)).headD [])).bind fun r21=>(f92 r21.2.2 i1 i2 w s m t res).bind fun r22=>
      chk (((decide (r22.1≥(0:Int)))==true)=true→0≤r22.1∧r22.1<(((r21.2.2).length:Nat):Int))<|
      chk (((decide (r22.1≥(0:Int)))==true)=true→((r22.1).toNat)<(r21.2.2).length)<|
      some (((decide (r22.1≥(0:Int)))&&(((r21.2.2.getD ((r22.1).toNat) (default:Tq0)).2.2)==r22.2.2.2.2.2.2.2)),a,b,c,d,e,f,g))=(some (v,a,b,c,d,e,f,g):RB_) by
     obtain⟨v,H1⟩:=H;exact⟨v,h1.trans H1⟩
    rw[f91_eq vs (by omega) hv3,aC];dsimp only;rw[q1,aC];unfold f92;rw[bV];dsimp only;rcases yY rs (by omega) i1 i2 w s m t res (fun((i18,i19,i20,i21,i22,s23,s24):Tq9)=>some ((-1:Int),i18,i19,i20,i21,i22,s23,s24)) rs.length bG 0 (by omega) (fuel_lt (by omega))with⟨i,hi,r1⟩|r1
    ·refine⟨((decide ((i:Int)≥0))&&((rs.getD i (default:Tq0)).2.2==res)), ?_⟩;refine(congrArg (fun z=>Option.bind z _) r1).trans ?_;rw[aC,aA (fun _=>⟨by dsimp only;omega,by dsimp only;omega⟩),aA (fun _=>by dsimp only;omega)];rfl
    ·refine⟨false, ?_⟩;refine(congrArg (fun z=>Option.bind z _) r1).trans ?_;rw[aC,aA (fun h=>by cases h),aA (fun h=>by cases h)];rfl
end Go.Abs
namespace Go.Abs
def kv (y:List Y51) (p:Y51):Int:=if((tx y (slot p)).any fun u=> !(u==eB p))=true then 1 else if((p.2.1==(3:Int))&&(slot p !=((acN y (who p):Nat):Int)))=true then 2 else 0
theorem f43_st (y:List Y51) (a:MV_) (b:MX_) (c:MS_) (d:MA_) (e:MS_) (f:MQ_) (g:MK_) (hI:ComI y a b) (hd:∀w,gM d 0 w=((acN y w:Nat):Int)) (p:Y51) (h:st p=true):
  f43 p.1 p.2.1 p.2.2.1 p.2.2.2.1 p.2.2.2.2.1 p.2.2.2.2.2.1 p.2.2.2.2.2.2 a b c d e f g=some (kv y p,a,b,c,d,e,f,g):=by
 have k2:(p.2.1==(2:Int))=false:=by rcases st_kind h with z|z<;>rw[z]<;>rfl
 have hst:(pty p.2.1 p.2.2.1).2=true:=h;unfold f43 kv;rw[bV,uZ,aC,if_pos hst,bV,k2];simp only[bV,Bool.false_and];rw[show(false==true)=false from rfl,nY,if_neg (show ¬(false=true) by simp),hI.h p.2.2.2.1,hI.g p.2.2.2.1,hI.m p.2.2.2.1,hd p.2.2.1,any_mix (tx y (slot p)) (eB p)];show(if(!(tx y (slot p)).isEmpty)=true then _ else _)=_
 cases(tx y (slot p)).isEmpty with
 |true=>
  rw[if_neg (by simp),aA (fun h=>by cases h),if_neg (show ¬((!true&&_)=true) by simp)]
  cases(p.2.1==(3:Int))with
  |false=>rfl
  |true=>
   rw[if_pos rfl,Bool.true_and];show(if(slot p !=((acN y (who p):Nat):Int))=true then _ else _)=_
   cases(slot p !=((acN y (who p):Nat):Int))<;>rfl
 |false=>
  rw[if_pos (by rfl)];show(if(!((tx y (slot p)).headD []==eB p))=true then _ else _)=_
  cases((tx y (slot p)).headD []==eB p)with
  |false=>rw[if_pos (by rfl),if_pos (by rfl)]
  |true=>
   rw[if_neg (by simp)];show(if((tx y (slot p)).any fun u=> !(u==(tx y (slot p)).headD []))=true then _ else _)=_
   cases((tx y (slot p)).any fun u=> !(u==(tx y (slot p)).headD []))with
   |true=>rw[if_pos rfl,if_pos (by rfl)]
   |false=>
    rw[if_neg (by simp),if_neg (show ¬((!false&&(!true||false))=true) by simp)]
    cases(p.2.1==(3:Int))with
    |false=>rfl
    |true=>
     rw[if_pos rfl,Bool.true_and];show(if(slot p !=((acN y (who p):Nat):Int))=true then _ else _)=_;cases(slot p !=((acN y (who p):Nat):Int))<;>rfl
theorem kind_some (y:List Y51) (hy:y.length≤60) (hb:∀p∈y,(eB p).length≤20000) (a:MV_) (b:MX_) (c:MS_) (d:MA_) (e:MS_) (f:MQ_) (g:MK_) (hq:wJ y=(a,b,c,d,e,f,g)) (p:Y51):
  ∃v:Int,0≤v∧f43 p.1 p.2.1 p.2.2.1 p.2.2.2.1 p.2.2.2.2.1 p.2.2.2.2.2.1 p.2.2.2.2.2.2 a b c d e f g=some (v,a,b,c,d,e,f,g)∧(st p=true→v=kv y p):=by
 obtain⟨hI,hR⟩:=recI y;rw[hq]at hI hR;obtain⟨hc,hd,he,hf,hg⟩:=hR;dsimp only at hI hc hd he hf hg
 cases h:st p with
 | true => exact ⟨kv y p,by
  unfold kv;split
  ·omega
  ·split<;>omega,f43_st y a b c d e f g hI hd p h,fun _=>rfl⟩
 |false=>
  have hst:(pty p.2.1 p.2.2.1).2=false:=h;have h57:f57 p.1 p.2.1 p.2.2.1 p.2.2.2.1 p.2.2.2.2.1 p.2.2.2.2.2.1 p.2.2.2.2.2.2=some (cl p):=rfl
  have e43:f43 p.1 p.2.1 p.2.2.1 p.2.2.2.1 p.2.2.2.2.1 p.2.2.2.2.2.1 p.2.2.2.2.2.2 a b c d e f g=gW ((p.2.1==(2:Int))==true) (some (cl p)) fun(r16:Bool)=>
    if((p.2.1==(2:Int))&&r16)=true then((f66 p.1 p.2.1 p.2.2.1 p.2.2.2.1 p.2.2.2.2.1 p.2.2.2.2.2.1 p.2.2.2.2.2.2 a b c d e f g).bind fun(r17:Bool×aBs)=>if(!r17.1)=true then some ((3:Int),r17.2)else some (0,r17.2))else some (0,a,b,c,d,e,f,g):=by
   unfold f43;rw[bV,uZ,aC,if_neg (by rw[hst];simp),bV,h57]
  rw[e43]
  cases h2:(p.2.1==(2:Int))with
  |false=>
   rw[show(false==true)=false from rfl,nY,Bool.false_and]
   exact⟨0,Int.le_refl _,rfl,fun h=>by cases h⟩
  |true=>
   rw[show(true==true)=true from rfl,jH,aC,Bool.true_and]
   cases hcp:cl p with
   |false=>exact⟨0,Int.le_refl _,rfl,fun h=>by cases h⟩
   |true=>
    obtain⟨v,v1⟩:=aAO y hy hb a b c d e f g hc p hcp;rw[v1,if_pos rfl,aC]
    cases v with
    |true=>exact⟨0,Int.le_refl _,rfl,fun h=>by cases h⟩
    |false=>exact⟨3,by omega,rfl,fun h=>by cases h⟩
theorem acN_le (y:List Y51) (w:Int):acN y w≤y.length:=by unfold acN;exact List.length_filter_le _ _
theorem rec_cnt {y:List Y51} {a b c d e f g} (hq:wJ y=(a,b,c,d,e,f,g)) (w:Int) (hy:y.length≤60): -9223372036854775808≤gM d 0 w+1∧gM d 0 w+1≤9223372036854775807:=by
 have h:=(recI y).2.2.1 w;rw[hq]at h;have h2:=acN_le y w;dsimp only at h;constructor<;>omega
abbrev KF :Int→Option Tq6:=fun(i15:Int)=>some ((0:Int),(13:Int),i15)
theorem first_end (x:List Y51) (k:Nat) (i5:Int) (q:aBs):gB x KF (k+1) (x.length,i5,q)=some (0,13,i5):=by
 obtain⟨a,b,c,d,e,f,g⟩:=q
 conv=>lhs;unfold gB
 rw[aO (by omega)]
section
variable (x:List Y51) (hx:x.length≤60) (hb:∀p∈x,(eB p).length≤20000)
include hx hb
theorem qL (k n:Nat) (q:aBs) (hn:n<x.length) (hq:wJ (x.take n)=q):
  ∃v:Int,0≤v∧(st (x.getD n default)=true→v=kv (x.take n) (x.getD n default))∧∃q',wJ (x.take (n+1))=q'∧
   ∀i5,gB x KF (k+1) (n,i5,q)=if v=0 then gB x KF k (n+1,0,q')else some ((n:Int),0,v):=by
 obtain⟨a,b,c,d,e,f,g⟩:=q;have hty:(x.take n).length≤60:=by rw[List.length_take];omega
 obtain⟨v,v0,v1,v2⟩:=kind_some (x.take n) hty (fun p hp=>hb p (List.mem_of_mem_take hp)) a b c d e f g hq (x.getD n default)
 have v1':∀i5,f42 (x.getD n default).1 (x.getD n default).2.1 (x.getD n default).2.2.1 (x.getD n default).2.2.2.1 (x.getD n default).2.2.2.2.1 (x.getD n default).2.2.2.2.2.1 (x.getD n default).2.2.2.2.2.2 a b c d e f g i5=some ((v !=(0:Int)),a,b,c,d,e,f,g,v):=fun i5=>by
  unfold f42;rw[v1,aC]
 have hs:=recY_snoc (x.take n) (x.getD n default);rw[←nP x n default (by omega),hq]at hs;refine⟨v,v0,v2,seeR (a,b,c,d,e,f,g) (x.getD n default),hs,fun i5=> ?_⟩
 conv=>lhs;unfold gB
 rw[aR (by omega),aA (by omega),v1',aC];dsimp only;by_cases hv:v=0
 ·subst hv;rw[if_neg (by simp),f45_all _ a b c d e f g (rec_cnt hq _ hty),aC,aA (by omega),if_pos rfl]
 ·rw[if_pos (by simpa using hv),if_neg hv]
theorem qK :∀(j k n:Nat) (q:aBs),n+j=x.length→j<k→wJ (x.take n)=q→∃i z v:Int,gB x KF k (n,0,q)=some (i,z,v)∧(z=13∨z=0∧(n:Int)≤i)
 |0,k,n,q,hn,hk,hq=>by
  obtain⟨k,rfl⟩:∃z,k=z+1:=⟨k-1,by omega⟩
  obtain rfl:n=x.length:=by omega
  exact⟨0,13,0,first_end x k 0 q,.inl rfl⟩
 |j+1,k,n,q,hn,hk,hq=>by
  obtain⟨k,rfl⟩:∃z,k=z+1:=⟨k-1,by omega⟩
  obtain⟨v,_,_,q',hq',h⟩:=qL x hx hb k n q (by omega) hq
  rw[h]
  by_cases hv:v=0
  ·rw[if_pos hv]
   obtain⟨i,z,w,h1,h2⟩:=qK j k (n+1) q' (by omega) (by omega) hq'
   exact⟨i,z,w,h1,by omega⟩
  ·rw[if_neg hv]
   exact⟨n,0,v,rfl,.inr ⟨rfl,Int.le_refl _⟩⟩
theorem qM :∀(j k n:Nat) (q:aBs) (i v:Int),n+j=x.length→j<k→wJ (x.take n)=q→gB x KF k (n,0,q)=some (i,13,v)→∀m,n≤m→m<x.length→st (x.getD m default)=true→kv (x.take m) (x.getD m default)=0
 |0,k,n,q,i,v,hn,hk,hq,h=>fun m h1 h2=>by omega
 |j+1,k,n,q,i,v,hn,hk,hq,h=>fun m h1 h2 h3=>by
  obtain⟨k,rfl⟩:∃z,k=z+1:=⟨k-1,by omega⟩
  obtain⟨w,_,hw,q',hq',hs⟩:=qL x hx hb k n q (by omega) hq
  rw[hs]at h
  by_cases hv:w=0
  ·rw[if_pos hv]at h
   rcases Nat.lt_or_ge n m with hm|hm
   ·exact qM j k (n+1) q' i v (by omega) (by omega) hq' h m hm h2 h3
   ·obtain rfl:m=n:=by omega
    rw[←hw h3];exact hv
  ·rw[if_neg hv]at h
   simp at h
end
end Go.Abs
namespace Go.Abs
theorem R_len {e:Option (List UInt8×Int)} {cnt:Nat} {k:Int} {a b d:List UInt8} (he:∀v n,e=some (v,n)→v.length≤256∧1≤n∧n≤1000000000000) (hc:cnt≤64):(R e cnt k a b d).1.length≤400:=by
 have it:∀n:Int,-9223372036854775808≤n→n≤9223372036854775807→(Lib.itoa n).length≤21:=fun n h1 h2=>Lib.itoa_length_le n h1 h2;unfold R;split
 ·show cs3.length≤400;decide
 ·split
  ·have:=it (cnt:Int) (by omega) (by omega);have h9:cs9.length=6:=rfl;simp only[List.length_append];omega
  ·cases e with
   |none=>
    dsimp only;split
    ·split
     ·decide
     ·have:=it 1 (by decide) (by decide);have h9:okW.length=3:=rfl;simp only[List.length_append];omega
    ·decide
   |some p=>
    obtain⟨v,n⟩:=p;obtain⟨h1,h2,h3⟩:=he v n rfl;have m0:(0:Int)≤MV:=by decide
    have m1:MV≤9223372036854775807:=by decide
    have hm:(Lib.itoa (min (n+1) MV)).length≤21:=it (min (n+1) MV) (by omega) (by omega);have hn:=it n (by omega) (by omega);have h9:okW.length=3:=rfl;have h10:pG.length=6:=rfl;dsimp only
    repeat' split
    all_goals (simp only[List.length_append,List.length_cons,List.length_nil];omega)
theorem ent_bnd {l:List Pr} (h:StV l) (k:List UInt8):∀v n,ent l k=some (v,n)→v.length≤256∧1≤n∧n≤1000000000000:=by
 intro v n he;unfold ent at he;obtain⟨p,hp,e⟩:=Option.map_eq_some_iff.1 he;have hm:=List.mem_of_find?_eq_some hp;obtain⟨_,h2,h3,h4⟩:=h.each p hm;have e1:p.2.1=v:=congrArg Prod.fst e;have e2:p.2.2=n:=congrArg Prod.snd e;refine⟨?_,by rw[←e2];exact h3,by rw[←e2];exact h4⟩;rw[←e1];unfold gr at h2;simp only[Bool.and_eq_true,decide_eq_true_eq]at h2;omega
theorem pars_len (l1:List Pr) (op:List UInt8) (hop:op.length≤200) (hst:StV l1):∃s l1',StV l1'∧s.length≤400∧
  (∀ K : List UInt8 × List Pr → RApp, ((f84 op).bind fun(r8:Tq8)=>
   if(r8.2.2.2.2==(0:Int))=true then(f85 l1 r8.1 r8.2.1 r8.2.2.1 r8.2.2.2.1).bind fun(r9:List UInt8×List Pr)=>K (r9.1,r9.2)else K (cs5,l1))=K (s,l1')):=by
 obtain⟨k,a,b,d,e,_,hp2,ha,hb,hd⟩:=qD op (by omega);obtain⟨l',hx⟩:=exec l1 k a b d hst (by omega) (by omega) (by omega);rw[hp2];cases he:e==0
 ·refine⟨cs5,l1,hst,by decide,fun K=> ?_⟩;show(if(e==0)=true then(f85 l1 k a b d).bind (fun r9=>K (r9.1,r9.2))else K (cs5,l1))=_;rw[he];rfl
 ·refine⟨(R (ent l1 a) l1.length k a b d).1,l',hx.ok,R_len (ent_bnd hst a) hst.len,fun K=> ?_⟩;show(if(e==0)=true then(f85 l1 k a b d).bind (fun r9=>K (r9.1,r9.2))else K (cs5,l1))=_;rw[he,if_pos rfl,hx.spec];rfl
def McB (m:Mc):Prop:=McV m∧∀p,p∈m.2→p.2.2.length≤400
theorem f62_len (m:Mc) (q:Ss) (hm:McB m):∃m' s,f62 m.1 m.2 q.1 q.2.1 q.2.2=some (m'.1,m'.2,s)∧McB m'∧s.length≤400:=by
 obtain⟨m',s,_,h2,ha⟩:=rE m q hm.1;refine⟨m',s,h2, ?_⟩;have hmv:McV m':=ha.ok;obtain⟨l1,l2⟩:=m;obtain⟨c,n,op⟩:=q;obtain⟨⟨hst,hse⟩,hb⟩:=hm;simp only at hst hse hb h2
 have fin:∀{l1' l2' s'},f62 l1 l2 c n op=some (l1',l2',s')→(∀p,p∈l2'→p.2.2.length≤400)→s'.length≤400→McB m'∧s.length≤400:=fun{l1' l2' s'} h3 h4 h5=>by
  rw[h2]at h3;simp only[Option.some.injEq,Prod.mk.injEq]at h3;obtain⟨_,e2,e3⟩:=h3;exact⟨⟨hmv,by rw[e2];exact h4⟩,by rw[e3];exact h5⟩
 cases hg:jZ (c,n,op)
 ·exact fin (yU l1 l2 c n op hg) hb (by decide)
 obtain⟨c0,c6,n1,n2,hop⟩:=fS hg;simp only at c0 c6 n1 n2 hop;have hl6:=hse.len;obtain⟨s2,l1',hv',hs2,hK2⟩:=pars_len l1 op hop hst
 cases sview l2 c hse.srt with
 |hit A C n' r' e hA hC=>
  subst e;have hr':r'.length≤400:=hb (c,n',r') (by simp);have hsp:=kH l1 (A++(c,n',r')::C) A [(c,n',r')] C c n op hg (by simp) hl6 (fun a ha=>by rw[List.mem_singleton.1 ha]) hA hC c n' r' true (f83_hit l1 A C c n' r' (by omega) hA hC) s2 l1' hK2;split at hsp
  ·exact fin hsp hb (by decide)
  ·split at hsp
   ·exact fin hsp hb hr'
   ·refine fin hsp (fun p hp=> ?_) hs2;rcases List.mem_append.1 hp with hp|hp
    ·exact hb p (List.mem_append_left _ hp)
    ·rcases List.mem_cons.1 hp with rfl|hp
     ·exact hs2
     ·exact hb p (by simp[hp])
 |miss A C e hA hC=>
  subst e
  have hsp := kH l1 (A ++ C) A [] C c n op hg (by simp) hl6 (fun a ha => (List.not_mem_nil ha).elim) hA hC 0 0 [] false (zS l1 (A ++ C) c (by omega) (fun a ha => beq_eq_false_iff_ne.2 (by
   rcases List.mem_append.1 ha with ha|ha
   ·have:=hA a ha;omega
   ·have:=hC a ha;omega))) s2 l1' hK2
  rw[Bool.false_and,Bool.false_and,if_neg (by simp),if_neg (by simp)]at hsp;refine fin hsp (fun p hp=> ?_) hs2;rcases List.mem_append.1 hp with hp|hp
  ·exact hb p (List.mem_append_left _ hp)
  ·rcases List.mem_cons.1 hp with rfl|hp
   ·exact hs2
   ·exact hb p (List.mem_append_right _ hp)
theorem stpR_B {m:Mc} (q:Ss) (hm:McB m):McB (pH m q)∧(resR m q).length≤400:=by
 obtain⟨m',s,h2,h3,h4⟩:=f62_len m q hm;have e1:pH m q=m':=by unfold pH;rw[h2];rfl
 have e2:resR m q=s:=by unfold resR;rw[h2];rfl
 rw[e1,e2];exact⟨h3,h4⟩
theorem entR_B :∀(l:List Ss) (m:Mc),McB m→McB (pF m l).1∧∀r,r∈(pF m l).2→r.2.2.length≤400
 |[],m,hm=>⟨hm,by simp[pF]⟩
 |q::l,m,hm=>by
  obtain⟨h1,h2⟩:=stpR_B q hm
  obtain⟨h3,h4⟩:=entR_B l (pH m q) h1
  refine⟨h3,fun r hr=> ?_⟩
  rcases List.mem_cons.1 hr with rfl|hr
  ·exact h2
  ·exact h4 r hr
theorem f37_B (m:Mc) (hm:McB m) (v:List UInt8) (hv:v.length≤1000000):∃m' rs,f37 m.1 m.2 v=some (m'.1,m'.2,rs)∧McB m'∧rs.length≤8∧∀r,r∈rs→r.2.2.length≤400:=by
 obtain⟨k,c,l,e,_,h2,h8⟩:=aAy v hv;unfold f37;rw[h2,aC];by_cases he:(e !=0)=true
 ·rw[if_pos he];exact⟨m,[],rfl,hm,by simp,by simp⟩
 ·rw[if_neg he,bV];have a2:=oS (k,c,l,e) h8 (fun((l10,l11,l12):List Pr×List Ss×List Ss)=>some (l10,l11,l12)) l.length bG 0 m [] hm.1 (by simp) (fuel_lt (by omega)) (by simp);obtain⟨h3,h4⟩:=entR_B l m hm;exact⟨(pF m l).1,(pF m l).2,a2,h3,by rw[sJ];exact h8,h4⟩
end Go.Abs
namespace Go.Abs
open Go Go.RowKit Go.ChangeShapes Go.WideShapes Go.ChangeAt Go.Deep
section
variable {P:Program}
end
section
variable {H:Type} {enc:TypeId×Value→H} {P:Program} {W:World} {t e:TypeId} {base:Nat} {v:Value} {d:DataW H} {ps:List MemPlace}
end
def i64B (n:Int):Prop:= -9223372036854775808≤n∧n≤9223372036854775807
end Go.Abs
namespace Go.Abs
open Go Go.RowKit Go.ChangeShapes Go.WideShapes Go.ChangeAt Go.Deep
section
variable {H:Type} {enc:TypeId×Value→H} {P:Program} {W:World} {t e:TypeId} {base:Nat} {v:Value} {d:DataW H} {ps:List MemPlace}
end
end Go.Abs
namespace Go.Abs
abbrev St4 :=Int×Int×Int×Int
def okSt (x:St4):Prop:=(0≤x.1∧x.1≤255)∧(0≤x.2.1∧x.2.1≤255)∧(0≤x.2.2.1∧x.2.2.1≤255)∧(0≤x.2.2.2∧x.2.2.2≤255)
def okM (p:Y51):Prop:=i64B p.1∧i64B p.2.1∧i64B p.2.2.1∧i64B p.2.2.2.1∧i64B p.2.2.2.2.1∧p.2.2.2.2.2.1.length≤2000∧p.2.2.2.2.2.2.length≤401
theorem oQ (k c:Int) (l:List Ss) (hl:l.length≤1000000):∃r e,f39 k c l=some (r,e)∧r.length≤2000:=by
 obtain⟨v,h1,h2⟩:=f64_gen k c l hl;unfold f39;rw[h1,aC];by_cases hv:v=0
 ·have hE:=h2.1 hv;rw[if_neg (by simp[hv]),f65_eq hE,aC];exact⟨_,_,rfl,rH hE⟩
 ·rw[if_pos (by simpa using hv)];exact⟨[],v,rfl,by simp⟩
theorem f36_tot (x:Int) (h:0≤x∧x≤255):∃r,f36 x=some r∧r.length≤2000:=by
 unfold f36;have h1:0≤x%4:=Int.emod_nonneg _ (by omega);have h2:x%4<4:=Int.emod_lt_of_pos _ (by omega);rw[aA (by omega),aA (by omega),aA (by omega)];refine⟨_,rfl, ?_⟩;have:(x%4).toNat=0∨(x%4).toNat=1∨(x%4).toNat=2∨(x%4).toNat=3:=by omega
 rcases this with h|h|h|h<;>rw[h]<;>decide
theorem f40_ok2 (i1 i2 i3 i4 i5:Int) (s6 s7:List UInt8) (o:Int) (h1:0≤i1∧i1≤1000) (h2:0≤i2∧i2≤1000) (h3:0≤i3∧i3≤1000) (h4:0≤i4∧i4≤1000) (h5:0≤i5∧i5≤1000) (h6:s6.length≤2000) (h7:s7.length≤400):
  ∃p:Y51,f40 i1 i2 i3 i4 i5 s6 s7 o=some p∧okM p:=by
 obtain⟨r,e,g1,g2⟩:=oQ 3 0 [] (by simp)
 have key:∀a b c:Int,∀u v:List UInt8,0≤a∧a≤1001→0≤b∧b≤1001→0≤c∧c≤1001→u.length≤2000→v.length≤401→∃p:Y51,(some (i1,i2,a,b,c,u,v):Option Y51)=some p∧okM p:=fun a b c u v ha hb hc hu hv=>
  ⟨_,rfl,by unfold okM i64B;dsimp only;omega⟩
 have m2:0≤(i3+1)%2:=Int.emod_nonneg _ (by omega);have m3:(i3+1)%2<2:=Int.emod_lt_of_pos _ (by omega);unfold f40;rw[bV];split
 ·rw[aA (by omega)];exact key _ _ _ _ _ (by omega) (by omega) (by omega) h6 (by omega)
 split
 ·rw[aA (by omega)];exact key _ _ _ _ _ (by omega) (by omega) (by omega) h6 (by omega)
 split
 ·rw[aA (by omega),aA (by omega)];exact key _ _ _ _ _ (by omega) (by omega) (by omega) h6 (by omega)
 split
 ·rw[aA (by simp only[List.length_cons,List.length_nil];omega)];exact key _ _ _ _ _ (by omega) (by omega) (by omega) h6 (by simp only[List.length_append,List.length_cons,List.length_nil];omega)
 split
 ·rw[g1,aC];exact key _ _ _ _ _ (by omega) (by omega) (by omega) g2 (by omega)
 split
 ·exact key _ _ _ _ _ (by omega) (by omega) (by omega) h6 (by omega)
 ·exact key _ _ _ _ _ (by omega) (by omega) (by omega) h6 (by omega)
theorem f63_B (l:List Ty0) (n:Nat) (hn:n≤l.length) (hl:n≤1000) (hv:∀v,v∈l→v.length≤2000) (K:RMc→Option RMc):∀(d k i:Nat) (m:Mc),McB m→i+d=n→d<k→∃m':Mc,McB m'∧mN n l K k (i,m.1,m.2)=K (m'.1,m'.2)
 |0,k,i,m,hm,hi,hk=>by
  obtain⟨k,rfl⟩:∃z,k=z+1:=⟨k-1,by omega⟩
  refine⟨m,hm, ?_⟩
  conv=>lhs;unfold mN
  rw[aO (by omega)]
 |d+1,k,i,m,hm,hi,hk=>by
  obtain⟨k,rfl⟩:∃z,k=z+1:=⟨k-1,by omega⟩
  obtain⟨m1,rs,h1,h2,_,_⟩:=f37_B m hm (l.getD (0+i) []) (by have:=hv _ (bU l (0+i) [] (by omega));omega)
  obtain⟨m',g1,g2⟩:=f63_B l n hn hl hv K d k (i+1) m1 h2 (by omega) (by omega)
  refine⟨m',g1, ?_⟩
  conv=>lhs;unfold mN
  rw[aR (by omega),h1,aC,aA (by omega),aA (by omega),aA (by omega)]
  exact g2
theorem McB.nil :McB ([],[]):=⟨⟨StV.nil,SesV.nil⟩,by simp⟩
theorem f38_B (l:List Ty0) (n:Nat) (hn:n≤l.length) (hl:n≤1000) (hv:∀v,v∈l→v.length≤2000):∃m':Mc,McB m'∧f38 n l=some (m'.1,m'.2):=by
 obtain⟨m',h1,h2⟩:=f63_B l n hn hl hv (fun((l9,l10):RMc)=>some (l9,l10)) n bG 0 ([],[]) McB.nil (by omega) (fuel_lt (by omega));refine⟨m',h1, ?_⟩;unfold f38 f63;rw[bV];refine(congrArg (fun z=>Option.bind z _) h2).trans ?_;rfl
theorem oW (x:List St4) (n2:Nat) (l3:List Int) (n19 b:Nat) (K:(Nat×List UInt8)→Option (List Y51)) (r24:List Pr×List Ss×List Ss) (h8:r24.2.2.length≤8) (hr:∀r,r∈r24.2.2→r.2.2.length≤400) (hb:n19≤b):
  ∀(d k i n:Nat) (s:List UInt8),i+d=r24.2.2.length→d<k→n≤b→s.length≤400→∃n' s',n'≤b∧s'.length≤400∧gD x n2 l3 n19 K r24 k (i,n,s)=K (n',s')
 |0,k,i,n,s,hi,hk,hn,hs=>by
  obtain⟨k,rfl⟩:∃z,k=z+1:=⟨k-1,by omega⟩
  refine⟨n,s,hn,hs, ?_⟩
  conv=>lhs;unfold gD
  rw[aO (by omega)]
 |d+1,k,i,n,s,hi,hk,hn,hs=>by
  obtain⟨k,rfl⟩:∃z,k=z+1:=⟨k-1,by omega⟩
  have hm:=hr _ (bU r24.2.2 i default (by omega))
  have e:gD x n2 l3 n19 K r24 (k+1) (i,n,s)=gD x n2 l3 n19 K r24 k (i+1,n19,(r24.2.2.getD i default).2.2)∨gD x n2 l3 n19 K r24 (k+1) (i,n,s)=gD x n2 l3 n19 K r24 k (i+1,n,s):=by
   conv=>enter [1,1];unfold gD
   conv=>enter [2,1];unfold gD
   rw[aR (by omega),bV,aA (by omega),aA (by omega),aA (fun _=>by omega),aA (fun _=>by omega),aA (by omega),aA (by omega)]
   dsimp only
   rw[aA (by omega),aA (by omega)]
   split
   ·exact .inl rfl
   ·exact .inr rfl
  rcases e with e|e
  ·obtain⟨n',s',g1,g2,g3⟩:=oW x n2 l3 n19 b K r24 h8 hr hb d k (i+1) n19 _ (by omega) (by omega) hb hm
   exact⟨n',s',g1,g2,e.trans g3⟩
  ·obtain⟨n',s',g1,g2,g3⟩:=oW x n2 l3 n19 b K r24 h8 hr hb d k (i+1) n s (by omega) (by omega) hn hs
   exact⟨n',s',g1,g2,e.trans g3⟩
end Go.Abs
namespace Go.Abs
abbrev K2T :=Nat×Int×Int×Int×List UInt8×List UInt8×List Int×List Ss×List Int×List Ty0
theorem vO (x:List St4) (n2:Nat) (l3:List Int) (l4:List Ss) (l5:List Int) (l7:List Ty0) (K:K2T→Option (List Y51)) (c:Int) (hc:((x.getD n2 default).2.1%4)%2=c) (hc2:0≤c∧c<2) (h5:l5.length=4) (B:Nat) (hB:l5.getD (2+c).toNat 0=(B:Int)) (hBl:B≤l7.length) (hB2:B≤1000) (hv:∀v,v∈l7→v.length≤2000) (num:Int) (hnum:(1:Int)+((x.getD n2 default).2.2.1%(max (1:Int) (l3.getD c.toNat 0)))=num):
  ∀(d k i n:Nat) (s:List UInt8),i+d=B→d<k→n≤B→s.length≤400→∃n' s',n'≤B∧s'.length≤400∧kY x n2 l3 l4 l5 K k (i,n,s,l7)=K (2,c,(n':Int),num,[],s',l3,l4,l5,l7)
 |0,k,i,n,s,hi,hk,hn,hs=>by
  obtain⟨k,rfl⟩:∃z,k=z+1:=⟨k-1,by omega⟩
  refine⟨n,s,hn,hs, ?_⟩
  conv=>lhs;unfold kY
  rw[hc,hnum,hB,aA (by omega),aA (by omega),aA (by omega),aO (by omega)]
 |d+1,k,i,n,s,hi,hk,hn,hs=>by
  obtain⟨k,rfl⟩:∃z,k=z+1:=⟨k-1,by omega⟩
  obtain⟨m,m1,m2⟩:=f38_B l7 i (by omega) (by omega) hv
  obtain⟨m',rs,r1,_,r3,r4⟩:=f37_B m m1 (l7.getD i []) (by have:=hv _ (bU l7 i [] (by omega));omega)
  obtain⟨n',s',g1,g2,g3⟩:=oW x n2 l3 i B (fun((n30,s31):Nat×List UInt8)=>chk (((i:Int)+(1:Int))≤9223372036854775807) ((kY x n2 l3 l4 l5 K k) ((i+1),n30,s31,l7))) (m'.1,m'.2,rs) r3 r4 (by omega) rs.length bG 0 n s (by simp) (fuel_lt (by omega)) hn hs
  obtain⟨n2',s2',q1,q2,q3⟩:=vO x n2 l3 l4 l5 l7 K c hc hc2 h5 B hB hBl hB2 hv num hnum d k (i+1) n' s' (by omega) (by omega) g1 g2
  refine⟨n2',s2',q1,q2, ?_⟩
  conv=>lhs;unfold kY
  rw[hc,hB,aA (by omega),aA (by omega),aA (by omega),aR (by omega),bV,m2,aC]
  dsimp only
  rw[r1,aC,aA (by omega),aA (by omega),aA (by omega)]
  refine g3.trans ?_
  dsimp only
  rw[aA (by omega)]
  exact q3
def MInv (n:Nat) (l3:List Int) (l4:List Ss) (l5:List Int) (l7:List Ty0):Prop:=
 (l3.length=2∧∀i,i<2→0≤l3.getD i 0∧l3.getD i 0≤n)∧l4.length≤n∧(l5.length=4∧∀i,i<4→0≤l5.getD i 0∧l5.getD i 0≤l7.length)∧l7.length≤n∧∀v,v∈l7→v.length≤2000
theorem rV {α:Type} (l:List α) (i j:Nat) (a d:α) (hi:i<l.length):(l.set i a).getD j d=if j=i then a else l.getD j d:=by
 simp only[List.getD_eq_getElem?_getD,List.getElem?_set];by_cases h:i=j
 ·subst h;simp[hi]
 ·rw[if_neg h,if_neg (Ne.symm h)]
def K2f (x:List St4) (K:List Y51→Option (List Y51)) (k n:Nat) (l6:List Y51):K2T→Option (List Y51):=fun(n9,i10,i11,i12,s13,s14,l15,l16,l17,l18)=>
 (f40 (n:Int) (n9:Int) i10 i11 i12 s13 s14 ((x.getD n default).2.2.2)).bind fun(r41:Tq9)=>
 chk (((l6).length+1) *368≤140737488355328)<|
 chk (((n:Int)+(1:Int))≤9223372036854775807)<|
 (eN x K k) ((n+1),l15,l16,l17,(l6++[((r41.1,r41.2.1,r41.2.2.1,r41.2.2.2.1,r41.2.2.2.2.1,r41.2.2.2.2.2.1,r41.2.2.2.2.2.2):Y51)]),l18)
theorem K2f_ok (x:List St4) (K:List Y51→Option (List Y51)) (k n:Nat) (l6:List Y51) (hn:n<50) (h6:l6.length=n) (n9:Nat) (i10 i11 i12:Int) (s13 s14:List UInt8) (l15:List Int) (l16:List Ss) (l17:List Int) (l18:List Ty0) (a9:n9≤4) (a10:0≤i10∧i10≤3) (a11:0≤i11∧i11≤50) (a12:0≤i12∧i12≤300) (a13:s13.length≤2000) (a14:s14.length≤400):
  ∃p,okM p∧K2f x K k n l6 (n9,i10,i11,i12,s13,s14,l15,l16,l17,l18)=eN x K k (n+1,l15,l16,l17,l6++[p],l18):=by
 obtain⟨p,h1,h2⟩:=f40_ok2 (n:Int) (n9:Int) i10 i11 i12 s13 s14 ((x.getD n default).2.2.2) (by omega) (by omega) (by omega) (by omega) (by omega) a13 a14;refine⟨p,h2, ?_⟩;unfold K2f;dsimp only;rw[h1,aC,aA (by omega),aA (by omega)]
theorem f12_step (x:List St4) (hx:∀q,q∈x→okSt q) (K:List Y51→Option (List Y51)) (k n:Nat) (l3:List Int) (l4:List Ss) (l5:List Int) (l6:List Y51) (l7:List Ty0) (hn:n<x.length) (hn5:n<50) (h6:l6.length=n) (hI:MInv n l3 l4 l5 l7):
  ∃p l3' l4' l5' l7',okM p∧MInv (n+1) l3' l4' l5' l7'∧eN x K (k+1) (n,l3,l4,l5,l6,l7)=eN x K k (n+1,l3',l4',l5',l6++[p],l7'):=by
 obtain⟨⟨h3,h3'⟩,h4,⟨h5,h5'⟩,h7,hv⟩:=hI;obtain⟨⟨x1,x2⟩,⟨w1,w2⟩,⟨p1,p2⟩,o1,o2⟩:=hx _ (bU x n default hn);have e0:eN x K (k+1) (n,l3,l4,l5,l6,l7)=eN x K (k+1) (n,l3,l4,l5,l6,l7):=rfl;have m1:0≤(x.getD n default).2.1%4:=Int.emod_nonneg _ (by omega);have m2:(x.getD n default).2.1%4<4:=Int.emod_lt_of_pos _ (by omega);have c1:0≤((x.getD n default).2.1%4)%2:=Int.emod_nonneg _ (by omega);have c2:((x.getD n default).2.1%4)%2<2:=Int.emod_lt_of_pos _ (by omega)
 have fin:∀(n9:Nat) (i10 i11 i12:Int) (s13 s14:List UInt8) (l15:List Int) (l16:List Ss) (l17:List Int) (l18:List Ty0),n9≤4→0≤i10∧i10≤3→0≤i11∧i11≤50→0≤i12∧i12≤300→s13.length≤2000→s14.length≤400→MInv (n+1) l15 l16 l17 l18→
   ∃p l3' l4' l5' l7',okM p∧MInv (n+1) l3' l4' l5' l7'∧K2f x K k n l6 (n9,i10,i11,i12,s13,s14,l15,l16,l17,l18)=eN x K k (n+1,l3',l4',l5',l6++[p],l7'):=fun n9 i10 i11 i12 s13 s14 l15 l16 l17 l18 a9 a10 a11 a12 a13 a14 hI=>by
  obtain⟨p,g1,g2⟩:=K2f_ok x K k n l6 hn5 h6 n9 i10 i11 i12 s13 s14 l15 l16 l17 l18 a9 a10 a11 a12 a13 a14;exact⟨p,l15,l16,l17,l18,g1,hI,g2⟩
 conv=>enter [1,p,1,a,1,b,1,c,1,d,2,2,1];unfold eN
 rw[if_pos (by rw[decide_eq_true (by omega),decide_eq_true (by omega)];rfl),aA (by omega),aA (by omega),aA (by omega),bV,aA (by omega)];generalize hw:(x.getD n default).2.1%4=w at *;generalize hcc:w%2=c at *;generalize hp:(x.getD n default).2.2.1=pk at *;have hcn:c.toNat<2:=by omega
 obtain⟨b1,b2⟩:=h3' c.toNat hcn;by_cases k0:((x.getD n default).1%(5:Int)==(0:Int))=true
 ·-- an invocation
  rw[if_pos k0];obtain⟨r8,r1,r2⟩:=f36_tot pk ⟨p1,p2⟩;have e1:(l3.set c.toNat (l3.getD c.toNat 0+1)).length=2:=by rw[List.length_set,h3]
  have e2:(l3.set c.toNat (l3.getD c.toNat 0+1)).getD c.toNat 0=l3.getD c.toNat 0+1:=by rw[rV _ _ _ _ _ (by omega),if_pos rfl]
  rw[aA (by omega),aA (by omega),aA (by omega),aA (by omega),aA (by omega),aA (by omega),r1,aC,e1,e2,aA (by omega),aA (by omega),aA (by omega),aA (by omega),aA (by omega),aA (by omega)];refine fin 1 c 0 (l3.getD c.toNat 0+1) r8 [] _ _ l5 l7 (by omega) (by omega) (by omega) (by omega) r2 (by simp) ⟨⟨e1,fun i hi=> ?_⟩, ?_,⟨h5,h5'⟩,by omega,hv⟩
  ·rw[rV _ _ _ _ _ (by omega)];split
   ·omega
   ·have:=h3' i hi;omega
  ·rw[List.length_append];simp only[List.length_cons,List.length_nil];omega
 ·rw[if_neg k0];by_cases k4:((x.getD n default).1%(5:Int)==(4:Int))=true
  ·-- an acknowledgement
   rw[if_pos k4];have hmx:(1:Int)≤max 1 (l3.getD c.toNat 0):=by omega
   have hpm0:0≤pk%(max (1:Int) (l3.getD c.toNat 0)):=Int.emod_nonneg _ (by omega);have hpm1:pk%(max (1:Int) (l3.getD c.toNat 0))<max (1:Int) (l3.getD c.toNat 0):=Int.emod_lt_of_pos _ (by omega);rw[aA (by omega),aA (by omega),aA (by omega),aA (by omega),aA (by omega),aA (by omega)];obtain⟨q1,q2⟩:=h5' (2+c).toNat (by omega);obtain⟨n',s',g1,g2,g3⟩:=vO x n l3 l4 l5 l7 (K2f x K k n l6) c (by rw[hw,hcc]) ⟨c1,c2⟩ h5 (l5.getD (2+c).toNat 0).toNat (by omega) (by omega) (by omega) hv _ rfl (l5.getD (2+c).toNat 0).toNat bG 0 0 [] (by omega) (fuel_lt (by omega)) (by omega) (by simp);rw[hp]at g3;obtain⟨p,l3',l4',l5',l7',f1,f2,f3⟩:=fin 2 c (n':Int) (1+pk%(max (1:Int) (l3.getD c.toNat 0))) [] s' l3 l4 l5 l7 (by omega) (by omega) (by omega) (by omega) (by simp) g2 ⟨⟨h3,fun i hi=>by have:=h3' i hi;omega⟩,by omega,⟨h5,h5'⟩,by omega,hv⟩;exact⟨p,l3',l4',l5',l7',f1,f2,g3.trans f3⟩
  ·-- an entry that a party states
   rw[if_neg k4,bV];have hwn:w.toNat<4:=by omega
   obtain⟨q1,q2⟩:=h5' w.toNat hwn
   have K5:∀(l37:List Ss) (l38:List Ty0),l37.length≤n+1→l38.length≤n+1→(∀v,v∈l38→v.length≤2000)→l5.getD w.toNat 0<l38.length→(∀i,i<4→l5.getD i 0≤l38.length)→
     ∃p l3' l4' l5' l7',okM p∧MInv (n+1) l3' l4' l5' l7'∧
      (chk (0≤w∧w<(((l5).length:Nat):Int))<|chk ((w.toNat)<(l5).length)<|chk (0≤w∧w<(((l5).length:Nat):Int))<|chk ((w.toNat)<(l5).length)<|
      chk (0≤(l5.getD (w.toNat) 0)∧(l5.getD (w.toNat) 0)<(((l38).length:Nat):Int))<|chk ((((l5.getD (w.toNat) 0)).toNat)<(l38).length)<|
      jn (fun((n39,i40):Nat×Int)=>chk (0≤w∧w<(((l5).length:Nat):Int))<|chk ((w.toNat)<(l5).length)<|
       chk (-9223372036854775808≤((l5.getD (w.toNat) 0)+(1:Int))∧((l5.getD (w.toNat) 0)+(1:Int))≤9223372036854775807)<|chk (0≤w∧w<(((l5).length:Nat):Int))<|chk ((w.toNat)<(l5).length)<|
       K2f x K k n l6 (n39,i40,(l5.getD (w.toNat) 0),(0:Int),(l38.getD (((l5.getD (w.toNat) 0)).toNat) []),[],l3,l37,(l5.set (w.toNat) ((l5.getD (w.toNat) 0)+(1:Int))),l38))
      fun(K7:(Nat×Int)→Option (List Y51))=>
      if(decide (w≥(2:Int)))=true then(chk (-9223372036854775808≤(w-(2:Int))∧(w-(2:Int))≤9223372036854775807)<|K7 (3,(w-(2:Int))))else K7 (4,w))=eN x K k (n+1,l3',l4',l5',l6++[p],l7'):=fun l37 l38 a1 a2 a3 a4 a5=>by
    rw[aA (by omega),aA (by omega),aA (by omega),aA (by omega),aA (by omega),aA (by omega),bV]
    have hI' : MInv (n + 1) l3 l37 (l5.set w.toNat (l5.getD w.toNat 0 + 1)) l38 := ⟨⟨h3, fun i hi => by have := h3' i hi; omega⟩, a1, ⟨by rw[List.length_set,h5],fun i hi=>by
     rw[rV _ _ _ _ _ (by omega)];split
     ·omega
     ·have:=h5' i hi;have:=a5 i hi;omega⟩,a2,a3⟩
    have hg:((l38.getD (l5.getD w.toNat 0).toNat [])).length≤2000:=a3 _ (bU l38 _ [] (by omega));by_cases hw2:w≥2
    ·rw[aR hw2,aA (by omega)];dsimp only;rw[aA (by omega),aA (by omega),aA (by omega),aA (by omega),aA (by omega)];exact fin 3 (w-2) _ 0 _ [] _ _ _ _ (by omega) (by omega) (by omega) (by omega) hg (by simp) hI'
    ·rw[aO hw2];dsimp only;rw[aA (by omega),aA (by omega),aA (by omega),aA (by omega),aA (by omega)];exact fin 4 w _ 0 _ [] _ _ _ _ (by omega) (by omega) (by omega) (by omega) hg (by simp) hI'
   rw[aA (by omega),aA (by omega)];by_cases hl:(l5.getD w.toNat 0==((l7.length:Nat):Int))=true
   ·rw[if_pos hl,bV,aA (by omega)];have hle:l5.getD w.toNat 0=((l7.length:Nat):Int):=eq_of_beq hl;have K6:∀(n32 n33:Nat) (l34 l35:List Ss),l34.length≤n+1→l35.length≤1000000→∃r e,f39 (n32:Int) (n33:Int) l35=some (r,e)∧r.length≤2000:=fun n32 n33 l34 l35 _ a2=>oQ _ _ l35 a2
    have fin5:∀(r:List UInt8) (l34:List Ss),r.length≤2000→l34.length≤n+1→l34.length≤n+1∧(l7++[r]).length≤n+1∧(∀v,v∈l7++[r]→v.length≤2000)∧l5.getD w.toNat 0<(l7++[r]).length∧(∀i,i<4→l5.getD i 0≤(l7++[r]).length):=fun r l34 a1 a2=>by
     have e:(l7++[r]).length=l7.length+1:=by simp
     refine⟨a2,by omega,fun v hv'=> ?_,by omega,fun i hi=>by have:=h5' i hi;omega⟩;rcases List.mem_append.1 hv' with h|h
     ·exact hv v h
     ·rw[List.mem_singleton.1 h];exact a1
    by_cases h3p:(pk%(4:Int)==(3:Int))=true
    ·rw[if_pos h3p];obtain⟨r,e,g1,g2⟩:=oQ ((2:Nat):Int) ((1:Nat):Int) [] (by simp);obtain⟨b1,b2,b3,b4,b5⟩:=fin5 r l4 g2 (by omega);dsimp only;rw[g1,aC,aA (by omega)];exact K5 l4 (l7++[r]) b1 b2 b3 b4 b5
    ·rw[if_neg h3p];by_cases hz:((l4.length:Nat):Int)>0
     ·rw[aR hz,aA (by omega),aA (by omega),aA (by omega),aA (by omega)];obtain⟨r,e,g1,g2⟩:=oQ ((1:Nat):Int) ((0:Nat):Int) [((l4.getD 0 (default:Tq0)).1,(l4.getD 0 (default:Tq0)).2.1,(l4.getD 0 (default:Tq0)).2.2)] (by simp);obtain⟨b1,b2,b3,b4,b5⟩:=fin5 r ([]++l4.drop 1) g2 (by simp only[List.nil_append,List.length_drop];omega);dsimp only;rw[g1,aC,aA (by omega)];exact K5 _ (l7++[r]) b1 b2 b3 b4 b5
     ·rw[aO hz];obtain⟨r,e,g1,g2⟩:=oQ ((1:Nat):Int) ((0:Nat):Int) [] (by simp);obtain⟨b1,b2,b3,b4,b5⟩:=fin5 r l4 g2 (by omega);dsimp only;rw[g1,aC,aA (by omega)];exact K5 l4 (l7++[r]) b1 b2 b3 b4 b5
   ·rw[if_neg hl];have hne:l5.getD w.toNat 0≠((l7.length:Nat):Int):=fun h=>hl (by rw[h];simp);exact K5 l4 l7 (by omega) (by omega) hv (by omega) (fun i hi=>(h5' i hi).2)
theorem aAj (x:List St4) (hx:∀q,q∈x→okSt q) (hl:x.length≤9223372036854775807):∀(d k n:Nat) (l3:List Int) (l4:List Ss) (l5:List Int) (l6:List Y51) (l7:List Ty0),n+d=min x.length 50→d<k→l6.length=n→MInv n l3 l4 l5 l7→(∀p,p∈l6→okM p)→
  ∃out,eN x (fun l=>some l) k (n,l3,l4,l5,l6,l7)=some out∧out.length≤50∧∀p,p∈out→okM p
 |0,k,n,l3,l4,l5,l6,l7,hn,hk,h6,hI,hp=>by
  obtain⟨k,rfl⟩:∃z,k=z+1:=⟨k-1,by omega⟩
  refine⟨l6, ?_,by omega,hp⟩
  conv=>lhs;unfold eN
  rw [if_neg (by
   intro z
   simp only[Bool.and_eq_true,decide_eq_true_eq]at z
   omega)]
 |d+1,k,n,l3,l4,l5,l6,l7,hn,hk,h6,hI,hp=>by
  obtain⟨k,rfl⟩:∃z,k=z+1:=⟨k-1,by omega⟩
  obtain⟨p,l3',l4',l5',l7',h1,h2,h3⟩:=f12_step x hx (fun l=>some l) k n l3 l4 l5 l6 l7 (by omega) (by omega) h6 hI
  obtain ⟨out, g1, g2, g3⟩ := aAj x hx hl d k (n + 1) l3' l4' l5' (l6 ++ [p]) l7' (by omega) (by omega) (by rw [List.length_append, h6]; rfl) h2 (fun q hq=>by
   rcases List.mem_append.1 hq with h|h
   ·exact hp q h
   ·rw[List.mem_singleton.1 h];exact h1)
  exact⟨out,h3.trans g1,g2,g3⟩
theorem f12_ok2 (x:List St4) (hx:∀q,q∈x→okSt q) (hl:x.length≤9223372036854775807):∃out,f12 x=some out∧out.length≤50∧∀p,p∈out→okM p:=by
 unfold f12;rw[bV]
 exact aAj x hx hl (min x.length 50) bG 0 _ [] _ [] [] (by omega) (fuel_lt (by omega)) rfl ⟨⟨rfl,fun i hi=>by
  match i,hi with
  |0,_=>decide
  | 1, _ => decide⟩, by simp, ⟨by simp,fun i hi=>by
  have:(List.replicate 4 (0:Int)).getD i 0=0:=by
   match i,hi with
   |0,_=>rfl
   |1,_=>rfl
   |2,_=>rfl
   |3,_=>rfl
  rw[this];simp⟩,by simp,by simp⟩ (by simp)
end Go.Abs
namespace Go.Abs
theorem f41_KF (x:List Y51):f41 x 0=gB x KF bG (0,0,[],[],[],[],[],[],[]):=by
 unfold f41 f44;rw[aC,bV]
/-! ### without a violation -/
def sS (c:Int) (p:Y51):Bool:=(p.2.1==(3:Int))&&(p.2.2.1==c)
theorem acc_st {c:Int} (hc:0≤c∧c<6) {p:Y51} (h:sS c p=true):st p=true∧p.2.1=3∧who p=c:=by
 unfold sS at h;simp only[Bool.and_eq_true,beq_iff_eq]at h;refine⟨?_,h.1,h.2⟩;unfold st pty;rw[if_neg (by omega),if_pos (by omega)]
section
variable (x:List Y51) (hs:∀m,m<x.length→st (x.getD m default)=true→kv (x.take m) (x.getD m default)=0)
include hs
theorem yW (m:Nat) (hm:m<x.length) (h:st (x.getD m default)=true):(∀u,u∈tx (x.take m) (slot (x.getD m default))→u=eB (x.getD m default))∧((x.getD m default).2.1=3→slot (x.getD m default)=((acN (x.take m) (who (x.getD m default)):Nat):Int)):=by
 have h1:=hs m hm h;unfold kv at h1
 cases ha:(tx (x.take m) (slot (x.getD m default))).any fun u=> !(u==eB (x.getD m default))with
 |true=>rw[if_pos ha]at h1;cases h1
 |false=>
  rw[if_neg (by rw[ha];simp)]at h1;refine⟨fun u hu=> ?_,fun h3=> ?_⟩
  ·have:=List.any_eq_false.1 ha u hu;simpa using this
  ·by_cases hq:((x.getD m default).2.1==(3:Int)&&(slot (x.getD m default) !=((acN (x.take m) (who (x.getD m default)):Nat):Int)))=true
   ·rw[if_pos hq]at h1;cases h1
   ·rw[h3]at hq;simpa using hq
theorem rK :∀n,n≤x.length→∀s u v,u∈tx (x.take n) s→v∈tx (x.take n) s→u=v
 |0,_,s,u,v,hu,_=>by
  rw[List.take_zero]at hu;cases hu
 |n+1,hn,s,u,v,hu,hv=>by
  rw[nP x n default (by omega),yJ,yI]at hu hv
  have ih:=rK n (by omega) s
  by_cases h:st (x.getD n default)=true∧slot (x.getD n default)=s
  ·rw[if_pos h]at hu hv
   obtain⟨a,_⟩:=yW x hs n (by omega) h.1
   rw[h.2]at a
   have key:∀w,w∈tx (x.take n) s++[eB (x.getD n default)]→w=eB (x.getD n default):=fun w hw=>by
    rcases List.mem_append.1 hw with h1|h1
    ·exact a w h1
    ·exact List.mem_singleton.1 h1
   rw[key u hu,key v hv]
  ·rw[if_neg h,List.append_nil]at hu hv
   exact ih u v hu hv
theorem yX (c:Int) (hc:0≤c∧c<6):∀n,n≤x.length→∀j:Nat,j<(((x.take n).filter (sS c)).map eB).length→(((x.take n).filter (sS c)).map eB).getD j []∈tx (x.take n) (j:Int)
 |0,_,j,hj=>by simp at hj
 |n+1,hn,j,hj=>by
  have ih:=yX c hc n (by omega) j
  rw[nP x n default (by omega),List.filter_append,List.map_append]at hj⊢
  rw[yJ,yI]
  generalize hp:x.getD n default=p at *
  by_cases h:sS c p=true
  ·rw[List.filter_cons_of_pos h]at hj⊢
   simp only[List.filter_nil,List.map_cons,List.map_nil,List.length_append,List.length_cons,List.length_nil]at hj⊢
   rcases Nat.lt_or_ge j (((x.take n).filter (sS c)).map eB).length with h1|h1
   ·rw [show((((x.take n).filter (sS c)).map eB)++[eB p]).getD j []=(((x.take n).filter (sS c)).map eB).getD j [] by
     simp only[List.getD_eq_getElem?_getD];rw[List.getElem?_append_left h1]]
    exact List.mem_append_left _ (ih h1)
   ·obtain rfl:j=(((x.take n).filter (sS c)).map eB).length:=by omega
    rw [show((((x.take n).filter (sS c)).map eB)++[eB p]).getD (((x.take n).filter (sS c)).map eB).length []=eB p by
     simp only[List.getD_eq_getElem?_getD];rw[List.getElem?_append_right (Nat.le_refl _)];simp]
    obtain⟨a1,a2,a3⟩:=acc_st hc h
    obtain⟨_,b⟩:=yW x hs n (by omega) (by rw[hp];exact a1)
    rw[hp]at b
    have b1:=b a2
    have e:acN (x.take n) (who p)=(((x.take n).filter (sS c)).map eB).length:=by
     unfold acN
     rw[List.length_map]
     congr 1
     refine List.filter_congr fun q _=> ?_
     rw[a3]
     by_cases hq:sS c q=true
     ·obtain⟨c1,c2,c3⟩:=acc_st hc hq
      rw[hq,c1,c2,c3];simp
     ·have hq':sS c q=false:=by simpa using hq
      rw[hq']
      unfold sS at hq'
      rw[beqD q.2.2.1]at hq'
      show(st q&&((q.2.1==3)&&decide (q.2.2.1=c)))=false
      rw[hq',Bool.and_false]
    refine List.mem_append_right _ ?_
    rw[if_pos ⟨a1,by rw[b1,e]⟩]
    exact List.mem_singleton.2 rfl
  ·rw[List.filter_cons_of_neg h]at hj⊢
   simp only[List.filter_nil,List.map_nil,List.append_nil]at hj⊢
   exact List.mem_append_left _ (ih hj)
theorem aAz (hx:x.length≤1000000):∀(m k:Nat) (l:List Ty0),l.length+m=(lR x).1.length+1→m<k→(∀i:Nat,i<l.length→tx x (i:Int)≠[]∧l.getD i []=(tx x (i:Int)).headD [])→
  ∃out,iP (lR x).1 (lR x).2 k l=some out∧out.length≤(lR x).1.length∧(∀i:Nat,i<out.length→tx x (i:Int)≠[]∧out.getD i []=(tx x (i:Int)).headD [])∧tx x ((out.length:Nat):Int)=[]
 |0,k,l,hl,hk,h=>by
  exfalso
  have := kI l.length (lR x).1 fun i hi => hM_mem (by
   rw[(comI x).h]
   have:=(h i hi).1
   cases hz:tx x (i:Int)with
   |nil=>exact absurd hz this
   |cons _ _=>rfl)
  omega
 |m+1,k,l,hl,hk,h=>by
  obtain⟨k,rfl⟩:∃z,k=z+1:=⟨k-1,by omega⟩
  have hlA := kI l.length (lR x).1 fun i hi => hM_mem (by
   rw[(comI x).h]
   have:=(h i hi).1
   cases hz:tx x (i:Int)with
   |nil=>exact absurd hz this
   |cons _ _=>rfl)
  have hlx:(lR x).1.length≤x.length:=by have:=sM x ([],[]);simpa[lR]using this
  have hI:=comI x
  have hh:=hI.h ((l.length:Nat):Int)
  have hg:=hI.g ((l.length:Nat):Int)
  have hm:=hI.m ((l.length:Nat):Int)
  have e14:iP (lR x).1 (lR x).2 (k+1) l=if(!(hM (lR x).1 (((l).length:Nat):Int)))=true then some l else if(gM (lR x).2 false (((l).length:Nat):Int))then some l else chk (((l).length+1) *16≤140737488355328) ((iP (lR x).1 (lR x).2 k) (l++[(gM (lR x).1 [] (((l).length:Nat):Int))])):=by
   conv=>lhs;unfold iP
  rw[e14,hh,hg,hm]
  cases hT:tx x ((l.length:Nat):Int)with
  |nil=>
   rw[if_pos (by rfl)]
   exact⟨l,rfl,hlA,h,hT⟩
  |cons a r=>
   rw[if_neg (by simp)]
   have hun:((a::r).any fun t=> !(t==(a::r).headD []))=false:=by
    rw[List.any_eq_false]
    intro t ht
    have e:=rK x hs x.length (Nat.le_refl _) ((l.length:Nat):Int) t a (by rw[List.take_length,hT];exact ht) (by rw[List.take_length,hT];exact List.mem_cons_self)
    rw[e];simp
   rw[hun,if_neg (by simp),aA (by omega)]
   refine aAz hx m k _ (by simp;omega) (by omega) (fun i hi=> ?_)
   rw[List.length_append]at hi
   simp only[List.length_cons,List.length_nil]at hi
   rcases Nat.lt_or_ge i l.length with h3|h3
   ·obtain⟨q1,q2⟩:=h i h3
    refine⟨q1, ?_⟩
    rw[←q2]
    simp only[List.getD_eq_getElem?_getD]
    rw[List.getElem?_append_left h3]
   ·obtain rfl:i=l.length:=by omega
    rw[hT]
    refine⟨by simp, ?_⟩
    simp only[List.getD_eq_getElem?_getD]
    rw[List.getElem?_append_right (Nat.le_refl _)];simp
end
theorem aAd (x:List Y51) (hx:x.length≤1000000) (c:Nat) (K:List Ty0→Option Bool):∀(d k n:Nat) (l:List Ty0),n+d=x.length→d<k→l.length≤n→vA x c K k (n,l)=K (l++((x.drop n).filter (sS (c:Int))).map eB)
 |0,k,n,l,hn,hk,hl=>by
  obtain⟨k,rfl⟩:∃z,k=z+1:=⟨k-1,by omega⟩
  rw[List.drop_eq_nil_of_le (by omega)]
  conv=>lhs;unfold vA
  rw[aO (by omega)]
  simp
 |d+1,k,n,l,hn,hk,hl=>by
  obtain⟨k,rfl⟩:∃z,k=z+1:=⟨k-1,by omega⟩
  rw[getD_drop x n default (by omega)]
  conv=>lhs;unfold vA
  rw[aR (by omega),bV,aA (by omega),aA (by omega)]
  have ih:=fun l hl=>aAd x hx c K d k (n+1) l (by omega) (by omega) hl
  generalize x.getD n default=p
  cases h:sS (c:Int) p with
  |true=>
   have h':((p.2.1==(3:Int))&&(p.2.2.1==(c:Int)))=true:=h
   rw[h',if_pos rfl,aA (by omega)]
   dsimp only
   rw[aA (by omega),ih _ (by simp;omega),List.filter_cons_of_pos h]
   simp
  |false=>
   have h':((p.2.1==(3:Int))&&(p.2.2.1==(c:Int)))=false:=h
   rw[h',if_neg (by simp)]
   dsimp only
   rw[aA (by omega),ih _ (by omega),List.filter_cons_of_neg (by rw[h];simp)]
theorem wR (h11:f11=some true) (x1:List St4) (hx:∀q,q∈x1→okSt q) (hl:x1.length≤9223372036854775807):f4 x1=some true:=by
 obtain⟨l,g1,g2,g3⟩:=f12_ok2 x1 hx hl;have hb:∀p∈l,(eB p).length≤20000:=fun p hp=>by have:=(g3 p hp).2.2.2.2.2.1;show(p.2.2.2.2.2.1).length≤20000;omega
 obtain⟨i,z,v,e1,e2⟩:=qK l (by omega) hb l.length bG 0 _ (by omega) (fuel_lt (by omega)) rfl;unfold f4;rw[h11,aC,if_neg (by simp),g1,aC];unfold f13;rw[f41_KF];refine(congrArg (fun z=>Option.bind (Option.bind z _) _) e1).trans ?_;rw[aC,aC];dsimp only;by_cases hz:z=13
 ·subst hz;rw[if_neg (by decide)];have hs:=fun m hm=>qM l (by omega) hb l.length bG 0 _ i v (by omega) (fuel_lt (by omega)) rfl e1 m (Nat.zero_le _) hm;have hlx:(lR l).1.length≤l.length:=by have:=sM l ([],[]);simpa[lR]using this
  obtain⟨out,o1,o2,o3,o4⟩:=aAz l hs (by omega) ((lR l).1.length+1) bG [] (by simp) (fuel_lt (by omega)) (by simp);rw[f14_eq l (by omega),o1,aC,bV]
  have main:∀(d k n:Nat),n+d=6→d<k→vB l (fun _=>some true) k (out,n)=some true:=by
   intro d
   induction d with
   |zero=>
    intro k n hn hk;obtain⟨k,rfl⟩:∃z,k=z+1:=⟨k-1,by omega⟩
    conv=>lhs;unfold vB
    rw[aO (by omega)]
   |succ d ih=>
    intro k n hn hk;obtain⟨k,rfl⟩:∃z,k=z+1:=⟨k-1,by omega⟩
    conv=>lhs;unfold vB
    rw[aR (by omega),bV,aAd l (by omega) n _ l.length bG 0 [] (by omega) (fuel_lt (by omega)) (by simp),List.drop_zero,List.nil_append];have ha:=yX l hs (n:Int) (by omega) l.length (Nat.le_refl _);rw[List.take_length]at ha;have hvl:((l.filter (sS (n:Int))).map eB).length≤l.length:=by rw[List.length_map];exact List.length_filter_le _ _
    generalize(l.filter (sS (n:Int))).map eB=vs at ha hvl
    have hle:vs.length≤out.length:=by
     rcases Nat.lt_or_ge out.length vs.length with h|h
     ·have:=ha out.length h;rw[o4]at this;cases this
     ·exact h
    have htk:out.take vs.length=vs:=by
     refine List.ext_getElem (by rw[List.length_take];omega) fun j h1 h2=> ?_;have q1:=ha j h2;obtain⟨q2,q3⟩:=o3 j (by omega)
     have q4:(tx l (j:Int)).headD []∈tx l (j:Int):=by
      cases hz:tx l (j:Int)with
      |nil=>exact absurd hz q2
      |cons a r=>exact List.mem_cons_self
     have q5:=rK l hs l.length (Nat.le_refl _) (j:Int) (vs.getD j []) ((tx l (j:Int)).headD []) (by rw[List.take_length];exact q1) (by rw[List.take_length];exact q4);rw[List.getElem_take];have q6:out.getD j []=out[j]'(by omega):=by rw[List.getD_eq_getElem?_getD,List.getElem?_eq_getElem (by omega)];rfl
     have q7:vs.getD j []=vs[j]:=by rw[List.getD_eq_getElem?_getD,List.getElem?_eq_getElem h2];rfl
     rw[←q6,q3,←q5,q7]
    have hmin:(min (((vs).length:Nat):Int) (((out).length:Nat):Int)).toNat=vs.length:=by omega
    rw[hmin,htk,List.take_length,f15_refl vs (by omega),aC,aA (by omega),aA (by omega),if_neg (by simp),aA (by omega)];exact ih k (n+1) (by omega) (by omega)
  exact main 6 bG 0 (by omega) (fuel_lt (by omega))
 ·rw[if_pos (by simpa using hz)];rcases e2 with e2|⟨rfl,_⟩
  ·exact absurd e2 hz
  ·rfl
end Go.Abs
namespace Go.Abs
theorem f11_true :f11=some true:=by kernel_rfl
end Go.Abs
