/- Part 13 of the proof: AbsX, AbsR2, AbsR3, AbsM1. -/
import Derived.Test.YtfkhgbcggabkjaaGreatDoorMonrepZ12
import Derived.Below
import Derived.Lib.Join
namespace Go.Abs
open Go Go.RowKit
abbrev aeK:=@List.length_eq_zero_iff
abbrev afD:=@List.getElem?_map
abbrev ahD:=@Nat.mul_one
theorem WSim.below {z:Start} (hW:WSim z z.St z.g [] z.w) {w':World} (h:Below z.w.heap.size z.w w'):WSim z z.St z.g [] w':=
 ⟨⟨h.os,h.tape,h.output,h.size,fun k hk _=>h.block k hk⟩,fun _ h=>h,fun k hk=>⟨aeD (hW.st1 k hk).1 h.size,.inl hk⟩,fun r b v hb=>by simp[aJ.get]at hb,fun r b hb=>by simp[aJ.get]at hb,fun r r' b b' v v' hb=>by simp[aJ.get]at hb⟩
theorem str_of {s:ByteArray} {l:aaA} (h:s.data.toList=l):s=⟨l.toArray⟩:=by
 subst h;cases s;simp
def joinP (l:List aaA) (sep:aaA):Option aaA:=
 if(Lib.join l sep).length<=140737488355328/\l.length<=140737488355328 then some (Lib.join l sep)else none
theorem join_spec {P:Program} {f:FuncId} (h0:∀(a:Option Addr) (c:Nat) (sep:ByteArray) (w:World),Calls P f #[.slice a 0 c,.string sep] w fun e w'=>e= .returned (.string ⟨#[]⟩)/\w'=w)
  (h1:∀(bk o c:Nat) (xs:List ByteArray) (sep:ByteArray) (w:World),(∀(j:Nat) x,xs[j]? =some x->w.cell? ⟨bk,o+j,none⟩=some (.string x))->bk<w.heap.size->xs.length<=140737488355328->xs.length<=c->
   (Lib.join (xs.map (·.data.toList)) sep.data.toList).length<=140737488355328->Calls P f #[.slice (some ⟨bk,o,none⟩) xs.length c,.string sep] w fun e w'=>e= .returned (.string ⟨(Lib.join (xs.map (·.data.toList)) sep.data.toList).toArray⟩)/\Below w.heap.size w w')
  (l:List aaA) (sep r:aaA) (h:joinP l sep=some r):aG P f [] [] [] [.arr 1 l.length (bY (fun x=>[.str x]) [] l),.str sep] (.str r) []:=by
 unfold joinP at h;split at h
 case isFalse=>cases h
 rename_i hc;cases h;intro z vals hW hl hr _;have e0:=hr 0 (by simp);have e1:=hr 1 (by simp);simp only[abK,abP]at e0 e1;obtain⟨s,hs1,hs2⟩:=e1.str_inv
 have hv:vals= #[vals.getD 0 undef,vals.getD 1 undef]:=by
  apply Array.ext
  ·simpa using hl
  ·intro i h1 h2;have:i=0\/i=1:=by simp at h2;omega
   rcases this with rfl|rfl<;>simp[h1]
 rw[hv,hs1];generalize vals.getD 0 undef=u at e0
 have nilcase:l.length=0->∀a c,u= .slice a 0 c->Calls P f #[u,.string s] z.w (fun e w'=>∃x r h1 St' g',e= .returned x/\(r= .str (Lib.join l sep)/\h1=([]:aJ))/\WSim z St' g' h1 w'/\Rel St' w' g' r x/\(∀k,k∈([]:List Nat)->g' k=z.g k)):=by
  intro hn a c hu;subst hu;refine(h0 a c s z.w).mono ?_;rintro e w' ⟨rfl,rfl⟩;refine⟨_,_,_,z.St,z.g,rfl,⟨rfl,rfl⟩,hW,.str _ _ _ ?_,by simp⟩;rw[aeK.1 hn];rfl
 generalize hn:l.length=n at e0
 cases e0 with
 |arr0=>exact nilcase hn _ _ rfl
 |arrE=>exact nilcase hn _ _ rfl
 |arr _ _ _ _ b o cap x hcap hmax hS hcl h1c hrr=>
  by_cases hn0:n=0
  ·subst hn0;exact nilcase hn _ _ rfl
  have hb:z.St b:=hS (by omega) (by decide);have hlen:(l.map (fun(q:aaA)=>(⟨q.toArray⟩:ByteArray))).length=n:=by simpa using hn
  have hmap:(l.map (fun(q:aaA)=>(⟨q.toArray⟩:ByteArray))).map (fun(s:ByteArray)=>s.data.toList)=l:=by simp[Function.comp_def]
  have:=h1 b o cap (l.map fun q=>⟨q.toArray⟩) s z.w (fun j y hj=> ?_) (hW.st1 b hb).1 (by rw[hlen];omega) (by rw[hlen];exact hcap) (by rw[hmap,hs2];exact hc.1)
  ·rw[hlen,hmap,hs2]at this;refine this.mono ?_;rintro e w' ⟨rfl,hbl⟩;exact⟨_,_,_,z.St,z.g,rfl,⟨rfl,rfl⟩,hW.below hbl,.str _ _ _ (by simp),by simp⟩
  ·have hjn:j<n:=by have:=(adD.1 hj).1;omega
   have h5:=hcl j 0 hjn (by decide);have h6:=hrr j 0 hjn (by decide);simp only[bY,abK]at h6;obtain⟨s2,hs3,hs4⟩:=h6.str_inv;rw[hs3,str_of hs4]at h5;simp only[ahD,aeZ]at h5;rw[h5];rw[afD]at hj;obtain⟨q,hq,rfl⟩:=aaQ.1 hj;simp[aaC,hq]
end Go.Abs
namespace Go.Abs
open Go
abbrev aaE:=@AWp.seq
theorem AWp.sq {P:Program} (W:List Nat) {Q:Exit->S->Prop} {id:Nat} {draw:Bool} {y:Code} (calls:List (Nat×CC)) (ds rs:List Nat) {l:List Oper} {s:S} (s':S) (φ:Prop) (hm:P.follows .mixedOrders=true)
    (h:Abs.regC P W draw calls ds rs l s=some (s',φ)) (hφ:φ) (hQ:AWp P y Q s'):AWp P (.seq (.region id l.toArray draw) y) Q s:=
  aaE (AWp.regC W calls ds rs s' φ hm h hφ (nP hQ))
theorem an1 {a:Prop} (ha:a):a/\True:=⟨ha,trivial⟩
theorem an2 {a b:Prop} (ha:a) (hb:b):a/\b/\True:=⟨ha,hb,trivial⟩
theorem an3 {a b c:Prop} (ha:a) (hb:b) (hc:c):a/\b/\c/\True:=⟨ha,hb,hc,trivial⟩
theorem an4 {a b c d:Prop} (ha:a) (hb:b) (hc:c) (hd:d):a/\b/\c/\d/\True:=⟨ha,hb,hc,hd,trivial⟩
theorem an5 {a b c d e:Prop} (ha:a) (hb:b) (hc:c) (hd:d) (he:e):a/\b/\c/\d/\e/\True:=⟨ha,hb,hc,hd,he,trivial⟩
theorem an6 {a b c d e f:Prop} (ha:a) (hb:b) (hc:c) (hd:d) (he:e) (hf:f):a/\b/\c/\d/\e/\f/\True:=⟨ha,hb,hc,hd,he,hf,trivial⟩
/-! ### Result boxes: read at the return, then gone -/
def sN (ids:List Nat) (h:aJ):aJ:=h.filter fun p=> !(ids.contains p.1)
theorem gZ (ids:List Nat):∀(h:aJ) (r:Nat) (b:Blk),(sN ids h).get r=some b->h.get r=some b
  |[],r,b,hb=>by simp[sN,aJ.get]at hb
  |(k,c)::h,r,b,hb=>by
    unfold sN at hb
    rw[aeC]at hb
    split at hb
    · simp only[aJ.get]at hb⊢
      split at hb
      · rename_i e;rw[if_pos e];exact hb
      · rename_i e;rw[if_neg e];exact gZ ids h r b hb
    · rename_i hk
      have hr:=gZ ids h r b hb
      simp only[aJ.get]
      split
      · rename_i e
        subst e
        -- the number is dropped everywhere
        exfalso
        have:∀(h:aJ) (b:Blk),ids.contains k=true->(sN ids h).get k=some b->False:=by
          intro h
          induction h with
          |nil=>intro b _ hb;simp[sN,aJ.get]at hb
          |cons p h ih=>
            intro b hc hb
            unfold sN at hb
            rw[aeC]at hb
            split at hb
            · rename_i hp
              simp only[aJ.get]at hb
              split at hb
              · rename_i e;rw[e,hc]at hp;cases hp
              · exact ih b hc hb
            · exact ih b hc hb
        exact this h b (by simpa using hk) hb
      · exact hr
theorem WSim.drop {z:Start} {St:Nat->Prop} {g:Gh} {h:aJ} {w:World} (hW:WSim z St g h w) (ids:List Nat):WSim z St g (sN ids h) w:=
  ⟨hW.frm,hW.st0,hW.st1,fun r b v hb=>hW.ow r b v (gZ ids h r b hb),fun r b hb=>hW.ok r b (gZ ids h r b hb),
   fun r r' b b' v v' hb hb'=>hW.sep r r' b b' v v' (gZ ids h r b hb) (gZ ids h r' b' hb')⟩
theorem aG.bodyD {P:Program} {f:FuncId} {fn:Func} {c:Code} {N:Nat} {h0:aJ} {args:List V} {r:V} {h1:aJ} (ids:List Nat) (o:Nat) (gs:List (Nat×V)) (bk:List Nat) (hf:P.funcs[f]? =some fn) (hb:fn.body=some c) (hN:fn.ntmps=N) (hle:Nat.ble args.length N=true) (hG:Nat.ble N 1000000=true)
    (h:AWp P c (vT P fn bk (fun v h=>v=r/\sN ids h=h1)) ⟨N,kZ 0 args++sK gs,h0,bk,o⟩):aG P f gs bk h0 args r h1:=by
  have hs:=Spec.body o gs bk hf hb hN (aaW hle) (aaW hG) h;intro z vals h1' h2 h3 h4;refine(hs z vals h1' h2 h3 h4).mono ?_;rintro e w' ⟨x,r',hh,St',g',he,⟨rfl,rfl⟩,hW,hrel,hk⟩;exact⟨x,r',_,St',g',he,⟨rfl,rfl⟩,hW.drop ids,hrel,hk⟩
end Go.Abs
namespace Go.Abs
open Go
theorem VLe.opq {v:V} (h:v.isOne=true):VLe v .opq:=fun _ _ _ _ hr=> .opq _ _ (hr.isOne h)
theorem eU.same :∀l:List V,eU l l
 |[]=>trivial
 |v::l=>⟨.refl v,eU.same l⟩
theorem aCt (l:List V):l.map (sI [] [])=l:=by
 induction l with
 |nil=>rfl
 |cons v l ih=>rw[abS,ih];rfl
theorem ac6 {a b c d e f g:Prop} (ha:a) (hb:b) (hc:c) (hd:d) (he:e) (hf:f) (hg:g):a/\b/\c/\d/\e/\f/\g:=⟨ha,hb,hc,hd,he,hf,hg⟩
section
variable {P:Program} {c:Bool} {fid:FuncId} {gs:List (Nat×V)} {bk:List Nat} {h0:aJ} {a:List V} {r:V} {h1:aJ}
theorem cpC (h:c=true->aG P fid gs bk h0 a r h1):rX P c fid gs bk h0 [] [] a a r h1:=
 ⟨h,fun _=>by rw[aCt];exact .same a,.inl rfl⟩
theorem cpT (h:aG P fid gs bk h0 a r h1):rX P true fid gs bk h0 [] [] a a r h1:=cpC fun _=>h
theorem cpL (hr:aJ) (lent:List Nat) (args:List V) (h:c=true->aG P fid gs bk h0 a r h1) (hv:c=true->eU (args.map (sI hr lent)) a) (hf:lent=[]\/(r.flat=true/\aJ.Flat h1)):
  rX P c fid gs bk h0 hr lent args a r h1:=⟨h,hv,hf⟩
end
end Go.Abs
namespace Go.Abs
open Go Go.MapKept
abbrev abB:=@List.length_nil
abbrev abN:=@decide_eq_true
abbrev abV:=@decide_eq_false
abbrev afS:=@List.singleton_append
section
variable {α β:Type}
def bM (ek:α->V) (dk:α) (ev:β->V) (dv:β) (ks:List α) (vs:List β):Blk:= .mapB ks.length (fun i=>ek (ks.getD i dk)) (fun i=>ev (vs.getD i dv))
def vM (ek:α->V) (dk:α) (ev:β->V) (dv:β) (ks:List α) (vs:List β):V:= .mp ks.length (fun i=>ek (ks.getD i dk)) (fun i=>ev (vs.getD i dv))
def iM (ek:α->V) (dk:α) (ev:β->V) (dv:β) (ks:List α) (vs:List β) (seen:List Nat):Blk:= .iter ks.length (fun i=>ek (ks.getD i dk)) (fun i=>ev (vs.getD i dv)) seen
def lA [DecidableEq α] (x:α):List α->Nat->Option Nat
 |[],_=>none
 |a::l,i=>if x=a then some i else lA x l (i+1)
def nG [DecidableEq α] (ks:List α) (vs:List β) (dv z:β) (x:α):β:=match lA x ks 0 with
 |some i=>vs.getD i dv
 |none=>z
def aAk [DecidableEq α] (ks:List α) (x:α):Bool:=(lA x ks 0).isSome
theorem tI [DecidableEq α] {d:TypeDesc} {ek:α->V} (hk:∀a b,sJ d (ek a) (ek b)=some (decide (a=b))) (x dk:α):∀(l pre:List α),sL d (ek x) (fun i=>ek ((pre++l).getD i dk)) l.length pre.length=some (lA x l pre.length)
 |[],pre=>rfl
 |a::l,pre=>by
  have e:(pre++a::l).getD pre.length dk=a:=by simp[aaC]
  have ih:=tI hk x dk l (pre++[a])
  simp only[acD,afS,aaF,aaN,abB,abW]at ih
  simp only[aaN,sL,e,hk,lA]
  by_cases h:x=a
  ·rw[abN h,if_pos h]
  ·rw[abV h,if_neg h,ih]
theorem lP [DecidableEq α] {d:TypeDesc} {ek:α->V} (hk:∀a b,sJ d (ek a) (ek b)=some (decide (a=b))) (x dk:α) (l:List α):sL d (ek x) (fun i=>ek (l.getD i dk)) l.length 0=some (lA x l 0):=tI hk x dk l []
theorem dW (k:IntKind) (a b:Int):sJ (.int k) (.int k a) (.int k b)=some (decide (a=b)):=by
 simp only[sJ,if_true];congr 1
variable {P:Program}
theorem eF.to {op:Op} {ty:TypeId} {bk:List Nat} {h0 h1 h1':aJ} {args:List V} {r r':V} (h:eF P op ty bk h0 args r h1) (e1:r=r') (e2:h1=h1'):eF P op ty bk h0 args r' h1':=by
 subst e1;subst e2;exact h
theorem uO (ek:α->V) (dk:α) (ev:β->V) (dv:β) (ty r:Nat) (t:TypeId):eF P (.makeMap t none) ty [] [] [] (.own r) [(r,bM ek dk ev dv [] [])]:=nU ty r t _ _
theorem wY [DecidableEq α] {mt kt et:TypeId} {d:TypeDesc} (hm:P.underlying mt=some (.map kt et)) (hd:P.underlying kt=some d) (ek:α->V) (dk:α) (ev:β->V) (dv z:β) (hk:∀a b,sJ d (ek a) (ek b)=some (decide (a=b)))
  (hko:∀a,uP d (ek a)=true) (hz:zeroV P et=some (ev z)) (m k:Operand) (ty:Nat) (ks:List α) (vs:List β) (x:α):
  eF P (.lookup mt m k true) ty [] [] [vM ek dk ev dv ks vs,ek x] (.tup [ev (nG ks vs dv z x),.bool (aAk ks x)]) []:=by
 have hf:=lP hk x dk ks;unfold nG aAk;generalize lA x ks 0=q at hf
 cases q with
 |none=>exact qQ hm hd m k ty ks.length _ _ (ek x) (hko x) none hf (ev z) hz
 |some i=>exact qQ hm hd m k ty ks.length _ _ (ek x) (hko x) (some i) hf (ev z) hz
theorem eE [DecidableEq α] {mt kt et:TypeId} {d:TypeDesc} (hm:P.underlying mt=some (.map kt et)) (hd:P.underlying kt=some d) (op:Op) (m k v:Operand) (hop:op= .insert mt m k v\/op= .mapUpdate mt m k v) (ek:α->V) (dk:α) (ev:β->V) (dv:β)
  (hk:∀a b,sJ d (ek a) (ek b)=some (decide (a=b))) (hko:∀a,uP d (ek a)=true) (hkc:∀a,(ek a).closed=true) (hvc:∀a,(ev a).closed=true) (ty r:Nat) (ks:List α) (vs:List β) (x:α) (y:β) (hl:vs.length=ks.length) (hx:lA x ks 0=none):
  eF P op ty [r] [(r,bM ek dk ev dv ks vs)] [.own r,ek x,ev y] .any [(r,bM ek dk ev dv (ks++[x]) (vs++[y]))]:=by
 refine(aAh hm hd op m k v hop ty r ks.length _ _ (ek x) (ev y) (hko x) (hkc x) (hvc y) (by rw[lP hk x dk ks,hx])).to rfl ?_;unfold bM setF;rw[aaF];congr 1;congr 1;congr 1
 ·funext i;split
  ·rename_i h;subst h;simp[aaC]
  ·rename_i h;by_cases h2:i<ks.length
   ·simp[aaC,acP,h2]
   ·have:i-ks.length≠0:=by omega
    have e:([x]:List α)[i-ks.length]? =none:=by rw[adT];simp;omega
    simp[aaC,acP,h2,e]
 ·funext i;split
  ·rename_i h;subst h;simp[aaC,<-hl]
  ·rename_i h;by_cases h2:i<vs.length
   ·simp[aaC,acP,h2]
   ·have e:([y]:List β)[i-vs.length]? =none:=by rw[adT];simp;omega
    simp[aaC,acP,h2,e]
theorem aAN (it:Operand) (ty r:Nat) (ek:α->V) (dk:α) (ev:β->V) (dv:β) (ks:List α) (vs:List β) (seen:List Nat) (j:Nat) (hj:j<ks.length):eF P (.entry it) ty [r] [(r,iM ek dk ev dv ks vs (seen++[j]))] [.own r] (.tup [ek (ks.getD j dk),ev (vs.getD j dv)]) [(r,iM ek dk ev dv ks vs (seen++[j]))]:=
 aCR it ty r ks.length _ _ seen j hj
theorem aAc {mt kt et:TypeId} (hm:P.underlying mt=some (.map kt et)) (x:Operand) (ty r:Nat) (ek:α->V) (dk:α) (ev:β->V) (dv:β) (ks:List α) (vs:List β):eF P (.range mt x) ty [] [] [vM ek dk ev dv ks vs] (.own r) [(r,iM ek dk ev dv ks vs [])]:=
 aCi hm x ty r ks.length _ _
end
def agree {R:Type} [DecidableEq R]:List (Option R)->Option R
 |[]=>none
 |x::l=>if l.all (fun y=>decide (y=x))then x else none
theorem aCW {R:Type} [DecidableEq R] {l:List (Option R)} {r:R} (h:agree l=some r):∀x,x∈l->x=some r:=by
 cases l with
 |nil=>cases h
 |cons a l=>
  simp only[agree]at h;split at h
  case isFalse=>cases h
  rename_i hl;intro x hx;rcases abC.1 hx with rfl|hx
  ·exact h
  ·have:=aaX.1 hl x hx;rw[of_decide_eq_true this];exact h
def aCr {R:Type} [DecidableEq R] (n:Nat) (seen:List Nat) (K:Nat->Option R) (E:Option R):Option R:=match(List.range n).filter (fun j=> !seen.contains j)with
 |[]=>E
 |l=>agree (l.map K)
theorem sY {R:Type} [DecidableEq R] {n:Nat} {seen:List Nat} {K:Nat->Option R} {E:Option R} {r:R} (h:aCr n seen K E=some r):
  (∀j,j<n->j∉seen->K j=some r)/\((∀j,j<n->j∈seen)->E=some r):=by
 have hm:∀j,j∈(List.range n).filter (fun j=> !seen.contains j)↔j<n/\j∉seen:=by
  intro j;rw[adX,adN];simp
 unfold aCr at h;split at h
 ·rename_i he;refine⟨fun j h1 h2=> ?_,fun _=>h⟩;have:=(hm j).2 ⟨h1,h2⟩;rw[he]at this;cases this
 ·rename_i l hl;refine⟨fun j h1 h2=>aCW h (K j) (adL.2 ⟨j,(hm j).2 ⟨h1,h2⟩,rfl⟩),fun hall=> ?_⟩;exfalso;apply hl;rw[List.filter_eq_nil_iff];intro j hj;have:=hall j (adN.1 hj);simpa using this
section
variable {P:Program} {Q:Exit->S->Prop} {α β:Type}
theorem AWp.nextR {id d d2 ty1 ty2:Nat} {p1 p2:String} {a1 a2:Array Edge} {s:S} {it:Operand} (r:Nat) (ek:α->V) (dk:α) (ev:β->V) (dv:β) (ks:List α) (vs:List β) (seen:List Nat) (hdN:Nat.ble (d+1) s.N=true) (hd2:Nat.ble (d2+1) s.N=true)
  (hdG:Nat.blt d G0=true) (hit:raw s.t it= .own r) (hh:s.h.get r=some (iM ek dk ev dv ks vs seen))
  (h1:∀j,j<ks.length->j∉seen->Q .normal ⟨s.N,(d2,.bool true)::(d,.tup [.bool true,ek (ks.getD j dk),ev (vs.getD j dv)])::s.t,(r,iM ek dk ev dv ks vs (seen++[j]))::s.h.del r,s.b,s.o⟩)
  (h2:(∀j,j<ks.length->j∈seen)->Q .normal ⟨s.N,(d2,.bool false)::(d,.tup [.bool false])::s.t,s.h,s.b,s.o⟩):
  AWp P (.region id #[⟨some d,.next it false,ty1,p1,a1,none⟩,⟨some d2,.extract (.tmp d) 0,ty2,p2,a2,none⟩] false) Q s:=by
 refine AWp.region (l:=[⟨some d,.next it false,ty1,p1,a1,none⟩,⟨some d2,.extract (.tmp d) 0,ty2,p2,a2,none⟩]) ?_;have hlt:d<G0:=aaW hdG
 have hx:∀(t:List (Nat×V)) (h:aJ) (v:V) (vs':List V),Q .normal ⟨s.N,(d2,v)::(d,.tup (v::vs'))::t,h,s.b,s.o⟩->
   (∃b,v= .bool b)->vX P #[⟨some d,.next it false,ty1,p1,a1,none⟩,⟨some d2,.extract (.tmp d) 0,ty2,p2,a2,none⟩] Q [⟨some d2,.extract (.tmp d) 0,ty2,p2,a2,none⟩] ⟨s.N,(d,.tup (v::vs'))::t,h,s.b,s.o⟩:=by
  rintro t h v vs' hq ⟨b,rfl⟩;refine aAT (W:=[]) 1 (l':=[]) (s':=⟨s.N,(d2,.bool b)::(d,.tup (.bool b::vs'))::t,h,s.b,s.o⟩) (φ:=True) ?_ trivial (.nil hq);have hd2':d2<s.N:=Nat.lt_of_succ_le (aaW hd2);have hr:raw ((d,V.tup (V.bool b::vs'))::t) (.tmp d)=V.tup (V.bool b::vs'):=by simp[raw,dD,hlt,Nat.not_le.2 hlt]
  have he:Abs.ev ((d,V.tup (V.bool b::vs'))::t) (.tmp d)=V.tup (V.bool b::vs'):=by unfold Abs.ev;rw[hr];rfl
  have hno:jD ((d,V.tup (V.bool b::vs'))::t) (bZ (.extract (.tmp d) 0))=true:=by
   simp[bZ,Op.operands,jD,hr]
  simp[aC4,step,pval,he,triv,hno,lW,aAU,hd2']
 refine next_aops rfl rfl rfl hdN hit hh (fun j hj hjs=>hx _ _ _ _ (h1 j hj hjs) ⟨_,rfl⟩) (fun hall=>hx _ _ _ _ (h2 hall) ⟨_,rfl⟩)
end
theorem aBc {α:Type} (enc:α->List V) (d:α) (sz:Nat) (l:List α) (hl:∀x,(enc x).length=sz) {i j:Nat} (hi:i<l.length) (hj:j<sz):dE sz (l.flatMap enc) i j=(enc (l.getD i d)).getD j .any:=
 flat_get hl i j hi hj
end Go.Abs
