/- Part 13 of the proof: AbsX, AbsR2, AbsR3, AbsM1. -/
import Derived.Test.YtfkhgbcggabkjaaGreatDoorMonmadZ12
import Derived.Below
import Derived.Lib.Join
namespace Go.Abs
open Go Go.RowKit
abbrev aeF:=@List.length_eq_zero_iff
theorem WSim.below {z:Start} (hW:WSim z z.St z.g [] z.w) {w':World} (h:Below z.w.heap.size z.w w'):WSim z z.St z.g [] w':=
 ⟨⟨h.os,h.tape,h.output,h.size,fun k hk _=>h.block k hk⟩,fun _ h=>h,fun k hk=>⟨adX (hW.st1 k hk).1 h.size,.inl hk⟩,fun r b v hb=>by simp[aJ.get]at hb,fun r b hb=>by simp[aJ.get]at hb,fun r r' b b' v v' hb=>by simp[aJ.get]at hb⟩
theorem str_of {s:ByteArray} {l:aaA} (h:s.data.toList=l):s=⟨l.toArray⟩:=by
 subst h;cases s;simp
def joinP (l:List aaA) (sep:aaA):Option aaA:=
 if(Lib.join l sep).length<=140737488355328/\l.length<=140737488355328 then some (Lib.join l sep)else none
theorem join_spec {P:Program} {f:FuncId} (h0:∀(a:Option Addr) (c:Nat) (sep:ByteArray) (w:World),Calls P f #[.slice a 0 c,.string sep] w fun e w'=>e= .returned (.string ⟨#[]⟩)/\w'=w)
  (h1:∀(bk o c:Nat) (xs:List ByteArray) (sep:ByteArray) (w:World),(∀(j:Nat) x,xs[j]? =some x->w.cell? ⟨bk,o+j,none⟩=some (.string x))->bk<w.heap.size->xs.length<=140737488355328->xs.length<=c->
   (Lib.join (xs.map (·.data.toList)) sep.data.toList).length<=140737488355328->Calls P f #[.slice (some ⟨bk,o,none⟩) xs.length c,.string sep] w fun e w'=>e= .returned (.string ⟨(Lib.join (xs.map (·.data.toList)) sep.data.toList).toArray⟩)/\Below w.heap.size w w')
  (l:List aaA) (sep r:aaA) (h:joinP l sep=some r):aE P f [] [] [] [.arr 1 l.length (cE (fun x=>[.str x]) [] l),.str sep] (.str r) []:=by
 unfold joinP at h;split at h
 case isFalse=>cases h
 rename_i hc;cases h;intro z vals hW hl hr _;have e0:=hr 0 (by simp);have e1:=hr 1 (by simp);simp only[abH,abP]at e0 e1;obtain⟨s,hs1,hs2⟩:=e1.str_inv
 have hv:vals= #[vals.getD 0 undef,vals.getD 1 undef]:=by
  apply Array.ext
  ·simpa using hl
  ·intro i h1 h2;have:i=0\/i=1:=by simp at h2;omega
   rcases this with rfl|rfl<;>simp[h1]
 rw[hv,hs1];generalize vals.getD 0 undef=u at e0
 have nilcase:l.length=0->∀a c,u= .slice a 0 c->Calls P f #[u,.string s] z.w (fun e w'=>∃x r h1 St' g',e= .returned x/\(r= .str (Lib.join l sep)/\h1=([]:aJ))/\WSim z St' g' h1 w'/\Rel St' w' g' r x/\(∀k,k∈([]:List Nat)->g' k=z.g k)):=by
  intro hn a c hu;subst hu;refine(h0 a c s z.w).mono ?_;rintro e w' ⟨rfl,rfl⟩;refine⟨_,_,_,z.St,z.g,rfl,⟨rfl,rfl⟩,hW,.str _ _ _ ?_,by simp⟩;rw[aeF.1 hn];rfl
 generalize hn:l.length=n at e0
 cases e0 with
 |arr0=>exact nilcase hn _ _ rfl
 |arrE=>exact nilcase hn _ _ rfl
 |arr _ _ _ _ b o cap x hcap hmax hS hcl h1c hrr=>
  by_cases hn0:n=0
  ·subst hn0;exact nilcase hn _ _ rfl
  have hb:z.St b:=hS (by omega) (by decide);have hlen:(l.map (fun(q:aaA)=>(⟨q.toArray⟩:ByteArray))).length=n:=by simpa using hn
  have hmap:(l.map (fun(q:aaA)=>(⟨q.toArray⟩:ByteArray))).map (fun(s:ByteArray)=>s.data.toList)=l:=by simp[Function.comp_def]
  have:=h1 b o cap (l.map fun q=>⟨q.toArray⟩) s z.w (fun j y hj=> ?_) (hW.st1 b hb).1 (by rw[hlen];omega) (by rw[hlen];exact hcap) (by rw[hmap,hs2];exact hc.1)
  ·rw[hlen,hmap,hs2]at this;refine this.mono ?_;rintro e w' ⟨rfl,hbl⟩;exact⟨_,_,_,z.St,z.g,rfl,⟨rfl,rfl⟩,hW.below hbl,.str _ _ _ (by simp),by simp⟩
  ·have hjn:j<n:=by have:=(adF.1 hj).1;omega
   have h5:=hcl j 0 hjn (by decide);have h6:=hrr j 0 hjn (by decide);simp only[cE,abH]at h6;obtain⟨s2,hs3,hs4⟩:=h6.str_inv;rw[hs3,str_of hs4]at h5;simp only[Nat.mul_one,afE]at h5;rw[h5];rw[List.getElem?_map]at hj;obtain⟨q,hq,rfl⟩:=aaO.1 hj;simp[aaC,hq]
end Go.Abs
namespace Go.Abs
open Go
abbrev aaE:=@AWp.seq
theorem AWp.sq {P:Program} (W:List Nat) {Q:Exit->S->Prop} {id:Nat} {draw:Bool} {y:Code} (calls:List (Nat×CC)) (ds rs:List Nat) {l:List Oper} {s:S} (s':S) (φ:Prop) (hm:P.follows .mixedOrders=true)
    (h:Abs.regC P W draw calls ds rs l s=some (s',φ)) (hφ:φ) (hQ:AWp P y Q s'):AWp P (.seq (.region id l.toArray draw) y) Q s:=
  aaE (AWp.regC W calls ds rs s' φ hm h hφ (mN hQ))
theorem an1 {a:Prop} (ha:a):a/\True:=⟨ha,trivial⟩
theorem an2 {a b:Prop} (ha:a) (hb:b):a/\b/\True:=⟨ha,hb,trivial⟩
theorem an3 {a b c:Prop} (ha:a) (hb:b) (hc:c):a/\b/\c/\True:=⟨ha,hb,hc,trivial⟩
theorem an4 {a b c d:Prop} (ha:a) (hb:b) (hc:c) (hd:d):a/\b/\c/\d/\True:=⟨ha,hb,hc,hd,trivial⟩
theorem an5 {a b c d e:Prop} (ha:a) (hb:b) (hc:c) (hd:d) (he:e):a/\b/\c/\d/\e/\True:=⟨ha,hb,hc,hd,he,trivial⟩
theorem an6 {a b c d e f:Prop} (ha:a) (hb:b) (hc:c) (hd:d) (he:e) (hf:f):a/\b/\c/\d/\e/\f/\True:=⟨ha,hb,hc,hd,he,hf,trivial⟩
/-! ### Result boxes: read at the return, then gone -/
def qU (ids:List Nat) (h:aJ):aJ:=h.filter fun p=> !(ids.contains p.1)
theorem gJ (ids:List Nat):∀(h:aJ) (r:Nat) (b:Blk),(qU ids h).get r=some b->h.get r=some b
  |[],r,b,hb=>by simp[qU,aJ.get]at hb
  |(k,c)::h,r,b,hb=>by
    unfold qU at hb
    rw[adW]at hb
    split at hb
    · simp only[aJ.get]at hb⊢
      split at hb
      · rename_i e;rw[if_pos e];exact hb
      · rename_i e;rw[if_neg e];exact gJ ids h r b hb
    · rename_i hk
      have hr:=gJ ids h r b hb
      simp only[aJ.get]
      split
      · rename_i e
        subst e
        -- the number is dropped everywhere
        exfalso
        have:∀(h:aJ) (b:Blk),ids.contains k=true->(qU ids h).get k=some b->False:=by
          intro h
          induction h with
          |nil=>intro b _ hb;simp[qU,aJ.get]at hb
          |cons p h ih=>
            intro b hc hb
            unfold qU at hb
            rw[adW]at hb
            split at hb
            · rename_i hp
              simp only[aJ.get]at hb
              split at hb
              · rename_i e;rw[e,hc]at hp;cases hp
              · exact ih b hc hb
            · exact ih b hc hb
        exact this h b (by simpa using hk) hb
      · exact hr
theorem WSim.drop {z:Start} {St:Nat->Prop} {g:Gh} {h:aJ} {w:World} (hW:WSim z St g h w) (ids:List Nat):WSim z St g (qU ids h) w:=
  ⟨hW.frm,hW.st0,hW.st1,fun r b v hb=>hW.ow r b v (gJ ids h r b hb),fun r b hb=>hW.ok r b (gJ ids h r b hb),
   fun r r' b b' v v' hb hb'=>hW.sep r r' b b' v v' (gJ ids h r b hb) (gJ ids h r' b' hb')⟩
theorem aE.bodyD {P:Program} {f:FuncId} {fn:Func} {c:Code} {N:Nat} {h0:aJ} {args:List V} {r:V} {h1:aJ} (ids:List Nat) (o:Nat) (gs:List (Nat×V)) (bk:List Nat) (hf:P.funcs[f]? =some fn) (hb:fn.body=some c) (hN:fn.ntmps=N) (hle:Nat.ble args.length N=true) (hG:Nat.ble N 1000000=true)
    (h:AWp P c (tU P fn bk (fun v h=>v=r/\qU ids h=h1)) ⟨N,jV 0 args++qR gs,h0,bk,o⟩):aE P f gs bk h0 args r h1:=by
  have hs:=Spec.body o gs bk hf hb hN (aaW hle) (aaW hG) h;intro z vals h1' h2 h3 h4;refine(hs z vals h1' h2 h3 h4).mono ?_;rintro e w' ⟨x,r',hh,St',g',he,⟨rfl,rfl⟩,hW,hrel,hk⟩;exact⟨x,r',_,St',g',he,⟨rfl,rfl⟩,hW.drop ids,hrel,hk⟩
end Go.Abs
namespace Go.Abs
open Go
theorem VLe.opq {v:V} (h:v.isOne=true):VLe v .opq:=fun _ _ _ _ hr=> .opq _ _ (hr.isOne h)
theorem eF.same :∀l:List V,eF l l
 |[]=>trivial
 |v::l=>⟨.refl v,eF.same l⟩
theorem aBx (l:List V):l.map (qP [] [])=l:=by
 induction l with
 |nil=>rfl
 |cons v l ih=>rw[abR,ih];rfl
theorem ac6 {a b c d e f g:Prop} (ha:a) (hb:b) (hc:c) (hd:d) (he:e) (hf:f) (hg:g):a/\b/\c/\d/\e/\f/\g:=⟨ha,hb,hc,hd,he,hf,hg⟩
section
variable {P:Program} {c:Bool} {fid:FuncId} {gs:List (Nat×V)} {bk:List Nat} {h0:aJ} {a:List V} {r:V} {h1:aJ}
theorem cpC (h:c=true->aE P fid gs bk h0 a r h1):qF P c fid gs bk h0 [] [] a a r h1:=
 ⟨h,fun _=>by rw[aBx];exact .same a,.inl rfl⟩
theorem cpT (h:aE P fid gs bk h0 a r h1):qF P true fid gs bk h0 [] [] a a r h1:=cpC fun _=>h
theorem cpL (hr:aJ) (lent:List Nat) (args:List V) (h:c=true->aE P fid gs bk h0 a r h1) (hv:c=true->eF (args.map (qP hr lent)) a) (hf:lent=[]\/(r.flat=true/\aJ.Flat h1)):
  qF P c fid gs bk h0 hr lent args a r h1:=⟨h,hv,hf⟩
end
end Go.Abs
namespace Go.Abs
open Go Go.MapKept
abbrev abL:=@decide_eq_true
abbrev abT:=@List.length_nil
abbrev abU:=@decide_eq_false
abbrev afP:=@List.singleton_append
section
variable {α β:Type}
def bM (ek:α->V) (dk:α) (ev:β->V) (dv:β) (ks:List α) (vs:List β):Blk:= .mapB ks.length (fun i=>ek (ks.getD i dk)) (fun i=>ev (vs.getD i dv))
def vM (ek:α->V) (dk:α) (ev:β->V) (dv:β) (ks:List α) (vs:List β):V:= .mp ks.length (fun i=>ek (ks.getD i dk)) (fun i=>ev (vs.getD i dv))
def iM (ek:α->V) (dk:α) (ev:β->V) (dv:β) (ks:List α) (vs:List β) (seen:List Nat):Blk:= .iter ks.length (fun i=>ek (ks.getD i dk)) (fun i=>ev (vs.getD i dv)) seen
def jW [DecidableEq α] (x:α):List α->Nat->Option Nat
 |[],_=>none
 |a::l,i=>if x=a then some i else jW x l (i+1)
def mE [DecidableEq α] (ks:List α) (vs:List β) (dv z:β) (x:α):β:=match jW x ks 0 with
 |some i=>vs.getD i dv
 |none=>z
def yG [DecidableEq α] (ks:List α) (x:α):Bool:=(jW x ks 0).isSome
theorem rL [DecidableEq α] {d:TypeDesc} {ek:α->V} (hk:∀a b,qQ d (ek a) (ek b)=some (decide (a=b))) (x dk:α):∀(l pre:List α),qS d (ek x) (fun i=>ek ((pre++l).getD i dk)) l.length pre.length=some (jW x l pre.length)
 |[],pre=>rfl
 |a::l,pre=>by
  have e:(pre++a::l).getD pre.length dk=a:=by simp[aaC]
  have ih:=rL hk x dk l (pre++[a])
  simp only[acA,afP,aaH,aaS,abT,abX]at ih
  simp only[aaS,qS,e,hk,jW]
  by_cases h:x=a
  ·rw[abL h,if_pos h]
  ·rw[abU h,if_neg h,ih]
theorem kM [DecidableEq α] {d:TypeDesc} {ek:α->V} (hk:∀a b,qQ d (ek a) (ek b)=some (decide (a=b))) (x dk:α) (l:List α):qS d (ek x) (fun i=>ek (l.getD i dk)) l.length 0=some (jW x l 0):=rL hk x dk l []
theorem dP (k:IntKind) (a b:Int):qQ (.int k) (.int k a) (.int k b)=some (decide (a=b)):=by
 simp only[qQ,if_true];congr 1
variable {P:Program}
theorem dY.to {op:Op} {ty:TypeId} {bk:List Nat} {h0 h1 h1':aJ} {args:List V} {r r':V} (h:dY P op ty bk h0 args r h1) (e1:r=r') (e2:h1=h1'):dY P op ty bk h0 args r' h1':=by
 subst e1;subst e2;exact h
theorem sO (ek:α->V) (dk:α) (ev:β->V) (dv:β) (ty r:Nat) (t:TypeId):dY P (.makeMap t none) ty [] [] [] (.own r) [(r,bM ek dk ev dv [] [])]:=mR ty r t _ _
theorem uV [DecidableEq α] {mt kt et:TypeId} {d:TypeDesc} (hm:P.underlying mt=some (.map kt et)) (hd:P.underlying kt=some d) (ek:α->V) (dk:α) (ev:β->V) (dv z:β) (hk:∀a b,qQ d (ek a) (ek b)=some (decide (a=b)))
  (hko:∀a,sP d (ek a)=true) (hz:zeroV P et=some (ev z)) (m k:Operand) (ty:Nat) (ks:List α) (vs:List β) (x:α):
  dY P (.lookup mt m k true) ty [] [] [vM ek dk ev dv ks vs,ek x] (.tup [ev (mE ks vs dv z x),.bool (yG ks x)]) []:=by
 have hf:=kM hk x dk ks;unfold mE yG;generalize jW x ks 0=q at hf
 cases q with
 |none=>exact pB hm hd m k ty ks.length _ _ (ek x) (hko x) none hf (ev z) hz
 |some i=>exact pB hm hd m k ty ks.length _ _ (ek x) (hko x) (some i) hf (ev z) hz
theorem dX [DecidableEq α] {mt kt et:TypeId} {d:TypeDesc} (hm:P.underlying mt=some (.map kt et)) (hd:P.underlying kt=some d) (op:Op) (m k v:Operand) (hop:op= .insert mt m k v\/op= .mapUpdate mt m k v) (ek:α->V) (dk:α) (ev:β->V) (dv:β)
  (hk:∀a b,qQ d (ek a) (ek b)=some (decide (a=b))) (hko:∀a,sP d (ek a)=true) (hkc:∀a,(ek a).closed=true) (hvc:∀a,(ev a).closed=true) (ty r:Nat) (ks:List α) (vs:List β) (x:α) (y:β) (hl:vs.length=ks.length) (hx:jW x ks 0=none):
  dY P op ty [r] [(r,bM ek dk ev dv ks vs)] [.own r,ek x,ev y] .any [(r,bM ek dk ev dv (ks++[x]) (vs++[y]))]:=by
 refine(yE hm hd op m k v hop ty r ks.length _ _ (ek x) (ev y) (hko x) (hkc x) (hvc y) (by rw[kM hk x dk ks,hx])).to rfl ?_;unfold bM setF;rw[aaH];congr 1;congr 1;congr 1
 ·funext i;split
  ·rename_i h;subst h;simp[aaC]
  ·rename_i h;by_cases h2:i<ks.length
   ·simp[aaC,acF,h2]
   ·have:i-ks.length≠0:=by omega
    have e:([x]:List α)[i-ks.length]? =none:=by rw[aeL];simp;omega
    simp[aaC,acF,h2,e]
 ·funext i;split
  ·rename_i h;subst h;simp[aaC,<-hl]
  ·rename_i h;by_cases h2:i<vs.length
   ·simp[aaC,acF,h2]
   ·have e:([y]:List β)[i-vs.length]? =none:=by rw[aeL];simp;omega
    simp[aaC,acF,h2,e]
theorem zQ (it:Operand) (ty r:Nat) (ek:α->V) (dk:α) (ev:β->V) (dv:β) (ks:List α) (vs:List β) (seen:List Nat) (j:Nat) (hj:j<ks.length):dY P (.entry it) ty [r] [(r,iM ek dk ev dv ks vs (seen++[j]))] [.own r] (.tup [ek (ks.getD j dk),ev (vs.getD j dv)]) [(r,iM ek dk ev dv ks vs (seen++[j]))]:=
 aBT it ty r ks.length _ _ seen j hj
theorem yA {mt kt et:TypeId} (hm:P.underlying mt=some (.map kt et)) (x:Operand) (ty r:Nat) (ek:α->V) (dk:α) (ev:β->V) (dv:β) (ks:List α) (vs:List β):dY P (.range mt x) ty [] [] [vM ek dk ev dv ks vs] (.own r) [(r,iM ek dk ev dv ks vs [])]:=
 aBp hm x ty r ks.length _ _
end
def agree {R:Type} [DecidableEq R]:List (Option R)->Option R
 |[]=>none
 |x::l=>if l.all (fun y=>decide (y=x))then x else none
theorem aBX {R:Type} [DecidableEq R] {l:List (Option R)} {r:R} (h:agree l=some r):∀x,x∈l->x=some r:=by
 cases l with
 |nil=>cases h
 |cons a l=>
  simp only[agree]at h;split at h
  case isFalse=>cases h
  rename_i hl;intro x hx;rcases abB.1 hx with rfl|hx
  ·exact h
  ·have:=aaV.1 hl x hx;rw[of_decide_eq_true this];exact h
def aBv {R:Type} [DecidableEq R] (n:Nat) (seen:List Nat) (K:Nat->Option R) (E:Option R):Option R:=match(List.range n).filter (fun j=> !seen.contains j)with
 |[]=>E
 |l=>agree (l.map K)
theorem rE {R:Type} [DecidableEq R] {n:Nat} {seen:List Nat} {K:Nat->Option R} {E:Option R} {r:R} (h:aBv n seen K E=some r):
  (∀j,j<n->j∉seen->K j=some r)/\((∀j,j<n->j∈seen)->E=some r):=by
 have hm:∀j,j∈(List.range n).filter (fun j=> !seen.contains j)↔j<n/\j∉seen:=by
  intro j;rw[adP,aeB];simp
 unfold aBv at h;split at h
 ·rename_i he;refine⟨fun j h1 h2=> ?_,fun _=>h⟩;have:=(hm j).2 ⟨h1,h2⟩;rw[he]at this;cases this
 ·rename_i l hl;refine⟨fun j h1 h2=>aBX h (K j) (adO.2 ⟨j,(hm j).2 ⟨h1,h2⟩,rfl⟩),fun hall=> ?_⟩;exfalso;apply hl;rw[List.filter_eq_nil_iff];intro j hj;have:=hall j (aeB.1 hj);simpa using this
section
variable {P:Program} {Q:Exit->S->Prop} {α β:Type}
theorem AWp.nextR {id d d2 ty1 ty2:Nat} {p1 p2:String} {a1 a2:Array Edge} {s:S} {it:Operand} (r:Nat) (ek:α->V) (dk:α) (ev:β->V) (dv:β) (ks:List α) (vs:List β) (seen:List Nat) (hdN:Nat.ble (d+1) s.N=true) (hd2:Nat.ble (d2+1) s.N=true)
  (hdG:Nat.blt d G0=true) (hit:raw s.t it= .own r) (hh:s.h.get r=some (iM ek dk ev dv ks vs seen))
  (h1:∀j,j<ks.length->j∉seen->Q .normal ⟨s.N,(d2,.bool true)::(d,.tup [.bool true,ek (ks.getD j dk),ev (vs.getD j dv)])::s.t,(r,iM ek dk ev dv ks vs (seen++[j]))::s.h.del r,s.b,s.o⟩)
  (h2:(∀j,j<ks.length->j∈seen)->Q .normal ⟨s.N,(d2,.bool false)::(d,.tup [.bool false])::s.t,s.h,s.b,s.o⟩):
  AWp P (.region id #[⟨some d,.next it false,ty1,p1,a1,none⟩,⟨some d2,.extract (.tmp d) 0,ty2,p2,a2,none⟩] false) Q s:=by
 refine AWp.region (l:=[⟨some d,.next it false,ty1,p1,a1,none⟩,⟨some d2,.extract (.tmp d) 0,ty2,p2,a2,none⟩]) ?_;have hlt:d<G0:=aaW hdG
 have hx:∀(t:List (Nat×V)) (h:aJ) (v:V) (vs':List V),Q .normal ⟨s.N,(d2,v)::(d,.tup (v::vs'))::t,h,s.b,s.o⟩->
   (∃b,v= .bool b)->tX P #[⟨some d,.next it false,ty1,p1,a1,none⟩,⟨some d2,.extract (.tmp d) 0,ty2,p2,a2,none⟩] Q [⟨some d2,.extract (.tmp d) 0,ty2,p2,a2,none⟩] ⟨s.N,(d,.tup (v::vs'))::t,h,s.b,s.o⟩:=by
  rintro t h v vs' hq ⟨b,rfl⟩;refine zU (W:=[]) 1 (l':=[]) (s':=⟨s.N,(d2,.bool b)::(d,.tup (.bool b::vs'))::t,h,s.b,s.o⟩) (φ:=True) ?_ trivial (.nil hq);have hd2':d2<s.N:=Nat.lt_of_succ_le (aaW hd2);have hr:raw ((d,V.tup (V.bool b::vs'))::t) (.tmp d)=V.tup (V.bool b::vs'):=by simp[raw,cX,hlt,Nat.not_le.2 hlt]
  have he:Abs.ev ((d,V.tup (V.bool b::vs'))::t) (.tmp d)=V.tup (V.bool b::vs'):=by unfold Abs.ev;rw[hr];rfl
  have hno:iQ ((d,V.tup (V.bool b::vs'))::t) (cA (.extract (.tmp d) 0))=true:=by
   simp[cA,Op.operands,iQ,hr]
  simp[aB5,step,pval,he,triv,hno,kU,zV,hd2']
 refine next_aops rfl rfl rfl hdN hit hh (fun j hj hjs=>hx _ _ _ _ (h1 j hj hjs) ⟨_,rfl⟩) (fun hall=>hx _ _ _ _ (h2 hall) ⟨_,rfl⟩)
end
theorem lst_at {α:Type} (enc:α->List V) (d:α) (sz:Nat) (l:List α) (hl:∀x,(enc x).length=sz) {i j:Nat} (hi:i<l.length) (hj:j<sz):dN sz (l.flatMap enc) i j=(enc (l.getD i d)).getD j .any:=
 flat_get hl i j hi hj
end Go.Abs
