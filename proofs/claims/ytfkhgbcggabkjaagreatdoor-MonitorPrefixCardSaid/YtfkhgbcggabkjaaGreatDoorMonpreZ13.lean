/- Part 13 of the proof: AbsX, AbsR2, AbsR3, AbsM1. -/
import Derived.Test.YtfkhgbcggabkjaaGreatDoorMonpreZ12
import Derived.Below
import Derived.Lib.Join
namespace Go.Abs
open Go Go.RowKit
theorem WSim.below {z:Start} (hW:WSim z z.St z.g [] z.w) {w':World} (h:Below z.w.heap.size z.w w'):WSim z z.St z.g [] w':=
 ⟨⟨h.os,h.tape,h.output,h.size,fun k hk _=>h.block k hk⟩,fun _ h=>h,fun k hk=>⟨Nat.lt_of_lt_of_le (hW.st1 k hk).1 h.size,.inl hk⟩,fun r b v hb=>by simp[aK.get]at hb,fun r b hb=>by simp[aK.get]at hb,fun r r' b b' v v' hb=>by simp[aK.get]at hb⟩
theorem str_of {s:ByteArray} {l:List UInt8} (h:s.data.toList=l):s=⟨l.toArray⟩:=by
 subst h;cases s;simp
def joinP (l:List (List UInt8)) (sep:List UInt8):Option (List UInt8):=
 if(Lib.join l sep).length≤140737488355328∧l.length≤140737488355328 then some (Lib.join l sep)else none
theorem join_spec {P:Program} {f:FuncId} (h0:∀(a:Option Addr) (c:Nat) (sep:ByteArray) (w:World),Calls P f #[.slice a 0 c,.string sep] w fun e w'=>e= .returned (.string ⟨#[]⟩)∧w'=w)
  (h1:∀(bk o c:Nat) (xs:List ByteArray) (sep:ByteArray) (w:World),(∀(j:Nat) x,xs[j]? =some x→w.cell? ⟨bk,o+j,none⟩=some (.string x))→bk<w.heap.size→xs.length≤140737488355328→xs.length≤c→
   (Lib.join (xs.map (·.data.toList)) sep.data.toList).length≤140737488355328→Calls P f #[.slice (some ⟨bk,o,none⟩) xs.length c,.string sep] w fun e w'=>e= .returned (.string ⟨(Lib.join (xs.map (·.data.toList)) sep.data.toList).toArray⟩)∧Below w.heap.size w w')
  (l:List (List UInt8)) (sep r:List UInt8) (h:joinP l sep=some r):aH P f [] [] [] [.arr 1 l.length (cD (fun x=>[.str x]) [] l),.str sep] (.str r) []:=by
 unfold joinP at h;split at h
 case isFalse=>cases h
 rename_i hc;cases h;intro z vals hW hl hr _;have e0:=hr 0 (by simp);have e1:=hr 1 (by simp);simp only[List.getD_cons_zero,List.getD_cons_succ]at e0 e1;obtain⟨s,hs1,hs2⟩:=e1.str_inv
 have hv:vals= #[vals.getD 0 undef,vals.getD 1 undef]:=by
  apply Array.ext
  ·simpa using hl
  ·intro i h1 h2;have:i=0∨i=1:=by simp at h2;omega
   rcases this with rfl|rfl<;>simp[h1]
 rw[hv,hs1];generalize vals.getD 0 undef=u at e0
 have nilcase:l.length=0→∀a c,u= .slice a 0 c→Calls P f #[u,.string s] z.w (fun e w'=>∃x r h1 St' g',e= .returned x∧(r= .str (Lib.join l sep)∧h1=([]:aK))∧WSim z St' g' h1 w'∧Rel St' w' g' r x∧(∀k,k∈([]:List Nat)→g' k=z.g k)):=by
  intro hn a c hu;subst hu;refine(h0 a c s z.w).mono ?_;rintro e w' ⟨rfl,rfl⟩;refine⟨_,_,_,z.St,z.g,rfl,⟨rfl,rfl⟩,hW,.str _ _ _ ?_,by simp⟩;rw[List.length_eq_zero_iff.1 hn];rfl
 generalize hn:l.length=n at e0
 cases e0 with
 |arr0=>exact nilcase hn _ _ rfl
 |arrE=>exact nilcase hn _ _ rfl
 |arr _ _ _ _ b o cap x hcap hmax hS hcl h1c hrr=>
  by_cases hn0:n=0
  ·subst hn0;exact nilcase hn _ _ rfl
  have hb:z.St b:=hS (by omega) (by decide);have hlen:(l.map (fun(q:List UInt8)=>(⟨q.toArray⟩:ByteArray))).length=n:=by simpa using hn
  have hmap:(l.map (fun(q:List UInt8)=>(⟨q.toArray⟩:ByteArray))).map (fun(s:ByteArray)=>s.data.toList)=l:=by simp[Function.comp_def]
  have:=h1 b o cap (l.map fun q=>⟨q.toArray⟩) s z.w (fun j y hj=> ?_) (hW.st1 b hb).1 (by rw[hlen];omega) (by rw[hlen];exact hcap) (by rw[hmap,hs2];exact hc.1)
  ·rw[hlen,hmap,hs2]at this;refine this.mono ?_;rintro e w' ⟨rfl,hbl⟩;exact⟨_,_,_,z.St,z.g,rfl,⟨rfl,rfl⟩,hW.below hbl,.str _ _ _ (by simp),by simp⟩
  ·have hjn:j<n:=by have:=(List.getElem?_eq_some_iff.1 hj).1;omega
   have h5:=hcl j 0 hjn (by decide);have h6:=hrr j 0 hjn (by decide);simp only[cD,List.getD_cons_zero]at h6;obtain⟨s2,hs3,hs4⟩:=h6.str_inv;rw[hs3,str_of hs4]at h5;simp only[Nat.mul_one,Nat.add_zero]at h5;rw[h5];rw[List.getElem?_map]at hj;obtain⟨q,hq,rfl⟩:=Option.map_eq_some_iff.1 hj;simp[List.getD_eq_getElem?_getD,hq]
end Go.Abs
namespace Go.Abs
open Go
theorem AWp.sq {P:Program} (W:List Nat) {Q:Exit→S→Prop} {id:Nat} {draw:Bool} {y:Code} (calls:List (Nat×CC)) (ds rs:List Nat) {l:List Oper} {s:S} (s':S) (φ:Prop) (hm:P.follows .mixedOrders=true)
    (h:Abs.regC P W draw calls ds rs l s=some (s',φ)) (hφ:φ) (hQ:AWp P y Q s'):AWp P (.seq (.region id l.toArray draw) y) Q s:=
  AWp.seq (AWp.regC W calls ds rs s' φ hm h hφ (lX hQ))
theorem an1 {a:Prop} (ha:a):a∧True:=⟨ha,trivial⟩
theorem an2 {a b:Prop} (ha:a) (hb:b):a∧b∧True:=⟨ha,hb,trivial⟩
theorem an3 {a b c:Prop} (ha:a) (hb:b) (hc:c):a∧b∧c∧True:=⟨ha,hb,hc,trivial⟩
theorem an4 {a b c d:Prop} (ha:a) (hb:b) (hc:c) (hd:d):a∧b∧c∧d∧True:=⟨ha,hb,hc,hd,trivial⟩
theorem an5 {a b c d e:Prop} (ha:a) (hb:b) (hc:c) (hd:d) (he:e):a∧b∧c∧d∧e∧True:=⟨ha,hb,hc,hd,he,trivial⟩
theorem an6 {a b c d e f:Prop} (ha:a) (hb:b) (hc:c) (hd:d) (he:e) (hf:f):a∧b∧c∧d∧e∧f∧True:=⟨ha,hb,hc,hd,he,hf,trivial⟩
/-! ### Result boxes: read at the return, then gone -/
def wD (ids:List Nat) (h:aK):aK:=h.filter fun p=> !(ids.contains p.1)
theorem gE (ids:List Nat):∀(h:aK) (r:Nat) (b:Blk),(wD ids h).get r=some b→h.get r=some b
  |[],r,b,hb=>by simp[wD,aK.get]at hb
  |(k,c)::h,r,b,hb=>by
    unfold wD at hb
    rw[List.filter_cons]at hb
    split at hb
    · simp only[aK.get]at hb⊢
      split at hb
      · rename_i e;rw[if_pos e];exact hb
      · rename_i e;rw[if_neg e];exact gE ids h r b hb
    · rename_i hk
      have hr:=gE ids h r b hb
      simp only[aK.get]
      split
      · rename_i e
        subst e
        -- the number is dropped everywhere
        exfalso
        have:∀(h:aK) (b:Blk),ids.contains k=true→(wD ids h).get k=some b→False:=by
          intro h
          induction h with
          |nil=>intro b _ hb;simp[wD,aK.get]at hb
          |cons p h ih=>
            intro b hc hb
            unfold wD at hb
            rw[List.filter_cons]at hb
            split at hb
            · rename_i hp
              simp only[aK.get]at hb
              split at hb
              · rename_i e;rw[e,hc]at hp;cases hp
              · exact ih b hc hb
            · exact ih b hc hb
        exact this h b (by simpa using hk) hb
      · exact hr
theorem WSim.drop {z:Start} {St:Nat→Prop} {g:Gh} {h:aK} {w:World} (hW:WSim z St g h w) (ids:List Nat):WSim z St g (wD ids h) w:=
  ⟨hW.frm,hW.st0,hW.st1,fun r b v hb=>hW.ow r b v (gE ids h r b hb),fun r b hb=>hW.ok r b (gE ids h r b hb),
   fun r r' b b' v v' hb hb'=>hW.sep r r' b b' v v' (gE ids h r b hb) (gE ids h r' b' hb')⟩
theorem aH.bodyD {P:Program} {f:FuncId} {fn:Func} {c:Code} {N:Nat} {h0:aK} {args:List V} {r:V} {h1:aK} (ids:List Nat) (o:Nat) (gs:List (Nat×V)) (bk:List Nat) (hf:P.funcs[f]? =some fn) (hb:fn.body=some c) (hN:fn.ntmps=N) (hle:Nat.ble args.length N=true) (hG:Nat.ble N 1000000=true)
    (h:AWp P c (yC P fn bk (fun v h=>v=r∧wD ids h=h1)) ⟨N,jF 0 args++pO gs,h0,bk,o⟩):aH P f gs bk h0 args r h1:=by
  have hs:=Spec.body o gs bk hf hb hN (Nat.le_of_ble_eq_true hle) (Nat.le_of_ble_eq_true hG) h;intro z vals h1' h2 h3 h4;refine(hs z vals h1' h2 h3 h4).mono ?_;rintro e w' ⟨x,r',hh,St',g',he,⟨rfl,rfl⟩,hW,hrel,hk⟩;exact⟨x,r',_,St',g',he,⟨rfl,rfl⟩,hW.drop ids,hrel,hk⟩
end Go.Abs
namespace Go.Abs
open Go
theorem VLe.opq {v:V} (h:v.isOne=true):VLe v .opq:=fun _ _ _ _ hr=> .opq _ _ (hr.isOne h)
theorem eJ.same :∀l:List V,eJ l l
 |[]=>trivial
 |v::l=>⟨.refl v,eJ.same l⟩
theorem aAY (l:List V):l.map (pM [] [])=l:=by
 induction l with
 |nil=>rfl
 |cons v l ih=>rw[List.map_cons,ih];rfl
theorem ac6 {a b c d e f g:Prop} (ha:a) (hb:b) (hc:c) (hd:d) (he:e) (hf:f) (hg:g):a∧b∧c∧d∧e∧f∧g:=⟨ha,hb,hc,hd,he,hf,hg⟩
section
variable {P:Program} {c:Bool} {fid:FuncId} {gs:List (Nat×V)} {bk:List Nat} {h0:aK} {a:List V} {r:V} {h1:aK}
theorem cpC (h:c=true→aH P fid gs bk h0 a r h1):pD P c fid gs bk h0 [] [] a a r h1:=
 ⟨h,fun _=>by rw[aAY];exact .same a,.inl rfl⟩
theorem cpT (h:aH P fid gs bk h0 a r h1):pD P true fid gs bk h0 [] [] a a r h1:=cpC fun _=>h
theorem cpL (hr:aK) (lent:List Nat) (args:List V) (h:c=true→aH P fid gs bk h0 a r h1) (hv:c=true→eJ (args.map (pM hr lent)) a) (hf:lent=[]∨(r.flat=true∧aK.Flat h1)):
  pD P c fid gs bk h0 hr lent args a r h1:=⟨h,hv,hf⟩
end
end Go.Abs
namespace Go.Abs
open Go Go.MapKept
section
variable {α β:Type}
def bM (ek:α→V) (dk:α) (ev:β→V) (dv:β) (ks:List α) (vs:List β):Blk:= .mapB ks.length (fun i=>ek (ks.getD i dk)) (fun i=>ev (vs.getD i dv))
def vM (ek:α→V) (dk:α) (ev:β→V) (dv:β) (ks:List α) (vs:List β):V:= .mp ks.length (fun i=>ek (ks.getD i dk)) (fun i=>ev (vs.getD i dv))
def iM (ek:α→V) (dk:α) (ev:β→V) (dv:β) (ks:List α) (vs:List β) (seen:List Nat):Blk:= .iter ks.length (fun i=>ek (ks.getD i dk)) (fun i=>ev (vs.getD i dv)) seen
def jB [DecidableEq α] (x:α):List α→Nat→Option Nat
 |[],_=>none
 |a::l,i=>if x=a then some i else jB x l (i+1)
def lM [DecidableEq α] (ks:List α) (vs:List β) (dv z:β) (x:α):β:=match jB x ks 0 with
 |some i=>vs.getD i dv
 |none=>z
def wV [DecidableEq α] (ks:List α) (x:α):Bool:=(jB x ks 0).isSome
theorem qN [DecidableEq α] {d:TypeDesc} {ek:α→V} (hk:∀a b,pN d (ek a) (ek b)=some (decide (a=b))) (x dk:α):∀(l pre:List α),pP d (ek x) (fun i=>ek ((pre++l).getD i dk)) l.length pre.length=some (jB x l pre.length)
 |[],pre=>rfl
 |a::l,pre=>by
  have e:(pre++a::l).getD pre.length dk=a:=by simp[List.getD_eq_getElem?_getD]
  have ih:=qN hk x dk l (pre++[a])
  simp only[List.append_assoc,List.singleton_append,List.length_append,List.length_cons,List.length_nil,Nat.zero_add]at ih
  simp only[List.length_cons,pP,e,hk,jB]
  by_cases h:x=a
  ·rw[decide_eq_true h,if_pos h]
  ·rw[decide_eq_false h,if_neg h,ih]
theorem jT [DecidableEq α] {d:TypeDesc} {ek:α→V} (hk:∀a b,pN d (ek a) (ek b)=some (decide (a=b))) (x dk:α) (l:List α):pP d (ek x) (fun i=>ek (l.getD i dk)) l.length 0=some (jB x l 0):=qN hk x dk l []
theorem dK (k:IntKind) (a b:Int):pN (.int k) (.int k a) (.int k b)=some (decide (a=b)):=by
 simp only[pN,if_true];congr 1
variable {P:Program}
theorem dS.to {op:Op} {ty:TypeId} {bk:List Nat} {h0 h1 h1':aK} {args:List V} {r r':V} (h:dS P op ty bk h0 args r h1) (e1:r=r') (e2:h1=h1'):dS P op ty bk h0 args r' h1':=by
 subst e1;subst e2;exact h
theorem rQ (ek:α→V) (dk:α) (ev:β→V) (dv:β) (ty r:Nat) (t:TypeId):dS P (.makeMap t none) ty [] [] [] (.own r) [(r,bM ek dk ev dv [] [])]:=mC ty r t _ _
theorem tX [DecidableEq α] {mt kt et:TypeId} {d:TypeDesc} (hm:P.underlying mt=some (.map kt et)) (hd:P.underlying kt=some d) (ek:α→V) (dk:α) (ev:β→V) (dv z:β) (hk:∀a b,pN d (ek a) (ek b)=some (decide (a=b)))
  (hko:∀a,rR d (ek a)=true) (hz:zeroV P et=some (ev z)) (m k:Operand) (ty:Nat) (ks:List α) (vs:List β) (x:α):
  dS P (.lookup mt m k true) ty [] [] [vM ek dk ev dv ks vs,ek x] (.tup [ev (lM ks vs dv z x),.bool (wV ks x)]) []:=by
 have hf:=jT hk x dk ks;unfold lM wV;generalize jB x ks 0=q at hf
 cases q with
 |none=>exact oD hm hd m k ty ks.length _ _ (ek x) (hko x) none hf (ev z) hz
 |some i=>exact oD hm hd m k ty ks.length _ _ (ek x) (hko x) (some i) hf (ev z) hz
theorem dR [DecidableEq α] {mt kt et:TypeId} {d:TypeDesc} (hm:P.underlying mt=some (.map kt et)) (hd:P.underlying kt=some d) (op:Op) (m k v:Operand) (hop:op= .insert mt m k v∨op= .mapUpdate mt m k v) (ek:α→V) (dk:α) (ev:β→V) (dv:β)
  (hk:∀a b,pN d (ek a) (ek b)=some (decide (a=b))) (hko:∀a,rR d (ek a)=true) (hkc:∀a,(ek a).closed=true) (hvc:∀a,(ev a).closed=true) (ty r:Nat) (ks:List α) (vs:List β) (x:α) (y:β) (hl:vs.length=ks.length) (hx:jB x ks 0=none):
  dS P op ty [r] [(r,bM ek dk ev dv ks vs)] [.own r,ek x,ev y] .any [(r,bM ek dk ev dv (ks++[x]) (vs++[y]))]:=by
 refine(wT hm hd op m k v hop ty r ks.length _ _ (ek x) (ev y) (hko x) (hkc x) (hvc y) (by rw[jT hk x dk ks,hx])).to rfl ?_;unfold bM setF;rw[List.length_append];congr 1;congr 1;congr 1
 ·funext i;split
  ·rename_i h;subst h;simp[List.getD_eq_getElem?_getD]
  ·rename_i h;by_cases h2:i<ks.length
   ·simp[List.getD_eq_getElem?_getD,List.getElem?_append,h2]
   ·have:i-ks.length≠0:=by omega
    have e:([x]:List α)[i-ks.length]? =none:=by rw[List.getElem?_eq_none];simp;omega
    simp[List.getD_eq_getElem?_getD,List.getElem?_append,h2,e]
 ·funext i;split
  ·rename_i h;subst h;simp[List.getD_eq_getElem?_getD,←hl]
  ·rename_i h;by_cases h2:i<vs.length
   ·simp[List.getD_eq_getElem?_getD,List.getElem?_append,h2]
   ·have e:([y]:List β)[i-vs.length]? =none:=by rw[List.getElem?_eq_none];simp;omega
    simp[List.getD_eq_getElem?_getD,List.getElem?_append,h2,e]
theorem yB (it:Operand) (ty r:Nat) (ek:α→V) (dk:α) (ev:β→V) (dv:β) (ks:List α) (vs:List β) (seen:List Nat) (j:Nat) (hj:j<ks.length):dS P (.entry it) ty [r] [(r,iM ek dk ev dv ks vs (seen++[j]))] [.own r] (.tup [ek (ks.getD j dk),ev (vs.getD j dv)]) [(r,iM ek dk ev dv ks vs (seen++[j]))]:=
 aBf it ty r ks.length _ _ seen j hj
theorem wQ {mt kt et:TypeId} (hm:P.underlying mt=some (.map kt et)) (x:Operand) (ty r:Nat) (ek:α→V) (dk:α) (ev:β→V) (dv:β) (ks:List α) (vs:List β):dS P (.range mt x) ty [] [] [vM ek dk ev dv ks vs] (.own r) [(r,iM ek dk ev dv ks vs [])]:=
 aAQ hm x ty r ks.length _ _
end
def agree {R:Type} [DecidableEq R]:List (Option R)→Option R
 |[]=>none
 |x::l=>if l.all (fun y=>decide (y=x))then x else none
theorem aBj {R:Type} [DecidableEq R] {l:List (Option R)} {r:R} (h:agree l=some r):∀x,x∈l→x=some r:=by
 cases l with
 |nil=>cases h
 |cons a l=>
  simp only[agree]at h;split at h
  case isFalse=>cases h
  rename_i hl;intro x hx;rcases List.mem_cons.1 hx with rfl|hx
  ·exact h
  ·have:=List.all_eq_true.1 hl x hx;rw[of_decide_eq_true this];exact h
def aAW {R:Type} [DecidableEq R] (n:Nat) (seen:List Nat) (K:Nat→Option R) (E:Option R):Option R:=match(List.range n).filter (fun j=> !seen.contains j)with
 |[]=>E
 |l=>agree (l.map K)
theorem qE {R:Type} [DecidableEq R] {n:Nat} {seen:List Nat} {K:Nat→Option R} {E:Option R} {r:R} (h:aAW n seen K E=some r):
  (∀j,j<n→j∉seen→K j=some r)∧((∀j,j<n→j∈seen)→E=some r):=by
 have hm:∀j,j∈(List.range n).filter (fun j=> !seen.contains j)↔j<n∧j∉seen:=by
  intro j;rw[List.mem_filter,List.mem_range];simp
 unfold aAW at h;split at h
 ·rename_i he;refine⟨fun j h1 h2=> ?_,fun _=>h⟩;have:=(hm j).2 ⟨h1,h2⟩;rw[he]at this;cases this
 ·rename_i l hl;refine⟨fun j h1 h2=>aBj h (K j) (List.mem_map.2 ⟨j,(hm j).2 ⟨h1,h2⟩,rfl⟩),fun hall=> ?_⟩;exfalso;apply hl;rw[List.filter_eq_nil_iff];intro j hj;have:=hall j (List.mem_range.1 hj);simpa using this
section
variable {P:Program} {Q:Exit→S→Prop} {α β:Type}
theorem AWp.nextR {id d d2 ty1 ty2:Nat} {p1 p2:String} {a1 a2:Array Edge} {s:S} {it:Operand} (r:Nat) (ek:α→V) (dk:α) (ev:β→V) (dv:β) (ks:List α) (vs:List β) (seen:List Nat) (hdN:Nat.ble (d+1) s.N=true) (hd2:Nat.ble (d2+1) s.N=true)
  (hdG:Nat.blt d G0=true) (hit:raw s.t it= .own r) (hh:s.h.get r=some (iM ek dk ev dv ks vs seen))
  (h1:∀j,j<ks.length→j∉seen→Q .normal ⟨s.N,(d2,.bool true)::(d,.tup [.bool true,ek (ks.getD j dk),ev (vs.getD j dv)])::s.t,(r,iM ek dk ev dv ks vs (seen++[j]))::s.h.del r,s.b,s.o⟩)
  (h2:(∀j,j<ks.length→j∈seen)→Q .normal ⟨s.N,(d2,.bool false)::(d,.tup [.bool false])::s.t,s.h,s.b,s.o⟩):
  AWp P (.region id #[⟨some d,.next it false,ty1,p1,a1,none⟩,⟨some d2,.extract (.tmp d) 0,ty2,p2,a2,none⟩] false) Q s:=by
 refine AWp.region (l:=[⟨some d,.next it false,ty1,p1,a1,none⟩,⟨some d2,.extract (.tmp d) 0,ty2,p2,a2,none⟩]) ?_;have hlt:d<G0:=Nat.le_of_ble_eq_true hdG
 have hx:∀(t:List (Nat×V)) (h:aK) (v:V) (vs':List V),Q .normal ⟨s.N,(d2,v)::(d,.tup (v::vs'))::t,h,s.b,s.o⟩→
   (∃b,v= .bool b)→sU P #[⟨some d,.next it false,ty1,p1,a1,none⟩,⟨some d2,.extract (.tmp d) 0,ty2,p2,a2,none⟩] Q [⟨some d2,.extract (.tmp d) 0,ty2,p2,a2,none⟩] ⟨s.N,(d,.tup (v::vs'))::t,h,s.b,s.o⟩:=by
  rintro t h v vs' hq ⟨b,rfl⟩;refine yG (W:=[]) 1 (l':=[]) (s':=⟨s.N,(d2,.bool b)::(d,.tup (.bool b::vs'))::t,h,s.b,s.o⟩) (φ:=True) ?_ trivial (.nil hq);have hd2':d2<s.N:=Nat.lt_of_succ_le (Nat.le_of_ble_eq_true hd2);have hr:raw ((d,V.tup (V.bool b::vs'))::t) (.tmp d)=V.tup (V.bool b::vs'):=by simp[raw,cX,hlt,Nat.not_le.2 hlt]
  have he:Abs.ev ((d,V.tup (V.bool b::vs'))::t) (.tmp d)=V.tup (V.bool b::vs'):=by unfold Abs.ev;rw[hr];rfl
  have hno:iA ((d,V.tup (V.bool b::vs'))::t) (bX (.extract (.tmp d) 0))=true:=by
   simp[bX,Op.operands,iA,hr]
  simp[aBr,step,pval,he,triv,hno,jY,yH,hd2']
 refine next_aops rfl rfl rfl hdN hit hh (fun j hj hjs=>hx _ _ _ _ (h1 j hj hjs) ⟨_,rfl⟩) (fun hall=>hx _ _ _ _ (h2 hall) ⟨_,rfl⟩)
end
theorem lst_at {α:Type} (enc:α→List V) (d:α) (sz:Nat) (l:List α) (hl:∀x,(enc x).length=sz) {i j:Nat} (hi:i<l.length) (hj:j<sz):dH sz (l.flatMap enc) i j=(enc (l.getD i d)).getD j .any:=
 flat_get hl i j hi hj
end Go.Abs
