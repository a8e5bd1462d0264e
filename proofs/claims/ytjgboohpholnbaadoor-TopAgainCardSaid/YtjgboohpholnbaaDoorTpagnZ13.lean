/- Part 13 of the proof: AbsX, AbsR2, AbsR3, AbsM1. -/
import Derived.Test.YtjgboohpholnbaaDoorTpagnZ12
import Derived.Below
import Derived.Lib.Join
namespace Go.Abs
open Go Go.RowKit
theorem WSim.below {z:Start} (hW:WSim z z.St z.g [] z.w) {w':World} (h:Below z.w.heap.size z.w w'):WSim z z.St z.g [] w':=
 ⟨⟨h.os,h.tape,h.output,h.size,fun k hk _=>h.block k hk⟩,fun _ h=>h,fun k hk=>⟨Nat.lt_of_lt_of_le (hW.st1 k hk).1 h.size,.inl hk⟩,fun r b v hb=>by simp[aG.get]at hb,fun r b hb=>by simp[aG.get]at hb,fun r r' b b' v v' hb=>by simp[aG.get]at hb⟩
end Go.Abs
namespace Go.Abs
open Go
theorem AWp.sq {P:Program} (W:List Nat) {Q:Exit→S→Prop} {id:Nat} {draw:Bool} {y:Code} (calls:List (Nat×CC)) (ds rs:List Nat) {l:List Oper} {s:S} (s':S) (φ:Prop) (hm:P.follows .mixedOrders=true)
    (h:Abs.regC P W draw calls ds rs l s=some (s',φ)) (hφ:φ) (hQ:AWp P y Q s'):AWp P (.seq (.region id l.toArray draw) y) Q s:=
  AWp.seq (AWp.regC W calls ds rs s' φ hm h hφ (kT hQ))
theorem an1 {a:Prop} (ha:a):a∧True:=⟨ha,trivial⟩
theorem an2 {a b:Prop} (ha:a) (hb:b):a∧b∧True:=⟨ha,hb,trivial⟩
theorem an3 {a b c:Prop} (ha:a) (hb:b) (hc:c):a∧b∧c∧True:=⟨ha,hb,hc,trivial⟩
theorem an4 {a b c d:Prop} (ha:a) (hb:b) (hc:c) (hd:d):a∧b∧c∧d∧True:=⟨ha,hb,hc,hd,trivial⟩
theorem an5 {a b c d e:Prop} (ha:a) (hb:b) (hc:c) (hd:d) (he:e):a∧b∧c∧d∧e∧True:=⟨ha,hb,hc,hd,he,trivial⟩
theorem an6 {a b c d e f:Prop} (ha:a) (hb:b) (hc:c) (hd:d) (he:e) (hf:f):a∧b∧c∧d∧e∧f∧True:=⟨ha,hb,hc,hd,he,hf,trivial⟩
/-! ### Result boxes: read at the return, then gone -/
def uM (ids:List Nat) (h:aG):aG:=h.filter fun p=> !(ids.contains p.1)
theorem fP (ids:List Nat):∀(h:aG) (r:Nat) (b:Blk),(uM ids h).get r=some b→h.get r=some b
  |[],r,b,hb=>by simp[uM,aG.get]at hb
  |(k,c)::h,r,b,hb=>by
    unfold uM at hb
    rw[List.filter_cons]at hb
    split at hb
    · simp only[aG.get]at hb⊢
      split at hb
      · rename_i e;rw[if_pos e];exact hb
      · rename_i e;rw[if_neg e];exact fP ids h r b hb
    · rename_i hk
      have hr:=fP ids h r b hb
      simp only[aG.get]
      split
      · rename_i e
        subst e
        -- the number is dropped everywhere
        exfalso
        have:∀(h:aG) (b:Blk),ids.contains k=true→(uM ids h).get k=some b→False:=by
          intro h
          induction h with
          |nil=>intro b _ hb;simp[uM,aG.get]at hb
          |cons p h ih=>
            intro b hc hb
            unfold uM at hb
            rw[List.filter_cons]at hb
            split at hb
            · rename_i hp
              simp only[aG.get]at hb
              split at hb
              · rename_i e;rw[e,hc]at hp;cases hp
              · exact ih b hc hb
            · exact ih b hc hb
        exact this h b (by simpa using hk) hb
      · exact hr
theorem WSim.drop {z:Start} {St:Nat→Prop} {g:Gh} {h:aG} {w:World} (hW:WSim z St g h w) (ids:List Nat):WSim z St g (uM ids h) w:=
  ⟨hW.frm,hW.st0,hW.st1,fun r b v hb=>hW.ow r b v (fP ids h r b hb),fun r b hb=>hW.ok r b (fP ids h r b hb),
   fun r r' b b' v v' hb hb'=>hW.sep r r' b b' v v' (fP ids h r b hb) (fP ids h r' b' hb')⟩
theorem aF.bodyD {P:Program} {f:FuncId} {fn:Func} {c:Code} {N:Nat} {h0:aG} {args:List V} {r:V} {h1:aG} (ids:List Nat) (o:Nat) (gs:List (Nat×V)) (bk:List Nat) (hf:P.funcs[f]? =some fn) (hb:fn.body=some c) (hN:fn.ntmps=N) (hle:Nat.ble args.length N=true) (hG:Nat.ble N 1000000=true)
    (h:AWp P c (vY P fn bk (fun v h=>v=r∧uM ids h=h1)) ⟨N,iB 0 args++oS gs,h0,bk,o⟩):aF P f gs bk h0 args r h1:=by
  have hs:=Spec.body o gs bk hf hb hN (Nat.le_of_ble_eq_true hle) (Nat.le_of_ble_eq_true hG) h;intro z vals h1' h2 h3 h4;refine(hs z vals h1' h2 h3 h4).mono ?_;rintro e w' ⟨x,r',hh,St',g',he,⟨rfl,rfl⟩,hW,hrel,hk⟩;exact⟨x,r',_,St',g',he,⟨rfl,rfl⟩,hW.drop ids,hrel,hk⟩
end Go.Abs
namespace Go.Abs
open Go
theorem VLe.opq {v:V} (h:v.isOne=true):VLe v .opq:=fun _ _ _ _ hr=> .opq _ _ (hr.isOne h)
theorem eQ.same :∀l:List V,eQ l l
 |[]=>trivial
 |v::l=>⟨.refl v,eQ.same l⟩
theorem yV (l:List V):l.map (oR [] [])=l:=by
 induction l with
 |nil=>rfl
 |cons v l ih=>rw[List.map_cons,ih];rfl
theorem ac6 {a b c d e f g:Prop} (ha:a) (hb:b) (hc:c) (hd:d) (he:e) (hf:f) (hg:g):a∧b∧c∧d∧e∧f∧g:=⟨ha,hb,hc,hd,he,hf,hg⟩
section
variable {P:Program} {c:Bool} {fid:FuncId} {gs:List (Nat×V)} {bk:List Nat} {h0:aG} {a:List V} {r:V} {h1:aG}
theorem cpC (h:c=true→aF P fid gs bk h0 a r h1):jY P c fid gs bk h0 [] [] a a r h1:=
 ⟨h,fun _=>by rw[yV];exact .same a,.inl rfl⟩
theorem cpT (h:aF P fid gs bk h0 a r h1):jY P true fid gs bk h0 [] [] a a r h1:=cpC fun _=>h
theorem cpL (hr:aG) (lent:List Nat) (args:List V) (h:c=true→aF P fid gs bk h0 a r h1) (hv:c=true→eQ (args.map (oR hr lent)) a) (hf:lent=[]∨(r.flat=true∧aG.Flat h1)):
  jY P c fid gs bk h0 hr lent args a r h1:=⟨h,hv,hf⟩
end
end Go.Abs
namespace Go.Abs
open Go Go.MapKept
section
variable {α β:Type}
def bM (ek:α→V) (dk:α) (ev:β→V) (dv:β) (ks:List α) (vs:List β):Blk:= .mapB ks.length (fun i=>ek (ks.getD i dk)) (fun i=>ev (vs.getD i dv))
def jE [DecidableEq α] (x:α):List α→Nat→Option Nat
 |[],_=>none
 |a::l,i=>if x=a then some i else jE x l (i+1)
def getM [DecidableEq α] (ks:List α) (vs:List β) (dv z:β) (x:α):β:=match jE x ks 0 with
 |some i=>vs.getD i dv
 |none=>z
def hasM [DecidableEq α] (ks:List α) (x:α):Bool:=(jE x ks 0).isSome
theorem pL [DecidableEq α] {d:TypeDesc} {ek:α→V} (hk:∀a b,sO d (ek a) (ek b)=some (decide (a=b))) (x dk:α):∀(l pre:List α),vN d (ek x) (fun i=>ek ((pre++l).getD i dk)) l.length pre.length=some (jE x l pre.length)
 |[],pre=>rfl
 |a::l,pre=>by
  have e:(pre++a::l).getD pre.length dk=a:=by simp[List.getD_eq_getElem?_getD]
  have ih:=pL hk x dk l (pre++[a])
  simp only[List.append_assoc,List.singleton_append,List.length_append,List.length_cons,List.length_nil,Nat.zero_add]at ih
  simp only[List.length_cons,vN,e,hk,jE]
  by_cases h:x=a
  ·rw[decide_eq_true h,if_pos h]
  ·rw[decide_eq_false h,if_neg h,ih]
theorem vM [DecidableEq α] {d:TypeDesc} {ek:α→V} (hk:∀a b,sO d (ek a) (ek b)=some (decide (a=b))) (x dk:α) (l:List α):vN d (ek x) (fun i=>ek (l.getD i dk)) l.length 0=some (jE x l 0):=pL hk x dk l []
theorem keyEq_int (k:IntKind) (a b:Int):sO (.int k) (.int k a) (.int k b)=some (decide (a=b)):=by
 simp only[sO,if_true];congr 1
variable {P:Program}
theorem dO.to {op:Op} {ty:TypeId} {bk:List Nat} {h0 h1 h1':aG} {args:List V} {r r':V} (h:dO P op ty bk h0 args r h1) (e1:r=r') (e2:h1=h1'):dO P op ty bk h0 args r' h1':=by
 subst e1;subst e2;exact h
end
section
variable {P:Program} {Q:Exit→S→Prop} {α β:Type}
end
end Go.Abs
