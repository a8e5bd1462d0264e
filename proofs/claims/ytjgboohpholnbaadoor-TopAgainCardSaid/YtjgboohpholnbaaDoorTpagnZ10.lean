/- Part 10 of the proof: AbsS. -/
import Derived.Test.YtjgboohpholnbaaDoorTpagnZ09
import Derived.MapKept
namespace Go.Abs
open Go Go.MapKept
def sO (d:TypeDesc):V→V→Option Bool
 | .int k a,.int k' b=>match d with
  | .int _=>if k=k' then some (a==b)else none
  |_=>none
 | .str a,.str b=>match d with
  | .string=>some (a==b)
  |_=>none
 | .b16 a,.b16 b=>match d with
  | .int _=>some (a==b)
  |_=>none
 |_,_=>none
def vN (d:TypeDesc) (key:V) (kf:Nat→V):Nat→Nat→Option (Option Nat)
 |0,_=>some none
 |n+1,i=>match sO d key (kf i)with
  |some true=>some (some i)
  |some false=>vN d key kf n (i+1)
  |none=>none
section
variable {P:Program} {St:Nat→Prop} {w:World}
theorem rV {d:TypeDesc} {g g':Gh} {x y:V} {a b:Value} {r:Bool} (h:sO d x y=some r) (hx:Rel St w g x a) (hy:Rel St w g' y b):Instr.sameNow d a b=some r:=by
 unfold sO at h;split at h
 ·have:=hx.int_inv;subst this;have:=hy.int_inv;subst this;cases d<;>simp_all[Instr.sameNow]
 ·obtain⟨s,rfl,hs⟩:=hx.str_inv;obtain⟨s',rfl,hs'⟩:=hy.str_inv;cases d<;>simp only[reduceCtorEq,Option.some.injEq]at h;subst h;simp only[Instr.sameNow,Option.some.injEq];rw[←hs,←hs',Bool.eq_iff_iff,bytes_beq,beq_iff_eq];exact⟨fun e=>by rw[e],fun h=>ByteArray.ext (Array.ext' h)⟩
 ·have:=hx.b16_inv;subst this;have:=hy.b16_inv;subst this;cases d<;>simp only[reduceCtorEq,Option.some.injEq]at h;subst h;simp[Instr.sameNow,b16_beq]
 ·cases h
theorem rW {d:TypeDesc} {g:Gh} {x:V} {a:Value} (hx:Rel St w g x a) {kf:Nat→V}:∀(n i:Nat) (l:List MapEntry) {r:Option Nat},vN d x kf n i=some r→l.length=n→
  (∀j,j<n→Rel St w dU (kf (i+j)) (l.getD j default).key)→Instr.findNow d a l i=some (r.map fun q=>(q,(l.getD (q-i) default).val))∧(∀q,r=some q→i≤q∧q<i+n)
 |0,i,l,r,h,hl,hr=>by
  simp only[vN,Option.some.injEq]at h;subst h
  have:=List.eq_nil_of_length_eq_zero hl
  subst this
  exact⟨rfl,by simp⟩
 |n+1,i,[],r,h,hl,hr=>by simp at hl
 |n+1,i,e::l,r,h,hl,hr=>by
  simp only[vN]at h
  have h0:=hr 0 (by omega)
  simp only[Nat.add_zero,List.getD_cons_zero]at h0
  split at h
  ·rename_i hk
   simp only[Option.some.injEq]at h;subst h
   exact⟨by simp[Instr.findNow,rV hk hx h0],by rintro q ⟨⟩;omega⟩
  ·rename_i hk
   obtain⟨h1,h2⟩:=rW hx n (i+1) l h (by simpa using hl) fun j hj=>by
    have:=hr (j+1) (by omega)
    rw[List.getD_cons_succ]at this
    rwa [show i+1+j=i+(j+1) by omega]
   refine⟨?_,fun q hq=>by have:=h2 q hq;omega⟩
   simp only[Instr.findNow,rV hk hx h0,h1]
   cases r with
   |none=>rfl
   |some q=>
    have:=h2 q rfl
    simp only[Option.map_some,Option.some.injEq,Prod.mk.injEq,true_and]
    have e1:q-i=(q-(i+1))+1:=by omega
    rw[e1,List.getD_cons_succ]
  ·cases h
def keyOk (d:TypeDesc):V→Bool
 | .int k _=>match d with
  | .int k'=>k==k'
  |_=>false
 | .str _=>match d with
  | .string=>true
  |_=>false
 | .b16 _=>match d with
  | .int k'=>k'== .u16
  |_=>false
 |_=>false
theorem xA {d:TypeDesc} {g:Gh} {x:V} {a:Value} (h:keyOk d x=true) (hx:Rel St w g x a):IsKey d a:=by
 unfold keyOk at h;split at h
 ·have:=hx.int_inv;subst this;split at h
  ·simp only[beq_iff_eq]at h;subst h;rfl
  ·cases h
 ·obtain⟨s,rfl,_⟩:=hx.str_inv;split at h
  ·trivial
  ·cases h
 ·have:=hx.b16_inv;subst this;split at h
  ·simp only[beq_iff_eq]at h;subst h;rfl
  ·cases h
 ·cases h
theorem WSim.newObj {z:Start} {g:Gh} {h:aG} (hs:WSim z St g h w) {d:Nat} {v':Value} {blk:Blk} {ob:Obj} (hfr:aG.fresh d (h.del d)=true) (hb:bK v'=fun k=>some w.heap.size=some k)
  (hok:cJ St (w.alloc ob) (g.set d v') v' blk):WSim z St (g.set d v') ((d,blk)::h.del d) (w.alloc ob):=
 hs.change (ro:=none) (fun k hk=>by cases hk) rfl rfl rfl (by simp) (fun k hk _=>by first|exact heap_alloc_old w _ hk|exact heap_alloc_old w _ k hk) (.inl hfr) (fun k hk=>by rw[hb]at hk;cases hk;exact .inr ⟨Nat.le_refl _,by simp⟩) hok
theorem sG (ty r:Nat) (t:TypeId) (kf vf:Nat→V):dO P (.makeMap t none) ty [] [] [] (.own r) [(r,.mapB 0 kf vf)]:=by
 rintro o ho _ z ρ hW _;obtain⟨dst,op,ty0,pos,after,guard⟩:=o;dsimp only at ho;subst ho;refine⟨_,.map (some z.w.heap.size),z.w.alloc (.map #[] 0),z.St,z.g.set r (.map (some z.w.heap.size)),by simp[execOp,Instr.makeMap],.inl rfl, ?_,.own _ _ _ (by simp[Gh.set]) rfl,fun k hk=>by cases hk⟩;refine hW.newObj (h:=[]) (d:=r) rfl rfl ?_;exact⟨_, #[],rfl,heap_alloc_new _ _,rfl,fun i hi=>by omega,fun i hi=>by omega,fun i hi=>by omega⟩
theorem cJ.map_inv {g:Gh} {v:Value} {n:Nat} {kf vf:Nat→V} (h:cJ St w g v (.mapB n kf vf)):∃b es,v= .map (some b)∧w.heap[b]? =some (.map es n)∧es.size=n∧(∀i,i<n→(es.getD i default).born=i)∧
   (∀i,i<n→Rel St w dU (kf i) (es.getD i default).key)∧(∀i,i<n→Rel St w dU (vf i) (es.getD i default).val):=h
theorem nU (es:Array MapEntry) (e:MapEntry) (i:Nat):(es.push e).getD i default=if i=es.size then e else es.getD i default:=by
 by_cases h:i<es.size
 ·simp[Array.getElem_push,h,Nat.lt_succ_of_lt h];omega
 ·by_cases h2:i=es.size
  ·subst h2;simp
  ·have:¬i<(es.push e).size:=by simp;omega
   simp[Array.getElem?_eq_none (Nat.le_of_not_lt this),Array.getElem?_eq_none (Nat.le_of_not_lt h),h2]
end
end Go.Abs
