/- Part 2 of the proof: AbsB. -/
import Derived.Test.YtfkhgbcggabkjaaGreatDoorMonrepZ01
import Derived.Laws.Strings
import Derived.Laws.Entries
import Derived.IntWalk
namespace Go.Abs
open Go
abbrev abO:=@Sem.run_pure
abbrev abZ:=@beq_iff_eq
abbrev adS:=@BitVec.eq_of_toNat_eq
abbrev aeP:=@BitVec.toNat_ofInt
abbrev aeS:=@Nat.min_eq_left
abbrev aeT:=@Bool.eq_iff_iff
abbrev afN:=@Sem.run_ite
abbrev agJ:=@Int.fdiv_eq_ediv_of_nonneg
/-! ### Inversions -/
section
variable {St:Nat->Prop} {w:World} {g:Gh} {x:Value}
theorem Rel.int_inv {k:IntKind} {n:Int} (h:Rel St w g (.int k n) x):x= .int k n:=by cases h;rfl
theorem Rel.bool_inv {b:Bool} (h:Rel St w g (.bool b) x):x= .bool b:=by cases h;rfl
theorem Rel.b16_inv {y:BitVec 16} (h:Rel St w g (.b16 y) x):x= .int .u16 (y.toNat:Int):=by cases h;rfl
theorem Rel.str_inv {l:aaA} (h:Rel St w g (.str l) x):∃s:ByteArray,x= .string s/\s.data.toList=l:=by cases h;exact⟨_,rfl,by assumption⟩
theorem Rel.nils_inv (h:Rel St w g .nils x):x= .slice none 0 0:=by cases h;rfl
theorem Rel.own_inv {r:Nat} (h:Rel St w g (.own r) x):g r=some x:=by cases h;assumption
theorem Rel.agg_inv {cs:List V} (h:Rel St w g (.agg cs) x):∃vs:Array Value,x= .agg vs/\vs.size=cs.length/\∀i,i<cs.length->Rel St w g (cs.getD i .any) (vs.getD i undef):=by
  cases h;exact⟨_,rfl,by assumption,by assumption⟩
theorem Rel.tup_inv {cs:List V} (h:Rel St w g (.tup cs) x):∃vs:Array Value,x= .tuple vs/\vs.size=cs.length/\∀i,i<cs.length->Rel St w g (cs.getD i .any) (vs.getD i undef):=by
  cases h;exact⟨_,rfl,by assumption,by assumption⟩
theorem Rel.opt_inv {c:Bool} {v:V} (h:Rel St w g (.opt c v) x) (hc:c=true):Rel St w g v x:=by cases h with|opt _ _ _ _ h h0=>exact h hc
end
/-! ### Integers -/
def inR :IntKind->Int->Prop
  | .i8,n=> -128<=n/\n<=127
  | .i16,n=> -32768<=n/\n<=32767
  | .i32,n=> -2147483648<=n/\n<=2147483647
  | .i64,n=> -9223372036854775808<=n/\n<=9223372036854775807
  | .u8,n=>0<=n/\n<=255
  | .u16,n=>0<=n/\n<=65535
  | .u32,n=>0<=n/\n<=4294967295
  | .u64,n=>0<=n/\n<=18446744073709551615
theorem gJ {k:IntKind} {n:Int} (h:inR k n):k.wrap n=n:=by
  cases k
  · exact IntWalk.i8_in n h
  · exact IntWalk.i16_in n h
  · exact IntWalk.i32_in n h
  · exact IntWalk.i64_in n h
  · exact IntWalk.u8_in n h
  · exact IntWalk.u16_in n h
  · exact IntWalk.u32_in n h
  · exact IntWalk.u64_in n h
def eB (op:BinOp) (k:IntKind) (x y:Int):Int:=
  match op with
  | .and=>k.wrap (BitVec.ofInt k.bits x&&&BitVec.ofInt k.bits y).toNat
  | .or=>k.wrap (BitVec.ofInt k.bits x|||BitVec.ofInt k.bits y).toNat
  | .xor=>k.wrap (BitVec.ofInt k.bits x^^^BitVec.ofInt k.bits y).toNat
  |_=>k.wrap (BitVec.ofInt k.bits x&&& ~~~BitVec.ofInt k.bits y).toNat
def intV (wm:Bool) (op:BinOp) (k:IntKind) (a b:Int):Option (V×Prop):=
  match op,wm with
  | .add,false=>some (.int k (a+b),inR k (a+b))
  | .sub,false=>some (.int k (a-b),inR k (a-b))
  | .mul,false=>some (.int k (a *b),inR k (a *b))
  | .quo,false=>some (.int k (a/b),0<=a/\1<=b/\inR k (a/b))
  | .rem,false=>some (.int k (a%b),0<=a/\1<=b)
  | .add,true=>some (.int k (k.wrap (a+b)),True)
  | .sub,true=>some (.int k (k.wrap (a-b)),True)
  | .mul,true=>some (.int k (k.wrap (a *b)),True)
  | .quo,true=>some (.int k (k.wrap (a.tdiv b)),b≠0)
  | .rem,true=>some (.int k (a.tmod b),b≠0)
  | .and,_=>some (.int k (eB .and k a b),True)
  | .or,_=>some (.int k (eB .or k a b),True)
  | .xor,_=>some (.int k (eB .xor k a b),True)
  | .andNot,_=>some (.int k (eB .andNot k a b),True)
  | .eql,_=>some (.bool (a==b),True)
  | .neq,_=>some (.bool (a !=b),True)
  | .lss,_=>some (.bool (decide (a<b)),True)
  | .leq,_=>some (.bool (decide (a<=b)),True)
  | .gtr,_=>some (.bool (decide (a>b)),True)
  | .geq,_=>some (.bool (decide (a>=b)),True)
  |_,_=>none
def aA4 (wm:Bool) (op:BinOp) (k:IntKind) (a b:Int):Option (V×Prop):=
  match op,wm with
  | .shl,false=>some (.int k (a *2^b.toNat),0<=b/\b.toNat<=k.bits/\inR k (a *2^b.toNat))
  | .shl,true=>some (.int k (k.wrap (a *2^(min b.toNat k.bits))),0<=b)
  | .shr,_=>some (.int k (a/2^b.toNat),0<=b/\b.toNat<=k.bits)
  |_,_=>none
def b16V (op:BinOp) (x y:BitVec 16):Option (V×Prop):=
  match op with
  | .add=>some (.b16 (x+y),True)
  | .sub=>some (.b16 (x-y),True)
  | .and=>some (.b16 (x&&&y),True)
  | .or=>some (.b16 (x|||y),True)
  | .xor=>some (.b16 (x^^^y),True)
  | .andNot=>some (.b16 (x&&& ~~~y),True)
  | .eql=>some (.bool (x==y),True)
  | .neq=>some (.bool (!(x==y)),True)
  | .lss=>some (.bool (decide (x.toNat<y.toNat)),True)
  | .leq=>some (.bool (decide (x.toNat<=y.toNat)),True)
  | .gtr=>some (.bool (decide (x.toNat>y.toNat)),True)
  | .geq=>some (.bool (decide (x.toNat>=y.toNat)),True)
  |_=>none
def strV (op:BinOp) (a b:aaA):Option (V×Prop):=
  match op with
  | .add=>some (.str (a++b),a.length+b.length<=9223372036854775807)
  | .eql=>some (.bool (a==b),True)
  | .neq=>some (.bool (!(a==b)),True)
  | .lss=>some (.bool (Op.bytesLess a b),True)
  | .leq=>some (.bool (Op.bytesLess a b||a==b),True)
  | .gtr=>some (.bool (!(Op.bytesLess a b||a==b)),True)
  | .geq=>some (.bool (!Op.bytesLess a b),True)
  |_=>none
def binV (wm:Bool) (op:BinOp):V->V->Option (V×Prop)
  | .int k a,.int k' b=>
    match op with
    | .shl=>aA4 wm .shl k a b
    | .shr=>aA4 wm .shr k a b
    |op=>if k=k' then intV wm op k a b else none
  | .b16 x,.b16 y=>b16V op x y
  | .b16 x,.int _ b=>
    match op with
    | .shl=>some (.b16 (x<<<b.toNat),0<=b)
    | .shr=>some (.b16 (x>>>b.toNat),0<=b)
    |_=>none
  | .str a,.str b=>strV op a b
  |_,_=>none
theorem wrap_u16 (n:Int):IntKind.u16.wrap n=((BitVec.ofInt 16 n).toNat:Int):=by
  simp only[IntKind.wrap,IntKind.bits,IntKind.signed];simp[aeP];omega
section
variable (P:Program) (w:World)
theorem run_intV {wm:Bool} {op:BinOp} {t:TypeId} {k:IntKind} {a b:Int} {v:V} {φ:Prop} (h:intV wm op k a b=some (v,φ)) (hφ:φ):
    ∃x,(binOp op t (.int k a) (.int k b)).run P w= .ok x w/\∀St g,Rel St w g v x:=by
  cases op<;>cases wm<;>simp only[intV,Option.some.injEq,Prod.mk.injEq,reduceCtorEq]at h<;>obtain⟨rfl,rfl⟩:=h<;>
    simp only[binOp,ne_eq,not_true_eq_false,if_false,Op.intArith,Op.intDiv,Op.intBits,Op.intCmp,afN,abO]
  case quo.false=>
    obtain⟨h0,h1,h2⟩:=hφ;rw[if_neg (by omega)];refine⟨_,rfl,fun _ _=> ?_⟩;rw[Int.tdiv_eq_ediv_of_nonneg h0,gJ h2];exact .int _ _ _
  case rem.false=>
    obtain⟨h0,h1⟩:=hφ;rw[if_neg (by omega)];refine⟨_,rfl,fun _ _=> ?_⟩;rw[Int.tmod_eq_emod_of_nonneg h0];exact .int _ _ _
  case quo.true=>rw[if_neg hφ];exact⟨_,rfl,fun _ _=> .int _ _ _⟩
  case rem.true=>rw[if_neg hφ];exact⟨_,rfl,fun _ _=> .int _ _ _⟩
  all_goals first
    |exact⟨_,rfl,fun _ _=> .int _ _ _⟩
    |exact⟨_,rfl,fun _ _=> .bool _ _⟩
    |exact⟨_,rfl,fun _ _=>by rw[gJ hφ];exact .int _ _ _⟩
theorem sU {wm:Bool} {op:BinOp} {t:TypeId} {k k':IntKind} {a b:Int} {v:V} {φ:Prop} (h:aA4 wm op k a b=some (v,φ)) (hφ:φ):
    ∃x,(binOp op t (.int k a) (.int k' b)).run P w= .ok x w/\∀St g,Rel St w g v x:=by
  cases op<;>cases wm<;>simp only[aA4,Option.some.injEq,Prod.mk.injEq,reduceCtorEq]at h<;>obtain⟨rfl,rfl⟩:=h<;>
    simp only[binOp,Op.shift,afN,abO]
  case shl.false=>
    obtain⟨h0,h1,h2⟩:=hφ;rw[if_neg (by omega),aeS h1,gJ h2];exact⟨_,rfl,fun _ _=> .int _ _ _⟩
  case shl.true=>rw[if_neg (by omega)];exact⟨_,rfl,fun _ _=> .int _ _ _⟩
  all_goals
    obtain⟨h0,h1⟩:=hφ;rw[if_neg (by omega),aeS h1];refine⟨_,rfl,fun _ _=> ?_⟩;rw[agJ _ (Int.le_of_lt (Int.pow_pos (by decide)))];exact .int _ _ _
theorem run_b16V {op:BinOp} {t:TypeId} {x y:BitVec 16} {v:V} {φ:Prop} (h:b16V op x y=some (v,φ)):
    ∃u,(binOp op t (.int .u16 (x.toNat:Int)) (.int .u16 (y.toNat:Int))).run P w= .ok u w/\∀St g,Rel St w g v u:=by
  have key:∀(n:Int) (z:BitVec 16),BitVec.ofInt 16 n=z->∀St g,Rel St w g (.b16 z) (.int .u16 (IntKind.u16.wrap n)):=by
    intro n z hz St g;rw[wrap_u16,hz];exact .b16 _ _
  have ofN:∀z:BitVec 16,BitVec.ofInt 16 (z.toNat:Int)=z:=fun z=>by
    apply adS;have:=z.isLt;simp
  cases op<;>simp only[b16V,Option.some.injEq,Prod.mk.injEq,reduceCtorEq]at h<;>obtain⟨rfl,rfl⟩:=h<;>
    simp only[binOp,ne_eq,not_true_eq_false,if_false,Op.intArith,Op.intBits,Op.intCmp,abO,IntKind.bits,ofN]
  case add=>
    refine⟨_,rfl,key _ _ ?_⟩;rw[BitVec.ofInt_add,ofN,ofN]
  case sub=>
    refine⟨_,rfl,key _ _ ?_⟩;apply adS;have:=x.isLt;have:=y.isLt;simp[aeP,BitVec.toNat_sub];omega
  all_goals first
    |exact⟨_,rfl,key _ _ (ofN _)⟩
    | (refine⟨_,rfl,fun _ _=> ?_⟩
       first
        | (have e:((x.toNat:Int)==(y.toNat:Int))=(x==y):=by
            rw[aeT,abZ,abZ];exact⟨fun h=>adS (by omega),fun h=>by rw[h]⟩
           simp only[bne,e];exact .bool _ _)
        |(simp only[Int.ofNat_lt,Int.ofNat_le,gt_iff_lt,ge_iff_le];exact .bool _ _))
theorem run_strV {op:BinOp} {t:TypeId} {s u:ByteArray} {v:V} {φ:Prop} (h:strV op s.data.toList u.data.toList=some (v,φ)) (hφ:φ):
    ∃x,(binOp op t (.string s) (.string u)).run P w= .ok x w/\∀St g,Rel St w g v x:=by
  cases op<;>simp only[strV,Option.some.injEq,Prod.mk.injEq,reduceCtorEq]at h<;>obtain⟨rfl,rfl⟩:=h<;>
    simp only[binOp,Op.stringOp,afN,abO,ByteArray.toList_eq]
  case add=>
    have e1:s.data.toList.length=s.size:=by simp
    have e2:u.data.toList.length=u.size:=by simp
    rw[if_neg (by rw[e1,e2]at hφ;simp[IntKind.max,IntKind.signed,IntKind.bits];omega)];exact⟨_,rfl,fun _ _=> .str _ _ _ (by simp)⟩
  all_goals exact⟨_,rfl,fun _ _=> .bool _ _⟩
end
end Go.Abs
