/- Part 4 of the proof: AbsD, AbsE, AbsF, AbsG. -/
import Derived.Test.YtfkhgbcggabkjaaGreatDoorMonrepZ03
import Derived.Laws.Slices
import Derived.Laws.StructEq
import Derived.Laws.BytesString
import Derived.Lib.MinMax
namespace Go.Abs
open Go
abbrev aeD:=@Nat.lt_of_lt_of_le
abbrev aeM:=@Int.toNat_of_nonneg
abbrev aeV:=@Nat.pow_le_pow_right
abbrev aeY:=@List.take_of_length_le
abbrev ahC:=@List.foldr_cons
/-! ### Slicing -/
def bnd :Option V->Option (Option Int)
 |none=>some none
 |some (.int _ n)=>some (some n)
 |_=>none
def iY (n:Nat) (lo hi mx:Option Int):Nat×Nat×Prop:=
 match lo,hi,mx with
 |none,none,none=>(0,n,True)
 |some a,none,none=>(a.toNat,n,0<=a/\a<=n)
 |none,some b,none=>(0,b.toNat,0<=b/\b<=n)
 |some a,some b,none=>(a.toNat,b.toNat,0<=a/\a<=b/\b<=n)
 |some a,some b,some c=>(a.toNat,b.toNat,0<=a/\a<=b/\b<=c/\c<=n)
 |none,some b,some c=>(0,b.toNat,0<=b/\b<=c/\c<=n)
 |_,none,some _=>(0,0,False)
theorem cT {P:Program} {w:World} {St:Nat->Prop} {g:Gh} {s:Bool} {n cap:Nat} (hcap:n<=cap) {lo hi mx:Option V} {l h m:Option Int}
  (hl:bnd lo=some l) (hh:bnd hi=some h) (hm:bnd mx=some m) {x y z:Option Value}
  (rx:∀v,lo=some v->∃u,x=some u/\Rel St w g v u) (ry:∀v,hi=some v->∃u,y=some u/\Rel St w g v u) (rz:∀v,mx=some v->∃u,z=some u/\Rel St w g v u)
  (nx:lo=none->x=none) (ny:hi=none->y=none) (nz:mx=none->z=none)
  (hφ:(iY n l h m).2.2):∃c,(Instr.sliceBounds s n cap x y z).run P w= .ok ((iY n l h m).1,(iY n l h m).2.1,c) w/\(iY n l h m).1<=(iY n l h m).2.1/\(iY n l h m).2.1<=n/\(iY n l h m).2.1<=c/\(mx=none->c=cap):=by
 have inv:∀{o:Option V} {i:Option Int} {u:Option Value},bnd o=some i->(∀v,o=some v->∃t,u=some t/\Rel St w g v t)->(o=none->u=none)->
   (i=none/\o=none/\u=none)\/∃k a,i=some a/\(∃k',o=some (.int k' a))/\u=some (.int k a):=by
  intro o i u ho hr hn
  cases o with
  |none=>simp[bnd]at ho;exact .inl ⟨ho.symm,rfl,hn rfl⟩
  |some v=>
   cases v<;>simp[bnd]at ho
   case int k a=>
    obtain⟨t,ht,hrel⟩:=hr _ rfl;have:=hrel.int_inv;subst this;exact .inr ⟨k,a,ho.symm,⟨k,rfl⟩,ht⟩
 rcases inv hl rx nx with⟨rfl,rfl,rfl⟩|⟨k1,a,rfl,⟨_,rfl⟩,rfl⟩<;>
 rcases inv hh ry ny with⟨rfl,rfl,rfl⟩|⟨k2,b,rfl,⟨_,rfl⟩,rfl⟩<;>
 rcases inv hm rz nz with⟨rfl,rfl,rfl⟩|⟨k3,c,rfl,⟨_,rfl⟩,rfl⟩<;>
 simp only[iY]at hφ⊢
 case inl.inl.inl=>exact⟨cap,by simp[Instr.sliceBounds],by omega,by omega,by omega,fun _=>rfl⟩
 case inr.inl.inl=>
  refine⟨cap, ?_,by omega,by omega,by omega,fun _=>rfl⟩;simp[Instr.sliceBounds,run_sliceBound _ _ _ _ _ hφ.1 hφ.2]
 case inl.inr.inl=>
  refine⟨cap, ?_,by omega,by omega,by omega,fun _=>rfl⟩;simp[Instr.sliceBounds,run_sliceBound _ _ _ _ _ hφ.1 (show b<=(cap:Int) by omega)]
 case inr.inr.inl=>
  refine⟨cap, ?_,by omega,by omega,by omega,fun _=>rfl⟩;have e:(b.toNat:Int)=b:=aeM (by omega);simp[Instr.sliceBounds,run_sliceBound _ _ _ _ _ (show 0<=b by omega) (show b<=(cap:Int) by omega),run_sliceBound _ _ _ _ _ hφ.1 (show a<=(b.toNat:Int) by omega)]
 case inl.inr.inr=>
  refine⟨c.toNat, ?_,by omega,by omega,by omega,by simp⟩;simp[Instr.sliceBounds,run_sliceBound _ _ _ _ _ (show 0<=c by omega) (show c<=(cap:Int) by omega),run_sliceBound _ _ _ _ _ hφ.1 (show b<=(c.toNat:Int) by omega)]
 case inr.inr.inr=>
  refine⟨c.toNat, ?_,by omega,by omega,by omega,by simp⟩;simp[Instr.sliceBounds,run_sliceBound _ _ _ _ _ (show 0<=c by omega) (show c<=(cap:Int) by omega),run_sliceBound _ _ _ _ _ (show 0<=b by omega) (show b<=(c.toNat:Int) by omega),run_sliceBound _ _ _ _ _ hφ.1 (show a<=(b.toNat:Int) by omega)]
def subStr (l:aaA) (lo hi:Option Int):aaA:=
 match lo,hi with
 |none,none=>l
 |some a,none=>l.drop a.toNat
 |none,some b=>l.take b.toNat
 |some a,some b=>(l.take b.toNat).drop a.toNat
def subF (f:Nat->Nat->V) (lo:Option Int):Nat->Nat->V:=
 match lo with
 |none=>f
 |some a=>fun i j=>f (i+a.toNat) j
def subN (n:Nat) (lo hi:Option Int):Nat:=
 match lo,hi with
 |none,none=>n
 |some a,none=>n-a.toNat
 |none,some b=>b.toNat
 |some a,some b=>b.toNat-a.toNat
def sliceV (P:Program) (t:TypeId) (x:V) (lo hi mx:Option V):Option (V×Prop):=
 match P.underlying t,x,bnd lo,bnd hi,bnd mx with
 |some .string,.str l,some a,some b,some none=>some (.str (subStr l a b),(iY l.length a b none).2.2)
 |some (.slice e),.arr sz n f,some a,some b,some c=>if sA P e=some sz then some (.arr sz (subN n a b) (subF f a),(iY n a b c).2.2)else none
 |some (.slice e),.nils,some a,some b,some c=>match sA P e with
  |some _=>some (.nils,(iY 0 a b c).2.2)
  |none=>none
 |_,_,_,_,_=>none
theorem aB9 {P:Program} {St:Nat->Prop} {w:World} {g:Gh} {t:TypeId} {p v:V} {lo hi mx:Option V} {φ:Prop} {u:Value} {x y z:Option Value}
  (hp:Rel St w g p u) (rx:∀v,lo=some v->∃u,x=some u/\Rel St w g v u) (ry:∀v,hi=some v->∃u,y=some u/\Rel St w g v u) (rz:∀v,mx=some v->∃u,z=some u/\Rel St w g v u)
  (nx:lo=none->x=none) (ny:hi=none->y=none) (nz:mx=none->z=none)
  (hv:sliceV P t p lo hi mx=some (v,φ)) (hφ:φ):∃r,(Instr.sliceAt t u x y z).run P w= .ok r w/\Rel St w g v r:=by
 unfold sliceV at hv;split at hv
 ·rename_i l a b hu hl hh hm;cases hv;obtain⟨s,rfl,rfl⟩:=hp.str_inv;have hsz:s.data.toList.length=s.size:=by simp
  rw[hsz]at hφ
  have hmx:mx=none:=by
   cases mx with
   |none=>rfl
   |some v=>cases v<;>simp[bnd]at hm
  subst hmx;obtain rfl:=nz rfl;obtain⟨c,hrun,h1,h2,h3,h4⟩:=cT (P:=P) (s:=false) (aaY s.size) hl hh hm rx ry rz nx ny nz hφ;refine⟨.string (s.extract (iY s.size a b none).1 (iY s.size a b none).2.1), ?_,.str _ _ _ ?_⟩
  ·rw[run_sliceAt_string _ _ _ _ _ _ hu];simp[Instr.slice,run_underlying hu,hrun]
  ·have key:∀i j,(s.extract i j).data.toList=(s.data.toList.take j).drop i:=by
    intro i j;rw[ByteArray.data_extract,Array.toList_extract,List.extract_eq_take_drop,List.drop_take]
   rw[key];have hlen:s.data.toList.take s.size=s.data.toList:=aeY (by simp);cases a<;>cases b<;>simp[iY,subStr,hlen]
 ·rename_i e sz n f a b c hu hl hh hm;split at hv
  case isFalse=>cases hv
  rename_i hs;cases hv;have he:P.elem t=e:=by simp[Program.elem,hu]
  have fin:∀(lo':Nat) (hi':Nat),(iY n a b c).1=lo'->(iY n a b c).2.1=hi'->subN n a b=hi'-lo'/\subF f a=(fun i j=>f (i+lo') j):=by
   intro lo' hi' h1 h2;subst h1;subst h2;cases a<;>cases b<;>cases c<;>simp[iY,subN,subF]<;>simp[iY]at hφ
  obtain⟨hN,hF⟩:=fin _ _ rfl rfl;rw[hN,hF]
  cases hp with
  |arr0=>
   obtain⟨m,hrun,h1,h2,h3,h4⟩:=cT (P:=P) (s:=true) (aaY 0) hl hh hm rx ry rz nx ny nz hφ;have e1:(iY 0 a b c).2.1=0:=by omega
   have e0:(iY 0 a b c).1=0:=by omega
   refine⟨.slice none 0 (m-0), ?_, ?_⟩
   ·rw[run_sliceAt_slice _ _ _ _ _ _ (by rw[he];exact hu)];simp[Instr.slice,run_underlying hu,hrun,cO hs,e0,e1]
   ·have hm0:m=0:=by
     rcases hmx:mx with _|v
     ·exact h4 hmx
     ·have:=rz v hmx;cases v<;>simp[hmx,bnd]at hm;rename_i k i;subst hm;obtain⟨u,hz,hu'⟩:=this;have:=hu'.int_inv;subst this;subst hz;have hc0:0<=i/\i<=0:=by cases a<;>cases b<;>simp[iY]at hφ<;>omega
      have hi0:i=0:=by omega
      subst hi0
      cases hy:y with
      |none=>simp[Instr.sliceBounds,hy,run_sliceBound]at hrun
      |some yv=>
       simp[Instr.sliceBounds,hy,run_sliceBound]at hrun
       cases h5:(Instr.sliceBound yv 0 .slice3B).run P w with
       |halt x1 x2=>simp[h5,Result.andThen]at hrun
       |ok x1 x2=>
        simp[h5]at hrun
        cases hx:x with
        |none=>simp[hx]at hrun;exact hrun.1.2.2.symm
        |some xv=>
         simp[hx]at hrun
         cases h6:(Instr.sliceBound xv x1 .slice3C).run P x2 with
         |halt x3 x4=>simp[h6,Result.andThen]at hrun
         |ok x3 x4=>simp[h6]at hrun;exact hrun.1.2.2.symm
    subst hm0;rw[e0,e1]
    exact .arr0 _ _ _
  |arrE _ _ _ aa=>
   obtain⟨m,hrun,h1,h2,h3,h4⟩:=cT (P:=P) (s:=true) (aaY 0) hl hh hm rx ry rz nx ny nz hφ;have e1:(iY 0 a b c).2.1=0:=by omega
   have e0:(iY 0 a b c).1=0:=by omega
   refine⟨.slice (some aa) 0 (m-0), ?_, ?_⟩
   ·rw[run_sliceAt_slice _ _ _ _ _ _ (by rw[he];exact hu)];simp[Instr.slice,run_underlying hu,hrun,cO hs,e0,e1];exact fun _=>rfl
   ·have hm0:m=0:=by
     rcases hmx:mx with _|v
     ·exact h4 hmx
     ·have:=rz v hmx;cases v<;>simp[hmx,bnd]at hm;rename_i k i;subst hm;obtain⟨u,hz,hu'⟩:=this;have:=hu'.int_inv;subst this;subst hz;have hc0:0<=i/\i<=0:=by cases a<;>cases b<;>simp[iY]at hφ<;>omega
      have hi0:i=0:=by omega
      subst hi0
      cases hy:y with
      |none=>simp[Instr.sliceBounds,hy,run_sliceBound]at hrun
      |some yv=>
       simp[Instr.sliceBounds,hy,run_sliceBound]at hrun
       cases h5:(Instr.sliceBound yv 0 .slice3B).run P w with
       |halt x1 x2=>simp[h5,Result.andThen]at hrun
       |ok x1 x2=>
        simp[h5]at hrun
        cases hx:x with
        |none=>simp[hx]at hrun;exact hrun.1.2.2.symm
        |some xv=>
         simp[hx]at hrun
         cases h6:(Instr.sliceBound xv x1 .slice3C).run P x2 with
         |halt x3 x4=>simp[h6,Result.andThen]at hrun
         |ok x3 x4=>simp[h6]at hrun;exact hrun.1.2.2.symm
    subst hm0;rw[e0,e1]
    exact .arrE _ _ _ _
  |arr _ _ _ _ bb o cap xx hcap hmax hS hc h1c hr=>
   obtain⟨m,hrun,h1,h2,h3,h4⟩:=cT (P:=P) (s:=true) hcap hl hh hm rx ry rz nx ny nz hφ;generalize(iY n a b c).1=lo' at *;generalize(iY n a b c).2.1=hi' at *;refine⟨.slice (if m=lo' then some ⟨bb,o,none⟩else some ⟨bb,o+lo' *sz,none⟩) (hi'-lo') (m-lo'), ?_, ?_⟩
   ·rw[run_sliceAt_slice _ _ _ _ _ _ (by rw[he];exact hu)];simp[Instr.slice,run_underlying hu,hrun,cO hs,add_plain]
   ·by_cases hml:m=lo'
    ·rw[if_pos hml];have hn0:hi'-lo'=0:=by omega
     rw[hn0];exact .arr _ sz 0 _ bb o _ (fun _ _=>undef) (by omega) (by omega) (by omega) (fun i j hi _=>by omega) (fun i j hi _=>by omega) (fun i j hi _=>by omega)
    ·rw[if_neg hml];refine .arr _ sz (hi'-lo') _ bb (o+lo' *sz) _ (fun i j=>xx (i+lo') j) (by omega) (by omega) (fun h0 hz=>hS (by omega) hz) (fun i j hi hj=> ?_) (fun i j hi hj=>h1c _ _ (by omega) hj) (fun i j hi hj=>hr _ _ (by omega) hj);have:=hc (i+lo') j (by omega) hj;rw[<-this];congr 2;rw[acA];omega
 ·rename_i e a b c hu hl hh hm;split at hv
  case h_2=>cases hv
  rename_i k hs;cases hv;have:=hp.nils_inv;subst this;have he:P.elem t=e:=by simp[Program.elem,hu]
  obtain⟨m,hrun,h1,h2,h3,h4⟩:=cT (P:=P) (s:=true) (aaY 0) hl hh hm rx ry rz nx ny nz hφ;have e1:(iY 0 a b c).2.1=0:=by omega
  have e0:(iY 0 a b c).1=0:=by omega
  have hm0:m=0:=by
   rcases hmx:mx with _|v
   ·exact h4 hmx
   ·have:=rz v hmx;cases v<;>simp[hmx,bnd]at hm;rename_i k i;subst hm;obtain⟨u,hz,hu'⟩:=this;have:=hu'.int_inv;subst this;subst hz;have hc0:0<=i/\i<=0:=by cases a<;>cases b<;>simp[iY]at hφ<;>omega
    have hi0:i=0:=by omega
    subst hi0
    cases hy:y with
    |none=>simp[Instr.sliceBounds,hy,run_sliceBound]at hrun
    |some yv=>
     simp[Instr.sliceBounds,hy,run_sliceBound]at hrun
     cases h5:(Instr.sliceBound yv 0 .slice3B).run P w with
     |halt x1 x2=>simp[h5,Result.andThen]at hrun
     |ok x1 x2=>
      simp[h5]at hrun
      cases hx:x with
      |none=>simp[hx]at hrun;exact hrun.1.2.2.symm
      |some xv=>
       simp[hx]at hrun
       cases h6:(Instr.sliceBound xv x1 .slice3C).run P x2 with
       |halt x3 x4=>simp[h6,Result.andThen]at hrun
       |ok x3 x4=>simp[h6]at hrun;exact hrun.1.2.2.symm
  subst hm0;refine⟨.slice none 0 0, ?_,.nils _⟩;rw[run_sliceAt_slice _ _ _ _ _ _ (by rw[he];exact hu)];simp[Instr.slice,run_underlying hu,hrun,cO hs,e0,e1]
 ·cases hv
/-! ### Equality -/
def eqV (P:Program):Nat->TypeId->V->V->Option Bool
 |0,_,_,_=>none
 |d+1,t,x,y=>
  match P.underlying t,x,y with
  |some .bool,.bool a,.bool b=>some (a==b)
  |some (.int _),.int k a,.int k' b=>if k=k' then some (a==b)else none
  |some (.int _),.b16 a,.b16 b=>some (a==b)
  |some .string,.str a,.str b=>some (a==b)
  |some (.struct fields),.agg xs,.agg ys=>
   if P.stoodInHeld t=false then
    fields.toList.foldr (fun f acc=>
     if f.name= "_" then acc else
     match aCl P f.type xs f.offset,aCl P f.type ys f.offset,acc with
     |some a,some b,some r=>match eqV P d f.type a b with
      |some q=>some (q&&r)
      |none=>none
     |_,_,_=>none) (some true)
   else none
  |_,_,_=>none
theorem b16_beq (x y:BitVec 16):((x.toNat:Int)==(y.toNat:Int))=(x==y):=by
 rw[aeT,abZ,abZ];exact⟨fun h=>adS (by omega),fun h=>by rw[h]⟩
theorem run_eqV {P:Program} {St:Nat->Prop} {w:World} {g:Gh}:∀(d:Nat) {t:TypeId} {x y:V} {r:Bool} {a b:Value},eqV P d t x y=some r->Rel St w g x a->Rel St w g y b->
  (Op.equalIn d t a b).run P w= .ok r w:=by
 intro d
 induction d with
 |zero=>intro t x y r a b h;simp[eqV]at h
 |succ d ih=>
  intro t x y r a b h ha hb;unfold eqV at h;split at h
  ·rename_i p q hu;have:=ha.bool_inv;subst this;have:=hb.bool_inv;subst this;cases h;exact run_equalIn_bool' w d t p q hu
  ·rename_i k0 k p k' q hu;split at h
   ·rename_i hk;subst hk;cases h;have:=ha.int_inv;subst this;have:=hb.int_inv;subst this;exact run_equalIn_int w d t k k0 p q hu
   ·cases h
  ·rename_i k0 p q hu;cases h;have:=ha.b16_inv;subst this;have:=hb.b16_inv;subst this;rw[<-b16_beq];exact run_equalIn_int w d t .u16 k0 _ _ hu
  ·rename_i p q hu;cases h;obtain⟨s,rfl,rfl⟩:=ha.str_inv;obtain⟨s',rfl,rfl⟩:=hb.str_inv;rw[run_equalIn_string w d t s s' hu,ByteArray.toList_eq,ByteArray.toList_eq]
  ·rename_i fields xs ys hu;split at h
   case isFalse=>cases h
   rename_i hst;obtain⟨vx,rfl,hlx,hrx⟩:=ha.agg_inv;obtain⟨vy,rfl,hly,hry⟩:=hb.agg_inv;have hfo:P.fieldsOf t=fields:=by simp[Program.fieldsOf,hu]
   rw[run_equalIn_struct w d t vx vy (by rw[hfo];exact hu) hst,hfo];generalize fields.toList=fs at h;clear hfo hu
   induction fs generalizing r with
   |nil=>simp at h;subst h;simp[Op.eqFields]
   |cons f fs ihf=>
    simp only[ahC]at h;simp only[Op.eqFields];by_cases hn:f.name= "_"
    ·rw[if_pos hn]at h;rw[if_neg (by simpa using hn)];exact ihf h
    ·rw[if_neg hn]at h;rw[if_pos (by simpa using hn)];split at h
     case h_2=>cases h
     rename_i pa pb pr e1 e2 e3;split at h
     case h_2=>cases h
     rename_i q e4;cases h;obtain⟨ya,hya,hra⟩:=jA e1 hlx hrx;obtain⟨yb,hyb,hrb⟩:=jA e2 hly hry;have hq:=ih e4 hra hrb;have hrest:=ihf e3;simp only[abI,hya,hyb,hq,aaP,afN,abO,hrest];cases q<;>simp
  ·cases h
def eqlV (P:Program) (op:BinOp) (t:TypeId) (x y:V):Option (V×Prop):=
 match op with
 | .eql=>if P.eqGuardType P.depth t=false then(eqV P 10000 t x y).map fun b=>(.bool b,True)else none
 | .neq=>if P.eqGuardType P.depth t=false then(eqV P 10000 t x y).map fun b=>(.bool (!b),True)else none
 |_=>none
def opV (P:Program) (wm:Bool) (op:BinOp) (t:TypeId):V->V->Option (V×Prop)
 | .agg xs,.agg ys=>eqlV P op t (.agg xs) (.agg ys)
 | .bool a,.bool b=>match P.underlying t with
  |some .bool=>match op with
   | .eql=>some (.bool (a==b),True)
   | .neq=>some (.bool (!(a==b)),True)
   |_=>none
  |_=>none
 | .arr _ n _,.nils=>match P.underlying t with
  |some (.slice _)=>match op with
   | .eql=>some (.abool (fun b=>b=true->n=0),True)
   | .neq=>some (.abool (fun b=>b=false->n=0),True)
   |_=>none
  |_=>none
 | .nils,.nils=>match P.underlying t with
  |some (.slice _)=>match op with
   | .eql=>some (.bool true,True)
   | .neq=>some (.bool false,True)
   |_=>none
  |_=>none
 |x,y=>binV wm op x y
theorem run_binV {P:Program} {St:Nat->Prop} {w:World} {g:Gh} {wm:Bool} {op:BinOp} {t:TypeId} {x y v:V} {φ:Prop} {a b:Value} (hx:Rel St w g x a) (hy:Rel St w g y b)
  (hv:binV wm op x y=some (v,φ)) (hφ:φ):∃r,(binOp op t a b).run P w= .ok r w/\(∀St g,Rel St w g v r)/\a≠ .nilIface/\(∀cs,a≠ .agg cs):=by
 unfold binV at hv;split at hv
 ·rename_i k a' k' b';have:=hx.int_inv;subst this;have:=hy.int_inv;subst this;split at hv
  ·obtain⟨r,h1,h2⟩:=sU P w (t:=t) (k':=k') hv hφ;exact⟨r,h1,h2,by simp,by simp⟩
  ·obtain⟨r,h1,h2⟩:=sU P w (t:=t) (k':=k') hv hφ;exact⟨r,h1,h2,by simp,by simp⟩
  ·split at hv
   ·rename_i hk;subst hk;obtain⟨r,h1,h2⟩:=run_intV P w (t:=t) hv hφ;exact⟨r,h1,h2,by simp,by simp⟩
   ·cases hv
 ·rename_i x' y';have:=hx.b16_inv;subst this;have:=hy.b16_inv;subst this;obtain⟨r,h1,h2⟩:=run_b16V P w (t:=t) hv;exact⟨r,h1,h2,by simp,by simp⟩
 ·rename_i x' k b';have:=hx.b16_inv;subst this;have:=hy.int_inv;subst this
  have key:∀(n:Int) (z:BitVec 16),BitVec.ofInt 16 n=z->∀St g,Rel St w g (.b16 z) (.int .u16 (IntKind.u16.wrap n)):=by
   intro n z hz St g;rw[wrap_u16,hz];exact .b16 _ _
  split at hv
  ·cases hv;refine⟨_,by simp[binOp,Op.shift,show ¬b'<0 by omega];rfl,key _ _ ?_,by simp,by simp⟩;apply adS;rw[aeP,BitVec.toNat_shiftLeft,Nat.shiftLeft_eq];have e:((x'.toNat:Int) *2^min b'.toNat IntKind.u16.bits)=((x'.toNat *2^min b'.toNat 16:Nat):Int):=by simp[IntKind.bits]
   rw[e]
   have e3:x'.toNat *2^b'.toNat%2^16=x'.toNat *2^min b'.toNat 16%2^16:=by
    by_cases h16:b'.toNat<=16
    ·rw[aeS h16]
    ·rw[Nat.min_eq_right (by omega)];have:∃c,b'.toNat=16+c:=⟨b'.toNat-16,by omega⟩;obtain⟨c,hc⟩:=this;rw[hc,Nat.pow_add,<-Nat.mul_assoc,Nat.mul_right_comm,Nat.mul_mod_left,Nat.mul_mod_left]
   rw[e3];generalize x'.toNat *2^min b'.toNat 16=n;simp;omega
  ·cases hv;refine⟨_,by simp[binOp,Op.shift,show ¬b'<0 by omega];rfl,fun St g=> ?_,by simp,by simp⟩
   have e:Int.fdiv (x'.toNat:Int) (2^min b'.toNat IntKind.u16.bits)=((x'>>>b'.toNat).toNat:Int):=by
    rw[agJ _ (Int.le_of_lt (Int.pow_pos (by decide)))];rw[BitVec.toNat_ushiftRight,Nat.shiftRight_eq_div_pow];have hx:=x'.isLt;by_cases h16:b'.toNat<=16
    ·rw[show min b'.toNat IntKind.u16.bits=b'.toNat from aeS h16];simp
    ·rw[show min b'.toNat IntKind.u16.bits=16 from Nat.min_eq_right (by simp[IntKind.bits];omega)];rw[Nat.div_eq_of_lt (aeD hx (aeV (by decide) (by omega)))];have:(x'.toNat:Int)/2^16=0:=Int.ediv_eq_zero_of_lt (by omega) (by simpa using(by omega:(x'.toNat:Int)<65536));rw[this];rfl
   rw[e];exact .b16 _ _
  ·cases hv
 ·rename_i a' b';obtain⟨s,rfl,rfl⟩:=hx.str_inv;obtain⟨s',rfl,rfl⟩:=hy.str_inv;obtain⟨r,h1,h2⟩:=run_strV P w (t:=t) hv hφ;exact⟨r,h1,h2,by simp,by simp⟩
 ·cases hv
theorem qF (P:Program) (w:World) (d:Nat) (t:TypeId) (p:Option Addr) (l c:Nat) {e:TypeId} (hb:P.underlying t=some (.slice e)):(Op.equalIn (d+1) t (.slice p l c) (.slice none 0 0)).run P w= .ok p.isNone w:=by
 cases p<;>simp[Op.equalIn,run_underlying hb]
theorem wL (P:Program) (w:World) (t:TypeId) (p:Option Addr) (l c:Nat) {e:TypeId} (hb:P.underlying t=some (.slice e)) (op:BinOp) (X Y:Operand) (ho:op= .eql\/op= .neq):
  ((eqGuard op t X Y (.slice p l c) (.slice none 0 0)).run P w).andThen (fun _ w=>(binOp op t (.slice p l c) (.slice none 0 0)).run P w)= .ok (.bool (if op= .eql then p.isNone else !p.isNone)) w:=by
 have h':(Op.equal t (.slice p l c) (.slice none 0 0)).run P w= .ok p.isNone w:=qF P w 9999 t p l c hb;rcases ho with rfl|rfl
 ·simp[eqGuard,binOp,h']
 ·simp[eqGuard,binOp,h']
theorem run_opV {P:Program} {St:Nat->Prop} {w:World} {g:Gh} {wm:Bool} {op:BinOp} {t:TypeId} {x y v:V} {φ:Prop} {a b:Value} {X Y:Operand} (hx:Rel St w g x a) (hy:Rel St w g y b)
  (hv:opV P wm op t x y=some (v,φ)) (hφ:φ):∃r,(do eqGuard op t X Y a b;binOp op t a b:Sem Value).run P w= .ok r w/\Rel St w g v r:=by
 unfold opV at hv;split at hv
 ·rename_i xs ys;obtain⟨vx,ex,hlx,hrx⟩:=hx.agg_inv;obtain⟨vy,ey,hly,hry⟩:=hy.agg_inv;subst ex;subst ey;cases op<;>simp only[eqlV,reduceCtorEq]at hv
  all_goals
   split at hv
   case isFalse=>cases hv
   rename_i hg;rw[aaQ]at hv;obtain⟨q,hq,he⟩:=hv;cases he;have h1:=run_eqV 10000 hq hx hy;refine⟨_, ?_,.bool _ _⟩;rw[abI,run_eqGuard_agg w _ t X Y vx vy hg];simp only[aaP,run_eql_struct,run_neq_struct,h1]
 ·rename_i p q;have:=hx.bool_inv;subst this;have:=hy.bool_inv;subst this;split at hv
  case h_2=>cases hv
  rename_i hb;cases op<;>simp only[reduceCtorEq]at hv
  all_goals
   cases hv;refine⟨_, ?_,.bool _ _⟩;simp[eqGuard,binOp,Op.equal,Op.maxDepth,run_equalIn_bool' w 9999 t p q hb]
 ·rename_i sz n f;split at hv
  case h_2=>cases hv
  rename_i e hb;have:=hy.nils_inv;subst this
  have hq:∃(p:Option Addr) (l c:Nat),a= .slice p l c/\(p.isNone=true->n=0):=by
   cases hx with
   |arr0=>exact⟨none,0,0,rfl,fun _=>rfl⟩
   |arrE=>exact⟨_,_,_,rfl,fun h=>by cases h⟩
   |arr=>exact⟨_,_,_,rfl,fun h=>by cases h⟩
  obtain⟨p,l,c,rfl,hp⟩:=hq;cases op<;>simp only[reduceCtorEq]at hv
  all_goals
   cases hv;refine⟨_,by rw[abI];exact wL P w t p l c hb _ _ _ (by simp),.abool _ _ _ ?_⟩;cases p<;>simp_all
 ·split at hv
  case h_2=>cases hv
  rename_i e hb;have:=hy.nils_inv;subst this;have:=hx.nils_inv;subst this;cases op<;>simp only[reduceCtorEq]at hv
  all_goals
   cases hv;exact⟨_,by rw[abI];exact wL P w t none 0 0 hb _ _ _ (by simp),.bool _ _⟩
 ·obtain⟨r,h1,h2,h4,h5⟩:=run_binV (P:=P) (t:=t) hx hy hv hφ;refine⟨r, ?_,h2 _ _⟩;rw[abI]
  have:(eqGuard op t X Y a b).run P w= .ok () w:=by
   unfold eqGuard;cases a<;>first|(exact absurd rfl h4)|(exact absurd rfl (h5 _))|(cases op<;>rfl)
  rw[this];exact h1
end Go.Abs
namespace Go.Abs
open Go
abbrev aaX:=@List.all_eq_true
abbrev abK:=@List.getD_cons_zero
abbrev acF:=@List.foldl_cons
abbrev acX:=@Array.getElem?_setIfInBounds_ne
abbrev agK:=@List.mapM_cons
abbrev agP:=@Array.mapM_eq_mapM_toList
/-! ### Constants -/
def aB4 :Value->V
 | .bool b=> .bool b
 | .int .u16 n=>if 0<=n/\n<65536 then .b16 (BitVec.ofInt 16 n)else .lit (.int .u16 n)
 | .int k n=> .int k n
 | .string s=> .str s.data.toList
 | .slice none 0 0=> .nils
 |v=> .lit v
def vcon :Value->V
 | .agg cs=> .agg (cs.toList.map aB4)
 |v=>aB4 v
theorem wR {St:Nat->Prop} {w:World} {g:Gh} (v:Value):Rel St w g (aB4 v) v:=by
 unfold aB4;split
 ·exact .bool _ _
 ·split
  ·rename_i n hn;have e:n=((BitVec.ofInt 16 n).toNat:Int):=by simp[aeP];omega
   have:=Rel.b16 (St:=St) (w:=w) g (BitVec.ofInt 16 n);rwa [<-e]at this
  ·exact .lit _ _
 ·exact .int _ _ _
 ·exact .str _ _ _ rfl
 ·exact .nils _
 ·exact .lit _ _
theorem pM {St:Nat->Prop} {w:World} {g:Gh} (v:Value):Rel St w g (vcon v) v:=by
 unfold vcon;split
 ·rename_i cs;refine .agg _ _ _ (by simp) fun i hi=> ?_;have hi':i<cs.size:=by simpa using hi
  have e1:(cs.toList.map aB4).getD i .any=aB4 cs[i]:=by simp[aaC,hi']
  have e2:cs.getD i undef=cs[i]:=by simp[hi']
  rw[e1,e2];exact wR _
 ·exact wR _
/-! ### Structs and arrays out of parts -/
def setCells (cs:List V) (off:Nat):List V->List V
 |[]=>cs
 |v::l=>setCells (cs.set off v) (off+1) l
def V.cells :V->List V
 | .agg cs=>cs
 |v=>[v]
def aAp (place:Nat->Option (Nat×Nat)) (cells:List V):List (Nat×V)->Option (List V)
 |[]=>some cells
 |(i,v)::rest=>match place i with
  |none=>none
  |some (off,size)=>if v.cells.length=size/\off+size<=cells.length then aAp place (setCells cells off v.cells) rest else none
theorem cS :∀(l:List V) (cs:List V) (off:Nat),(setCells cs off l).length=cs.length
 |[],_,_=>rfl
 |v::l,cs,off=>by simp[setCells,cS l]
def V.isVal :V->Bool
 | .any=>false
 | .tup _=>false
 | .opt _ _=>false
 | .lit (.agg _)=>false
 | .lit (.tuple _)=>false
 |_=>true
theorem Rel.cells {St:Nat->Prop} {w:World} {g:Gh} {v:V} {x:Value} (h:Rel St w g v x) (hv:v.isVal=true):
  x.cells.size=v.cells.length/\∀i,i<v.cells.length->Rel St w g (v.cells.getD i .any) (x.cells.getD i undef):=by
 have one:∀{v:V} {x:Value},Rel St w g v x->v.cells=[v]->x.cells= #[x]->
   x.cells.size=v.cells.length/\∀i,i<v.cells.length->Rel St w g (v.cells.getD i .any) (x.cells.getD i undef):=by
  intro v x h h1 h2;rw[h1,h2];refine⟨rfl,fun i hi=> ?_⟩;obtain rfl:i=0:=by simpa using hi
  simpa using h
 cases h with
 |any=>simp[V.isVal]at hv
 |tup=>simp[V.isVal]at hv
 |opt=>simp[V.isVal]at hv
 |agg _ cs vs hl h=>exact⟨hl,h⟩
 |lit x=>cases x<;>first|(simp[V.isVal]at hv;done)|exact one (.lit _ _) rfl rfl
 |bool=>exact one (.bool _ _) rfl rfl
 |int=>exact one (.int _ _ _) rfl rfl
 |b16=>exact one (.b16 _ _) rfl rfl
 |str _ l s h=>exact one (.str _ _ _ h) rfl rfl
 |nils=>exact one (.nils _) rfl rfl
 |arr0=>exact one (.arr0 _ _ _) rfl rfl
 |arrE=>exact one (.arrE _ _ _ _) rfl rfl
 |arr _ sz n f b o cap x hcap hmax hs hc h1 hr=>exact one (.arr _ sz n f b o cap x hcap hmax hs hc h1 hr) rfl rfl
 |elem _ sz n f i off b o x hi hs hc h1 hr=>exact one (.elem _ sz n f i off b o x hi hs hc h1 hr) rfl rfl
 |own _ r v h h1=>exact one (.own _ r _ h h1) rfl (by cases x<;>first|rfl|(simp[Value.oneCell']at h1;done))
 |ptr _ r off b h=>exact one (.ptr _ r off b h) rfl rfl
 |oelem _ r sz i off b n cap h=>exact one (.oelem _ r sz i off b n cap h) rfl rfl
 |osl _ r sz i off b n cap h=>exact one (.osl _ r sz i off b n cap h) rfl rfl
 |fn _ f cs vs hl h=>exact one (.fn _ f cs vs hl h) rfl rfl
 |abool _ p b h=>exact one (.abool _ p b h) rfl rfl
 |mp _ n kf vf b es hs ho hn hb hk hv2=>exact one (.mp _ n kf vf b es hs ho hn hb hk hv2) rfl rfl
 |tab _ k l b t fr hs ho=>exact one (.tab _ k l b t fr hs ho) rfl rfl
 |ifc _ b x h=>exact one (.ifc _ b x h) rfl (by cases b<;>simp only[ifcOk]at h<;>first|(obtain⟨_,_,rfl⟩:=h;rfl)|(subst h;rfl))
 |opq _ x h=>exact one (.opq _ x h) rfl (by cases x<;>first|rfl|(simp[Value.oneCell']at h;done))
theorem Rel.one {St:Nat->Prop} {w:World} {g:Gh} {v:V} {x:Value} (h:Rel St w g v x) (hv:v.isVal=true) (ha:∀cs,v≠ .agg cs):x.oneCell'=true:=by
 cases h with
 |any=>simp[V.isVal]at hv
 |tup=>simp[V.isVal]at hv
 |opt=>simp[V.isVal]at hv
 |agg _ cs vs hl h=>exact absurd rfl (ha cs)
 |lit x=>cases x<;>first|rfl|(simp[V.isVal]at hv;done)
 |own _ r v h h1=>exact h1
 |ifc _ b _ h=>cases b<;>simp only[ifcOk]at h<;>first|(obtain⟨_,_,rfl⟩:=h;rfl)|(subst h;rfl)
 |opq _ _ h=>exact h
 |_=>rfl
theorem rel_set {St:Nat->Prop} {w:World} {g:Gh} {cs:List V} {vs:Array Value} {o:Nat} {v:V} {u:Value} (hs:vs.size=cs.length) (hv:Rel St w g v u)
  (hr:∀i,i<cs.length->Rel St w g (cs.getD i .any) (vs.getD i undef)):∀i,i<cs.length->Rel St w g ((cs.set o v).getD i .any) ((vs.setIfInBounds o u).getD i undef):=by
 intro i hi;by_cases h:o=i
 ·subst h;have h2:o<vs.size:=by omega
  simpa[aaC,hi,h2]using hv
 ·have:=hr i hi;simpa[aaC,h,acX h]using this
theorem xM {St:Nat->Prop} {w:World} {g:Gh} (off:Nat):∀(l:List V) (us:List Value) (cs:List V) (vs:Array Value) (k:Nat),us.length=l.length->vs.size=cs.length->
  (∀i,i<l.length->Rel St w g (l.getD i .any) (us.getD i undef))->(∀i,i<cs.length->Rel St w g (cs.getD i .any) (vs.getD i undef))->
  ((us.zipIdx k).foldl (fun cs (p:Value×Nat)=>cs.setIfInBounds (off+p.2) p.1) vs).size=cs.length/\
   ∀i,i<cs.length->Rel St w g ((setCells cs (off+k) l).getD i .any) (((us.zipIdx k).foldl (fun cs (p:Value×Nat)=>cs.setIfInBounds (off+p.2) p.1) vs).getD i undef)
 |[],[],cs,vs,k,_,hs,_,hr=>⟨by simpa using hs,fun i hi=>by simpa[setCells]using hr i hi⟩
 |[],_::_,_,_,_,h,_,_,_=>by simp at h
 |_::_,[],_,_,_,h,_,_,_=>by simp at h
 |v::l,u::us,cs,vs,k,hl,hs,hv,hr=>by
  simp only[List.zipIdx_cons,acF,setCells]
  have ih:=xM off l us (cs.set (off+k) v) (vs.setIfInBounds (off+k) u) (k+1) (by simpa using hl) (by simpa using hs)
   (fun i hi=>by simpa using hv (i+1) (by simp;omega))
   (fun i hi=>rel_set hs (by simpa using hv 0 (by simp)) hr i (by simpa using hi))
  simp only[List.length_set]at ih
  exact ih
theorem mD {St:Nat->Prop} {w:World} {g:Gh} {place:Nat->Option (Nat×Nat)}:∀{parts:List (Nat×V)} {us:List (Nat×Value)} {cs cs':List V} {vs:Array Value},
  aAp place cs parts=some cs'->us.length=parts.length->(∀i,i<parts.length->(us.getD i (0,undef)).1=(parts.getD i (0,.any)).1/\Rel St w g (parts.getD i (0,.any)).2 (us.getD i (0,undef)).2/\(parts.getD i (0,.any)).2.isVal=true)->
  vs.size=cs.length->(∀i,i<cs.length->Rel St w g (cs.getD i .any) (vs.getD i undef))->
  ∃vs',Instr.fill place vs us=some vs'/\vs'.size=cs'.length/\cs'.length=cs.length/\∀i,i<cs'.length->Rel St w g (cs'.getD i .any) (vs'.getD i undef)
 |[],[],cs,cs',vs,h,_,_,hs,hr=>by
  simp only[aAp,Option.some.injEq]at h;subst h
  exact⟨vs,rfl,hs,rfl,hr⟩
 |[],_::_,_,_,_,_,h,_,_,_=>by simp at h
 |_::_,[],_,_,_,_,h,_,_,_=>by simp at h
 |(i,v)::parts,(i',u)::us,cs,cs',vs,h,hl,hp,hs,hr=>by
  have h0:=hp 0 (by simp)
  simp only[abK]at h0
  obtain⟨rfl,hrel,hval⟩:=h0
  simp only[aAp]at h
  split at h
  case h_1=>cases h
  rename_i off size hpl
  split at h
  case isFalse=>cases h
  rename_i hc
  obtain⟨hcl,hcr⟩:=hrel.cells hval
  have hst:=xM off v.cells u.cells.toList cs vs 0 (by simpa using hcl) hs (fun i hi=>by simpa[aaC]using hcr i hi) hr
  have ih:=mD (place:=place) (us:=us) h (by simpa using hl) (fun i hi=>by simpa using hp (i+1) (by simp;omega)) (by rw[cS];exact hst.1) (fun i hi=>hst.2 i (by rwa [cS]at hi))
  obtain⟨vs',h1,h2,h3,h4⟩:=ih
  refine⟨vs', ?_,h2,by rw[h3,cS],h4⟩
  simp only[Instr.fill,hpl]
  rw[if_neg (by simp;omega)]
  rw[<-h1]
  congr 1
  rw[<-Array.foldl_toList]
  simp
def zeroV (P:Program) (t:TypeId):Option V:=
 match P.info? t with
 |some i=>match i.zero with
  |some z=>some (vcon z)
  |none=>none
 |none=>none
theorem fN {P:Program} {St:Nat->Prop} {w:World} {g:Gh} {t:TypeId} {v:V} (h:zeroV P t=some v):∃z,(zeroValue t).run P w= .ok z w/\v=vcon z/\Rel St w g v z:=by
 unfold zeroV at h;split at h
 case h_2=>cases h
 rename_i i hi;split at h
 case h_2=>cases h
 rename_i z hz;cases h;exact⟨z,by simp[zeroValue,typeInfo,hi,hz],rfl,pM z⟩
def buildV (P:Program) (t:TypeId) (parts:List (Nat×V)):Option V:=
 match zeroV P t,P.underlying t with
 |some (.agg z),some (.struct fields)=>
  match(fields.toList.mapM fun f=>(sA P f.type).map fun k=>(f.offset,k))with
  |some places=>if parts.all (fun p=>p.2.isVal)then(aAp (places[·]?) z parts).map .agg else none
  |none=>none
 |some (.agg z),some (.array _ e)=>
  match sA P e with
  |some k=>if parts.all (fun p=>p.2.isVal)then(aAp (fun i=>some (i *k,k)) z parts).map .agg else none
  |none=>none
 |_,_=>none
theorem jB {P:Program} {w:World}:∀{fs:List Field} {places:List (Nat×Nat)},fs.mapM (fun f=>(sA P f.type).map fun k=>(f.offset,k))=some places->
  (fs.mapM (fun f=>do pure (f.offset,<-sizeOf f.type):Field->Sem (Nat×Nat))).run P w= .ok places w
 |[],places,h=>by simp at h;subst h;rfl
 |f::fs,places,h=>by
  simp only[agK,Option.bind_eq_bind,Option.bind_eq_some_iff,aaQ,Option.pure_def,Option.some.injEq]at h
  obtain⟨p,⟨k,hk,rfl⟩,ps,hps,rfl⟩:=h
  simp only[agK,abI,cO hk,aaP,abO,jB hps]
theorem aCe {P:Program} {St:Nat->Prop} {w:World} {g:Gh} {t:TypeId} {parts:List (Nat×V)} {v:V} (h:buildV P t parts=some v) {us:Array (Nat×Value)} (hl:us.size=parts.length)
  (hp:∀i,i<parts.length->(us.getD i (0,undef)).1=(parts.getD i (0,.any)).1/\Rel St w g (parts.getD i (0,.any)).2 (us.getD i (0,undef)).2):
  ∃x,(Instr.build t us).run P w= .ok x w/\Rel St w g v x:=by
 have hval:parts.all (fun p=>p.2.isVal)=true->∀i,i<parts.length->(parts.getD i (0,.any)).2.isVal=true:=by
  intro ha i hi;have:=aaX.1 ha (parts[i]) (by simp);simpa[aaC,hi]using this
 unfold buildV at h;split at h
 ·rename_i z fields hz hu;obtain⟨zv,hzr,hze,hzrel⟩:=fN (P:=P) (St:=St) (w:=w) (g:=g) hz;obtain⟨zs,rfl,hzl,hzc⟩:=hzrel.agg_inv;split at h
  case h_2=>cases h
  rename_i places hpl;split at h
  case isFalse=>cases h
  rename_i ha;rw[aaQ]at h;obtain⟨cs',hf,rfl⟩:=h;obtain⟨vs',h1,h2,h3,h4⟩:=mD (us:=us.toList) hf (by simpa using hl) (fun i hi=>⟨by simpa[aaC]using(hp i hi).1,by simpa[aaC]using(hp i hi).2,hval ha i hi⟩) hzl hzc;refine⟨.agg vs', ?_,.agg _ _ _ h2 h4⟩;have hm:=jB (w:=w) hpl
  have hm':(fields.mapM (fun f=>do pure (f.offset,<-sizeOf f.type):Field->Sem (Nat×Nat))).run P w= .ok places.toArray w:=by
   rw[agP,Sem.run_map,hm];rfl
  simp only[Instr.build,abI,hzr,aaP,run_underlying hu,Value.cells,hm',List.getElem?_toArray,h1,abO]
 ·rename_i z n e hz hu;obtain⟨zv,hzr,hze,hzrel⟩:=fN (P:=P) (St:=St) (w:=w) (g:=g) hz;obtain⟨zs,rfl,hzl,hzc⟩:=hzrel.agg_inv;split at h
  case h_2=>cases h
  rename_i k hk;split at h
  case isFalse=>cases h
  rename_i ha;rw[aaQ]at h;obtain⟨cs',hf,rfl⟩:=h;obtain⟨vs',h1,h2,h3,h4⟩:=mD (us:=us.toList) hf (by simpa using hl) (fun i hi=>⟨by simpa[aaC]using(hp i hi).1,by simpa[aaC]using(hp i hi).2,hval ha i hi⟩) hzl hzc;refine⟨.agg vs', ?_,.agg _ _ _ h2 h4⟩;simp only[Instr.build,abI,hzr,aaP,run_underlying hu,Value.cells,cO hk,h1,abO]
 ·cases h
end Go.Abs
namespace Go.Abs
open Go
abbrev adC:=@Array.toArray_toList
abbrev afB:=@List.nil_append
abbrev afK:=@List.map_congr_left
abbrev agZ:=@List.map_map
def unV (wm:Bool):UnOp->V->Option (V×Prop)
 | .not,.bool b=>some (.bool (!b),True)
 | .neg,.int k n=>if wm then some (.int k (k.wrap (0-n)),True)else some (.int k (0-n),inR k (0-n))
 | .xor,.b16 x=>some (.b16 (~~~x),True)
 | .neg,.b16 x=>some (.b16 (-x),True)
 |_,_=>none
theorem run_unV {P:Program} {St:Nat->Prop} {w:World} {g:Gh} {wm:Bool} {op:UnOp} {v r:V} {φ:Prop} {x:Value} (hx:Rel St w g v x) (h:unV wm op v=some (r,φ)) (hφ:φ):
  ∃y,(Op.unary op x).run P w= .ok y w/\Rel St w g r y:=by
 unfold unV at h;split at h
 ·cases h;have:=hx.bool_inv;subst this;exact⟨_,rfl,.bool _ _⟩
 ·have:=hx.int_inv;subst this;split at h
  ·cases h;exact⟨_,rfl,.int _ _ _⟩
  ·cases h;refine⟨_,rfl, ?_⟩;rw[gJ hφ];exact .int _ _ _
 ·rename_i y;cases h;have:=hx.b16_inv;subst this;refine⟨_,rfl, ?_⟩
  have e:IntKind.u16.wrap ((BitVec.ofInt 16 65535^^^BitVec.ofInt 16 (y.toNat:Int)).toNat:Int)=((~~~y).toNat:Int):=by
   rw[wrap_u16];congr 2
   have ofN:∀z:BitVec 16,BitVec.ofInt 16 (z.toNat:Int)=z:=fun z=>by
    apply adS;have:=z.isLt;simp
   rw[ofN,ofN];have:BitVec.ofInt 16 65535=BitVec.allOnes 16:=by decide
   rw[this,BitVec.allOnes_xor]
  have e2:(if IntKind.u16.signed then(-1:Int)else IntKind.u16.max)=65535:=by decide
  show Rel St w g _ (.int .u16 (IntKind.u16.wrap ((BitVec.ofInt 16 (if IntKind.u16.signed then(-1:Int)else IntKind.u16.max)^^^BitVec.ofInt 16 (y.toNat:Int)).toNat:Int)));rw[e2,e];exact .b16 _ _
 ·rename_i y;cases h;have:=hx.b16_inv;subst this;refine⟨_,rfl, ?_⟩
  have e:IntKind.u16.wrap (0-(y.toNat:Int))=((-y).toNat:Int):=by
   rw[wrap_u16];congr 2;apply adS;have:=y.isLt;simp[aeP];omega
  show Rel St w g _ (.int .u16 (IntKind.u16.wrap (0-(y.toNat:Int))));rw[e];exact .b16 _ _
 ·cases h
/-! ### Conversions -/
def byteOf :V->UInt8
 | .int .u8 n=>UInt8.ofNat n.toNat
 |_=>0
def isByte :V->Prop
 | .int .u8 _=>True
 |_=>False
def convV (P:Program) (h:aJ) (wm:Bool) (src dst:TypeId) (x:V):Option (V×Prop):=
 match P.underlying dst,x with
 |some (.int .u16),.int _ n=>match P.underlying src with
  |some (.int _)=>some (.b16 (BitVec.ofInt 16 n),True)
  |_=>none
 |some (.int .u16),.b16 y=>match P.underlying src with
  |some (.int _)=>some (.b16 y,True)
  |_=>none
 |some (.int k),.int _ n=>match P.underlying src with
  |some (.int _)=>if wm then some (.int k (k.wrap n),True)else some (.int k n,inR k n)
  |_=>none
 |some (.int k),.b16 y=>match P.underlying src with
  |some (.int _)=>some (.int k (y.toNat:Int),inR k (y.toNat:Int))
  |_=>none
 |some .string,.str l=>match P.underlying src with
  |some .string=>some (.str l,True)
  |_=>none
 |some .string,.arr sz n f=>match P.underlying src with
  |some (.slice e)=>match P.underlying e with
   |some (.int .u8)=>if sz=1 then some (.str ((List.range n).map fun i=>byteOf (f i 0)),∀i,i<n->isByte (f i 0))else none
   |_=>none
  |_=>none
 |some .string,.own r=>match P.underlying src with
  |some (.slice e)=>match P.underlying e with
   |some (.int .u8)=>match h.get r with
    |some (.rows _ sz n f)=>if sz=1 then some (.str ((List.range n).map fun i=>byteOf (f i 0)),∀i,i<n->isByte (f i 0))else none
    |_=>none
   |_=>none
  |_=>none
 |_,_=>none
theorem gW :∀(ns:List Int) (s:ByteArray),(ns.foldl (fun r n=>r.push (UInt8.ofNat n.toNat)) s).data.toList=s.data.toList++ns.map fun n=>UInt8.ofNat n.toNat
 |[],s=>by simp
 |n::ns,s=>by
  rw[acF,gW ns]
  simp
theorem wO {P:Program} {St:Nat->Prop} {w:World} {n:Nat} {f:Nat->Nat->V} {b o cap:Nat} {x:Nat->Value}
  (hc:∀i,i<n->w.cell? ⟨b,o+i,none⟩=some (x i)) (hr:∀i,i<n->Rel St w dS (f i 0) (x i)) (hφ:∀i,i<n->isByte (f i 0)) (g:Gh):
  ∃y,(Conv.bytesToString (.slice (some ⟨b,o,none⟩) n cap)).run P w= .ok y w/\Rel St w g (.str ((List.range n).map fun i=>byteOf (f i 0))) y:=by
 have hx:∀i,i<n->∃m,f i 0= .int .u8 m/\x i= .int .u8 m:=by
  intro i hi;have h1:=hφ i hi;have h2:=hr i hi
  cases hf:f i 0 with
  |int k m=>
   rw[hf]at h1 h2;cases k<;>simp only[isByte]at h1
   exact⟨m,rfl,h2.int_inv⟩
  |_=>rw[hf]at h1;simp[isByte]at h1
 have hm:∃ms:Nat->Int,∀i,i<n->f i 0= .int .u8 (ms i)/\x i= .int .u8 (ms i):=by
  refine⟨fun i=>match f i 0 with| .int _ m=>m|_=>0,fun i hi=> ?_⟩;obtain⟨m,h1,h2⟩:=hx i hi;simp only[h1];exact⟨trivial,h2⟩
 obtain⟨ms,hms⟩:=hm
 have hl := run_loadCells_list (P := P) w ⟨b, o, none⟩ (((List.range n).map ms).map (Value.int .u8)) (fun j v hv=>by
  have hj:j<n:=by have:=(adD.1 hv).1;simpa using this
  rw[add_plain,hc j hj,(hms j hj).2];simpa[hj]using hv)
 rw[show(((List.range n).map ms).map (Value.int .u8)).length=n by simp]at hl;refine⟨_,run_bytesToString w ⟨b,o,none⟩ n cap ((List.range n).map ms) hl,.str _ _ _ ?_⟩;rw[gW];rw[show ByteArray.empty.data.toList=[]from rfl,afB,agZ];refine afK fun i hi=> ?_;have hi':i<n:=by simpa using hi
 simp[byteOf,(hms i hi').1]
theorem run_convV {P:Program} {St:Nat->Prop} {w:World} {g:Gh} {h:aJ} (hb:BOk St w g h) {wm:Bool} {src dst:TypeId} {x v:V} {φ:Prop} {a:Value} (hx:Rel St w g x a)
  (hv:convV P h wm src dst x=some (v,φ)) (hφ:φ):∃y,(convert src dst a).run P w= .ok y w/\Rel St w g v y:=by
 unfold convV at hv;split at hv
 ·rename_i k n hd;split at hv
  case h_2=>cases hv
  rename_i k' hs;cases hv;have:=hx.int_inv;subst this;refine⟨.int .u16 (IntKind.u16.wrap n),by simp[convert,run_underlying hs,run_underlying hd,Conv.intToInt], ?_⟩;rw[wrap_u16];exact .b16 _ _
 ·rename_i y hd;split at hv
  case h_2=>cases hv
  rename_i k' hs;cases hv;have:=hx.b16_inv;subst this;refine⟨.int .u16 (IntKind.u16.wrap (y.toNat:Int)),by simp[convert,run_underlying hs,run_underlying hd,Conv.intToInt], ?_⟩;rw[gJ (by have:=y.isLt;exact⟨by omega,by omega⟩)];exact .b16 _ _
 ·rename_i k k2 n _ hd;split at hv
  case h_2=>cases hv
  rename_i k' hs;have:=hx.int_inv;subst this;have hrun:(convert src dst (.int k2 n)).run P w= .ok (.int k (k.wrap n)) w:=by simp[convert,run_underlying hs,run_underlying hd,Conv.intToInt]
  split at hv
  ·cases hv;exact⟨_,hrun,.int _ _ _⟩
  ·cases hv;refine⟨_,hrun, ?_⟩;rw[gJ hφ];exact .int _ _ _
 ·rename_i k y _ hd;split at hv
  case h_2=>cases hv
  rename_i k' hs;cases hv;have:=hx.b16_inv;subst this;refine⟨.int k (k.wrap (y.toNat:Int)),by simp[convert,run_underlying hs,run_underlying hd,Conv.intToInt], ?_⟩;rw[gJ hφ];exact .int _ _ _
 ·rename_i l hd;split at hv
  case h_2=>cases hv
  rename_i hs;cases hv;obtain⟨s,rfl,rfl⟩:=hx.str_inv;exact⟨.string s,by simp[convert,run_underlying hs,run_underlying hd],.str _ _ _ rfl⟩
 ·rename_i sz n f hd;split at hv
  case h_2=>cases hv
  rename_i e hs;split at hv
  case h_2=>cases hv
  rename_i he;split at hv
  case isFalse=>cases hv
  rename_i hsz;subst hsz;cases hv
  cases hx with
  |arr0=>
   refine⟨.string .empty, ?_,.str _ _ _ rfl⟩
   rw[run_convert_bytes_string w src dst e _ _ _ hs he hd];rfl
  |arrE=>
   refine⟨.string .empty, ?_,.str _ _ _ rfl⟩
   rw[run_convert_bytes_string w src dst e _ _ _ hs he hd];rfl
  |arr _ _ _ _ b o cap xx hcap hmax hS hc h1 hr=>
   rw[run_convert_bytes_string w src dst e _ _ _ hs he hd];exact wO (x:=fun i=>xx i 0) (fun i hi=>by simpa using hc i 0 hi (by omega)) (fun i hi=>hr i 0 hi (by omega)) hφ g
 ·rename_i r hd;split at hv
  case h_2=>cases hv
  rename_i e hs;split at hv
  case h_2=>cases hv
  rename_i he;split at hv
  case h_2=>cases hv
  rename_i e' sz n f hh;split at hv
  case isFalse=>cases hv
  rename_i hsz;subst hsz;cases hv;obtain⟨u,hgu,xs,ho,hr,h1c⟩:=hb r _ hh;have hxr:=hx.own_inv;rw[hxr]at hgu;cases hgu;rcases ho.2 with⟨rfl,hn⟩|⟨b,cap,cur,hu,_,hg,hncap,hcapm,hsz,htake⟩
  ·subst hn;refine⟨.string .empty, ?_,.str _ _ _ rfl⟩;rw[run_convert_bytes_string w src dst e _ _ _ hs he hd];rfl
  ·subst hu;rw[run_convert_bytes_string w src dst e _ _ _ hs he hd];exact wO (o:=0) (x:=fun i=>xs.getD i undef) (fun i hi=>by simpa using fE ho rfl i (by omega)) (fun i hi=>by simpa using hr i 0 hi (by omega)) hφ g
 ·cases hv
/-! ### Built-ins that only read -/
def lenV (h:aJ):TypeDesc->V->Option V
 | .string,.str l=>some (.int .i64 (l.length:Int))
 | .slice _,.arr _ n _=>some (.int .i64 (n:Int))
 | .slice _,.nils=>some (.int .i64 0)
 | .slice _,.own r=>match h.get r with
  |some (.rows _ _ n _)=>some (.int .i64 (n:Int))
  |_=>none
 | .slice _,.osl _ _ _ n=>some (.int .i64 (n:Int))
 |_,_=>none
def vS (P:Program) (h:aJ) (b:Builtin) (ts:Array TypeId) (args:List V):Option V:=
 match b,ts.toList,args with
 | .len,[t],[x]=>match P.underlying t with
  |some d=>lenV h d x
  |none=>none
 | .cap,[t],[.nils]=>match P.underlying t with
  |some (.slice _)=>some (.int .i64 0)
  |_=>none
 | .min,_,[.int k a,.int _ c]=>some (.int k (min a c))
 | .max,_,[.int k a,.int _ c]=>some (.int k (max a c))
 |_,_,_=>none
theorem wP {P:Program} {St:Nat->Prop} {w:World} {g:Gh} {h:aJ} (hb:BOk St w g h) {b:Builtin} {ts:Array TypeId} {args:List V} {v:V} {us:Array Value} (hl:us.size=args.length)
  (hr:∀i,i<args.length->Rel St w g (args.getD i .any) (us.getD i undef)) (hv:vS P h b ts args=some v) (ty:TypeId) (cs:Array Bool):
  ∃y,(builtin b ts ty cs us).run P w= .ok (.value y) w/\Rel St w g v y:=by
 unfold vS at hv;split at hv
 ·rename_i b ts' args' t x hts;split at hv
  case h_2=>cases hv
  rename_i d hd
  have hu:us= #[us.getD 0 undef]:=by
   apply Array.ext
   ·simpa using hl
   ·intro i h1 h2;obtain rfl:i=0:=by simpa using h2
    simp[h1]
  have hts2:ts= #[t]:=by rw[<-adC (xs:=ts),hts]
  have h0:=hr 0 (by simp);simp only[abK]at h0;rw[hu,hts2];generalize us.getD 0 undef=u at h0;simp only[builtin,abI];unfold lenV at hv;split at hv
  ·cases hv;obtain⟨s,rfl,rfl⟩:=h0.str_inv;exact⟨_,by simp[Builtin.len_,run_underlying hd];rfl,by simp only[goInt];exact .int _ _ _⟩
  ·cases hv
   cases h0 with
   |arr0=>exact⟨_,by simp[Builtin.len_,run_underlying hd];rfl,.int _ _ _⟩
   |arrE=>exact⟨_,by simp[Builtin.len_,run_underlying hd];rfl,.int _ _ _⟩
   |arr _ _ _ _ b o cap xx hcap hmax hS hc h1 hr=>exact⟨_,by simp[Builtin.len_,run_underlying hd];rfl,.int _ _ _⟩
  ·cases hv;have:=h0.nils_inv;subst this;exact⟨_,by simp[Builtin.len_,run_underlying hd];rfl,.int _ _ _⟩
  ·split at hv
   case h_2=>cases hv
   rename_i e sz n f hh;cases hv;obtain⟨u',hgu,xs,ho,hr',h1c⟩:=hb _ _ hh;have hxr:=h0.own_inv;rw[hxr]at hgu;cases hgu;rcases ho.2 with⟨rfl,hn⟩|⟨b,cap,cur,hu',_,hg,hncap,hcapm,hsz,htake⟩
   ·subst hn;exact⟨_,by simp[Builtin.len_,run_underlying hd];rfl,.int _ _ _⟩
   ·subst hu';exact⟨_,by simp[Builtin.len_,run_underlying hd];rfl,.int _ _ _⟩
  ·cases hv
   cases h0 with
   |osl _ _ _ _ _ b n cap h=>exact⟨_,by simp[Builtin.len_,run_underlying hd];rfl,.int _ _ _⟩
  ·cases hv
 ·rename_i ts' args' t hts;split at hv
  case h_2=>cases hv
  rename_i e hd;cases hv
  have hu:us= #[us.getD 0 undef]:=by
   apply Array.ext
   ·simpa using hl
   ·intro i h1 h2;obtain rfl:i=0:=by simpa using h2
    simp[h1]
  have hts2:ts= #[t]:=by rw[<-adC (xs:=ts),hts]
  have h0:=(hr 0 (by simp)).nils_inv;rw[hu,hts2,h0];exact⟨_,by simp[builtin,Builtin.cap_,run_underlying hd];rfl,.int _ _ _⟩
 all_goals try (cases hv;done)
 all_goals
  rename_i k a k' c;cases hv
  have hu:us= #[us.getD 0 undef,us.getD 1 undef]:=by
   apply Array.ext
   ·simpa using hl
   ·intro i h1 h2;have:i=0\/i=1:=by simp at h2;omega
    rcases this with rfl|rfl<;>simp[h1]
  have h0:=(hr 0 (by simp)).int_inv;have h1:=(hr 1 (by simp)).int_inv;rw[hu,h0,h1];refine⟨_, ?_,.int _ _ _⟩;simp only[builtin,abI,Go.Lib.run_max_ints,Go.Lib.run_min_ints,aaP,abO]
end Go.Abs
namespace Go.Abs
open Go
abbrev abC:=@List.mem_cons
abbrev afC:=@Array.getElem_mem
def raw (t:List (Nat×V)):Operand->V
 | .tmp d=>if d<G0 then dD t d else .any
 | .const v=>vcon v
 | .global g=>dD t (G0+g)
 | .func f=> .fn (.func f) []
def strip :V->V
 | .opt _ v=>v
 |v=>v
def ev (t:List (Nat×V)) (x:Operand):V:=strip (raw t x)
def obl (c:Bool) (t:List (Nat×V)):List Operand->Prop
 |[]=>True
 |x::l=>match raw t x with
  | .opt c' _=>(c=true->c'=true)/\obl c t l
  |_=>obl c t l
theorem jC {St:Nat->Prop} {w:World} {g:Gh} {N:Nat} {t:List (Nat×V)} {a:Act} (h:eL St w g N t a) (x:Operand):Rel St w g (raw t x) (a.eval x):=by
 cases x with
 |tmp d=>
  show Rel St w g (if d<G0 then dD t d else .any) _;split
  ·rename_i hd;exact h.tmp hd
  ·exact .any _ _
 |const v=>exact pM v
 |global g=>exact h.glob g
 |func f=>exact .fn _ _ [] #[] rfl (fun i hi=>by simp at hi)
theorem rel_strip {St:Nat->Prop} {w:World} {g:Gh} {v:V} {x:Value} (h:Rel St w g v x) (hc:∀c' v',v= .opt c' v'->c'=true):Rel St w g (strip v) x:=by
 cases h with
 |opt _ c v x h h0=>exact h (hc c v rfl)
 |any=>exact .any _ _
 |bool=>exact .bool _ _
 |int=>exact .int _ _ _
 |b16=>exact .b16 _ _
 |str _ l s h=>exact .str _ _ _ h
 |agg _ cs vs hl h=>exact .agg _ _ _ hl h
 |tup _ cs vs hl h=>exact .tup _ _ _ hl h
 |nils=>exact .nils _
 |arr0=>exact .arr0 _ _ _
 |arrE=>exact .arrE _ _ _ _
 |arr _ sz n f b o cap x hcap hmax hs hcc h1 hr=>exact .arr _ sz n f b o cap x hcap hmax hs hcc h1 hr
 |elem _ sz n f i off b o x hi hs hcc h1 hr=>exact .elem _ sz n f i off b o x hi hs hcc h1 hr
 |own _ r v h h1=>exact .own _ r _ h h1
 |ptr _ r off b h=>exact .ptr _ r off b h
 |oelem _ r sz i off b n cap h=>exact .oelem _ r sz i off b n cap h
 |osl _ r sz i off b n cap h=>exact .osl _ r sz i off b n cap h
 |fn _ f cs vs hl h=>exact .fn _ f cs vs hl h
 |lit=>exact .lit _ _
 |abool _ p b h=>exact .abool _ p b h
 |mp _ n kf vf b es hs ho hn hb hk hv=>exact .mp _ n kf vf b es hs ho hn hb hk hv
 |tab _ k l b t fr hs ho=>exact .tab _ k l b t fr hs ho
 |ifc _ b x h=>exact .ifc _ b x h
 |opq _ x h=>exact .opq _ x h
theorem obl_mem {c:Bool} {t:List (Nat×V)}:∀{l:List Operand},obl c t l->c=true->∀x∈l,∀c' v',raw t x= .opt c' v'->c'=true
 |[],_,_,_,hx,_,_,_=>by simp at hx
 |y::l,h,hc,x,hx,c',v',he=>by
  simp only[obl]at h
  rcases abC.1 hx with rfl|hx
  ·rw[he]at h;exact h.1 hc
  ·refine obl_mem (l:=l) ?_ hc x hx c' v' he
   split at h
   ·exact h.2
   ·exact h
theorem wS {St:Nat->Prop} {w:World} {g:Gh} {N:Nat} {t:List (Nat×V)} {a:Act} (h:eL St w g N t a) {c:Bool} (hc:c=true) {l:List Operand} (ho:obl c t l):
  ∀x∈l,Rel St w g (ev t x) (a.eval x):=fun x hx=>rel_strip (jC h x) (obl_mem ho hc x hx)
def bZ :Op->List Operand
 | .pick c _ _=>[c]
 | .makeFunc _ _ captured=>captured.toList
 |op=>op.operands.toList
def unb :V->V
 | .b16 x=> .int .u16 (x.toNat:Int)
 |v=>v
theorem Rel.unb {St:Nat->Prop} {w:World} {g:Gh} {v:V} {x:Value} (h:Rel St w g v x):Rel St w g (unb v) x:=by
 cases v<;>first|exact h|(have:=h.b16_inv;subst this;exact .int _ _ _)
def loO :Option Int->Nat
 |none=>0
 |some a=>a.toNat
def sliceO (P:Program) (h:aJ) (t:TypeId) (r:Nat) (lo hi mx:Option V):Option (V×Prop):=
 match P.underlying t,h.get r,bnd lo,bnd hi,bnd mx with
 |some (.slice e),some (.rows _ sz n _),some a,some b,some none=>if sA P e=some sz then some (.osl r sz (loO a) (subN n a b),(iY n a b none).2.2)else none
 |_,_,_,_,_=>none
theorem aCa {P:Program} {St:Nat->Prop} {w:World} {g:Gh} {h:aJ} (hb:BOk St w g h) {t:TypeId} {r:Nat} {v:V} {lo hi mx:Option V} {φ:Prop} {u:Value} {x y z:Option Value}
  (hp:Rel St w g (.own r) u) (rx:∀v,lo=some v->∃u,x=some u/\Rel St w g v u) (ry:∀v,hi=some v->∃u,y=some u/\Rel St w g v u) (rz:∀v,mx=some v->∃u,z=some u/\Rel St w g v u)
  (nx:lo=none->x=none) (ny:hi=none->y=none) (nz:mx=none->z=none)
  (hv:sliceO P h t r lo hi mx=some (v,φ)) (hφ:φ):∃r,(Instr.sliceAt t u x y z).run P w= .ok r w/\Rel St w g v r:=by
 unfold sliceO at hv;split at hv
 case h_2=>cases hv
 rename_i e e' sz n f a b hu hh hl hhi hm;split at hv
 case isFalse=>cases hv
 rename_i hs;cases hv;have he:P.elem t=e:=by simp[Program.elem,hu]
 have hmx:mx=none:=by
  cases mx with
  |none=>rfl
  |some v=>cases v<;>simp[bnd]at hm
 subst hmx
 have fin:∀(lo':Nat) (hi':Nat),(iY n a b none).1=lo'->(iY n a b none).2.1=hi'->subN n a b=hi'-lo'/\loO a=lo':=by
  intro lo' hi' h1 h2;subst h1;subst h2;cases a<;>cases b<;>simp[iY,subN,loO]
 obtain⟨hN,hF⟩:=fin _ _ rfl rfl;rw[hN,hF];obtain⟨u',hgu,xs,ho,hr',h1c⟩:=hb _ _ hh;have hx:=hp.own_inv;rw[hx]at hgu;cases hgu;rcases ho.2 with⟨rfl,hn⟩|⟨bb,cap,cur,rfl,_,hg,hncap,hcapm,hsz,htake⟩
 ·subst hn;obtain⟨m,hrun,h1,h2,h3,h4⟩:=cT (P:=P) (s:=true) (aaY 0) hl hhi hm rx ry rz nx ny nz hφ;have e1:(iY 0 a b none).2.1=0:=by omega
  have e0:(iY 0 a b none).1=0:=by omega
  have hm0:=h4 rfl;subst hm0;refine⟨.slice none 0 (0-0), ?_, ?_⟩
  ·rw[run_sliceAt_slice _ _ _ _ _ _ (by rw[he];exact hu)];simp[Instr.slice,run_underlying hu,hrun,cO hs,e0,e1]
  ·rw[e0,e1];exact .osl _ r sz 0 0 none 0 0 ⟨hx,aaY _,fun _=>rfl⟩
 ·obtain⟨m,hrun,h1,h2,h3,h4⟩:=cT (P:=P) (s:=true) hncap hl hhi hm rx ry rz nx ny nz hφ;have hm0:=h4 rfl;subst hm0;generalize(iY n a b none).1=lo' at *;generalize(iY n a b none).2.1=hi' at *;refine⟨.slice (if m=lo' then some ⟨bb,0,none⟩else some ⟨bb,0+lo' *sz,none⟩) (hi'-lo') (m-lo'), ?_, ?_⟩
  ·rw[run_sliceAt_slice _ _ _ _ _ _ (by rw[he];exact hu)];simp[Instr.slice,run_underlying hu,hrun,cO hs,add_plain]
  ·have:=Rel.osl (St:=St) (w:=w) g r sz lo' (hi'-lo') (some bb) n m ⟨hx,by omega,fun h=>by cases h⟩;simp only[Option.map]at this;by_cases hml:m=lo'
   ·rw[if_pos hml];rwa [if_pos hml]at this
   ·rw[if_neg hml,abW];rwa [if_neg hml]at this
def pval (P:Program) (h:aJ) (wm c:Bool) (t:List (Nat×V)):Op->Option (V×Prop)
 | .move x=>some (ev t x,True)
 | .assign x=>some (ev t x,True)
 | .pick cc a b=>match ev t cc with
  | .bool cb=>match a,b with
   |a,.const (.bool false)=>match raw t a with
    | .bool x=>some (.bool (cb&&x),True)
    | .opt ca (.bool x)=>some (.bool (cb&&x),c=true->cb=true->ca=true)
    |_=>none
   | .const (.bool true),b=>match raw t b with
    | .bool x=>some (.bool (cb||x),True)
    | .opt ca (.bool x)=>some (.bool (cb||x),c=true->cb=false->ca=true)
    |_=>none
   |_,_=>none
  |_=>none
 | .load ty a=>aCs P h ty (ev t a)
 | .nilCheck x=>match ev t x with
  | .ptr r o=>some (.ptr r o,True)
  | .elem sz n f i off=>some (.elem sz n f i off,True)
  | .oelem r sz i off=>some (.oelem r sz i off,True)
  | .fn (.func f) cs=>some (.fn (.func f) cs,True)
  |_=>none
 | .binOp op ty x y _=>opV P wm op ty (ev t x) (ev t y)
 | .unOp op _ x=>unV wm op (ev t x)
 | .convert s d x=>convV P h wm s d (ev t x)
 | .makeFunc fn first captured=>if first.size=0 then some (.fn fn (captured.toList.map (ev t)),True)else none
 | .slice ty x lo hi mx=>match ev t x with
  | .own r=>sliceO P h ty r (lo.map (ev t)) (hi.map (ev t)) (mx.map (ev t))
  |x=>sliceV P ty x (lo.map (ev t)) (hi.map (ev t)) (mx.map (ev t))
 | .fieldAddr s x f=>(nH P s f (ev t x)).map fun v=>(v,True)
 | .field s x f=>(fieldV P s f (ev t x)).map fun v=>(v,True)
 | .indexAddr ty x i=>nE P h ty (ev t x) (unb (ev t i))
 | .index ty x i=>indexV P ty (ev t x) (unb (ev t i))
 | .extract x i=>match ev t x with
  | .tup vs=>if i<vs.length then some (vs.getD i .any,True)else none
  |_=>none
 | .build ty parts=>(buildV P ty (parts.toList.map fun p=>(p.1,ev t p.2))).map fun v=>(v,True)
 | .call cl=>match cl.callee with
  | .builtin b=>(vS P h b cl.argTypes (cl.args.toList.map (ev t))).map fun v=>(v,True)
  |_=>none
 |_=>none
theorem getD_map {α β:Type} (f:α->β) (l:List α) (i:Nat) (d:β) (e:α) (hi:i<l.length):(l.map f).getD i d=f (l.getD i e):=by
 simp[aaC,hi]
theorem pK {P:Program} {St:Nat->Prop} {w:World} {g:Gh} {h:aJ} (hb:BOk St w g h) {N:Nat} {t:List (Nat×V)} {a:Act} (ht:eL St w g N t a) {wm c:Bool} (hc:c=true)
  {o:Oper} {v:V} {φ:Prop} (hv:pval P h wm c t o.op=some (v,φ)) (hφ:φ) (ho:obl c t (bZ o.op)):
  ∃x,(execOp a.eval o).run P w= .ok (.value x) w/\Rel St w g v x:=by
 have E:=wS ht hc ho;obtain⟨dst,op,ty0,pos,after,guard⟩:=o;dsimp only at hv ho E
 have lift:∀{s:Sem Value},(∃x,s.run P w= .ok x w/\Rel St w g v x)->∃x,(do pure (.value (<-s)):Sem Next).run P w= .ok (.value x) w/\Rel St w g v x:=by
  rintro s ⟨x,h1,h2⟩;exact⟨x,by simp[h1],h2⟩
 cases op<;>simp only[pval,reduceCtorEq]at hv<;>simp only[execOp]
 case move x=>cases hv;exact⟨_,rfl,E x (by simp[bZ,Op.operands])⟩
 case assign x=>cases hv;exact⟨_,rfl,E x (by simp[bZ,Op.operands])⟩
 case pick cc x y=>
  split at hv
  case h_2=>cases hv
  rename_i cb hcb;have h1:=E cc (by simp[bZ]);rw[hcb]at h1;have h2:=h1.bool_inv;simp only[abI,h2,asBool,abO,aaP];split at hv
  ·have hf:∀{z:Bool} {u:Value},(cb=true->Rel St w g (.bool z) u)->∃x,Result.ok (Next.value (if cb=true then u else a.eval (.const (.bool false)))) w= .ok (Next.value x) w/\Rel St w g (.bool (cb&&z)) x:=by
    intro z u hz
    cases cb with
    |false=>exact⟨.bool false,rfl,.bool _ _⟩
    |true=>exact⟨_,rfl,by simpa using hz rfl⟩
   split at hv
   ·rename_i z hz;cases hv;exact hf fun _=>by rw[<-hz];exact jC ht x
   ·rename_i ca z hz;cases hv;exact hf fun hcb=>by have:=jC ht x;rw[hz]at this;exact this.opt_inv (hφ hc hcb)
   ·cases hv
  ·have hf:∀{z:Bool} {u:Value},(cb=false->Rel St w g (.bool z) u)->∃x,Result.ok (Next.value (if cb=true then a.eval (.const (.bool true))else u)) w= .ok (Next.value x) w/\Rel St w g (.bool (cb||z)) x:=by
    intro z u hz
    cases cb with
    |true=>exact⟨.bool true,rfl,by simpa using Rel.bool _ _⟩
    |false=>exact⟨_,rfl,by simpa using hz rfl⟩
   split at hv
   ·rename_i z hz;cases hv;exact hf fun _=>by rw[<-hz];exact jC ht y
   ·rename_i ca z hz;cases hv;exact hf fun hcb=>by have:=jC ht y;rw[hz]at this;exact this.opt_inv (hφ hc hcb)
   ·cases hv
  ·cases hv
 case load ty x=>exact lift (wM hb (E x (by simp[bZ,Op.operands])) hv hφ)
 case nilCheck x=>
  have h1:=E x (by simp[bZ,Op.operands]);generalize a.eval x=u at h1;split at hv
  ·rename_i r off he;cases hv;rw[he]at h1;cases h1 with|ptr _ _ _ b hg=>exact⟨_,rfl,.ptr _ _ _ b hg⟩
  ·rename_i sz n f i off he;cases hv;rw[he]at h1;cases h1 with|elem _ _ _ _ _ _ b o x hi hs hc h1 hr=>exact⟨_,rfl,.elem _ sz n f i off b o x hi hs hc h1 hr⟩
  ·rename_i r sz i off he;cases hv;rw[he]at h1;cases h1 with|oelem _ _ _ _ _ b n cap h=>exact⟨_,rfl,.oelem _ r sz i off b n cap h⟩
  ·rename_i f cs he;cases hv;rw[he]at h1;cases h1 with|fn _ _ _ vs hl h=>exact⟨_,rfl,.fn _ _ cs vs hl h⟩
  ·cases hv
 case binOp op ty x y yt=>exact lift (run_opV (E x (by simp[bZ,Op.operands])) (E y (by simp[bZ,Op.operands])) hv hφ)
 case unOp op ty x=>exact lift (run_unV (E x (by simp[bZ,Op.operands])) hv hφ)
 case convert s d x=>exact lift (run_convV hb (E x (by simp[bZ,Op.operands])) hv hφ)
 case makeFunc fn first captured=>
  split at hv
  case isFalse=>cases hv
  rename_i hf;cases hv;obtain rfl:first= #[]:=Array.eq_empty_of_size_eq_zero hf;refine lift ⟨.func fn #[] (captured.map a.eval),by simp[Instr.makeFunc],.fn _ _ _ _ (by simp) fun i hi=> ?_⟩;have hi':i<captured.size:=by simpa using hi
  have:=E captured[i] (by simp[bZ]);rw[getD_map _ _ _ _ (.const default) (by simpa using hi')];simpa[aaC,hi']using this
 case slice ty x lo hi mx=>
  have hx:=E x (by simp[bZ,Op.operands])
  have hlo:∀v,lo.map (ev t)=some v->∃u,lo.map a.eval=some u/\Rel St w g v u:=by
   rintro v hv';cases lo with
   |none=>cases hv'
   |some l=>cases hv';exact⟨_,rfl,E l (by simp[bZ,Op.operands])⟩
  have hhi:∀v,hi.map (ev t)=some v->∃u,hi.map a.eval=some u/\Rel St w g v u:=by
   rintro v hv';cases hi with
   |none=>cases hv'
   |some l=>cases hv';exact⟨_,rfl,E l (by simp[bZ,Op.operands])⟩
  have hmx:∀v,mx.map (ev t)=some v->∃u,mx.map a.eval=some u/\Rel St w g v u:=by
   rintro v hv';cases mx with
   |none=>cases hv'
   |some l=>cases hv';exact⟨_,rfl,E l (by simp[bZ,Op.operands])⟩
  split at hv
  ·rename_i r he;rw[he]at hx;refine lift (aCa hb hx hlo hhi hmx ?_ ?_ ?_ hv hφ)
   ·intro e;cases lo<;>simp_all
   ·intro e;cases hi<;>simp_all
   ·intro e;cases mx<;>simp_all
  refine lift (aB9 hx ?_ ?_ ?_ ?_ ?_ ?_ hv hφ)
  ·rintro v hv';cases lo with
   |none=>cases hv'
   |some l=>cases hv';exact⟨_,rfl,E l (by simp[bZ,Op.operands])⟩
  ·rintro v hv';cases hi with
   |none=>cases hv'
   |some l=>cases hv';exact⟨_,rfl,E l (by simp[bZ,Op.operands])⟩
  ·rintro v hv';cases mx with
   |none=>cases hv'
   |some l=>cases hv';exact⟨_,rfl,E l (by simp[bZ,Op.operands])⟩
  ·intro e;cases lo<;>simp_all
  ·intro e;cases hi<;>simp_all
  ·intro e;cases mx<;>simp_all
 case fieldAddr s x f=>
  rw[aaQ]at hv;obtain⟨v',hv',he⟩:=hv;cases he;exact lift (sF (E x (by simp[bZ,Op.operands])) hv')
 case field s x f=>
  rw[aaQ]at hv;obtain⟨v',hv',he⟩:=hv;cases he;exact lift (aCc (E x (by simp[bZ,Op.operands])) hv')
 case indexAddr ty x i=>exact lift (sE hb (E x (by simp[bZ,Op.operands])) (E i (by simp[bZ,Op.operands])).unb hv hφ)
 case index ty x i=>exact lift (aCb (E x (by simp[bZ,Op.operands])) (E i (by simp[bZ,Op.operands])).unb hv hφ)
 case extract x i=>
  split at hv
  case h_2=>cases hv
  rename_i vs he;split at hv
  case isFalse=>cases hv
  rename_i hi;cases hv;have h1:=E x (by simp[bZ,Op.operands]);rw[he]at h1;obtain⟨us,hu,hl,hr⟩:=h1.tup_inv;refine lift ⟨us.getD i undef, ?_,hr i hi⟩;have:i<us.size:=by omega
  simp[Instr.extract,hu,this]
 case build ty parts=>
  rw[aaQ]at hv;obtain⟨v',hv',he⟩:=hv;cases he;refine lift (aCe hv' (by simp) fun i hi=> ?_);have hi':i<parts.size:=by simpa using hi
  have h2:(parts.toList.map fun p=>(p.1,ev t p.2)).getD i (0,.any)=(parts[i].1,ev t parts[i].2):=by simp[aaC,hi']
  have h3:(parts.map fun p=>(p.1,a.eval p.2)).getD i (0,undef)=(parts[i].1,a.eval parts[i].2):=by simp[hi']
  rw[h2];have h4:=E parts[i].2 (by simp only[bZ,Op.operands];simp;exact⟨_,afC hi'⟩);constructor
  ·have:=congrArg Prod.fst h3;simpa using this
  ·have:=congrArg Prod.snd h3;simp only at this⊢;rw[show(parts.map fun(x:Nat×Operand)=>match x with|(i,x)=>(i,a.eval x))=(parts.map fun p=>(p.1,a.eval p.2))from rfl,this]
   exact h4
 case call cl=>
  split at hv
  case h_2=>cases hv
  rename_i b hcal;rw[aaQ]at hv;obtain⟨v',hv',he⟩:=hv;cases he
  have hargs:∀i,i<(cl.args.toList.map (ev t)).length->Rel St w g ((cl.args.toList.map (ev t)).getD i .any) ((cl.args.map a.eval).getD i undef):=by
   intro i hi;have hi':i<cl.args.size:=by simpa using hi
   have:=E cl.args[i] (by simp[bZ,Op.operands,Call.operands,hcal]);rw[getD_map _ _ _ _ (.const default) (by simpa using hi')];simpa[aaC,hi']using this
  obtain⟨y,hy,hr⟩:=wP (P:=P) hb (us:=cl.args.map a.eval) (by simp) hargs hv' ty0 (cl.args.map fun| .const _=>true|_=>false);exact⟨y,by simp only[resolve,hcal,abI,abO,aaP,invoke];exact hy,hr⟩
end Go.Abs
