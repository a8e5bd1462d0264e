/- Part 21 of the proof: Put54, AtoiW, IdxW. -/
import Derived.Test.YtfkhgbcggabkjaaGreatDoorMonrepZ20
import Derived.WalkKit
import Derived.LoopN
import Derived.Lib.Walk
import Derived.Shelf.Strconv.AtoiAll
import Derived.Lib.Bytealg
namespace Go.Abs
open Go Go.Proofs Go.RowKit Go.Lib
set_option maxHeartbeats 4000000
abbrev agC:=@List.map_append
abbrev agI:=@Nat.pow_succ
abbrev agU:=@List.take_add_one
def dU (n:Nat):aaA:=if h:n<128 then[UInt8.ofNat n]else UInt8.ofNat (n%128+128)::dU (n/128)
termination_by n
decreasing_by omega
theorem fL {n:Nat} (h:n<128):dU n=[UInt8.ofNat n]:=by rw[dU,dif_pos h]
theorem mX {n:Nat} (h:¬n<128):dU n=UInt8.ofNat (n%128+128)::dU (n/128):=by rw[dU,dif_neg h]
theorem dX :∀(k n:Nat),n<128^(k+1)->(dU n).length<=k+1
 |k,n,h=>by
  by_cases hn:n<128
  ·rw[fL hn];simp
  ·rw[mX hn]
   match k,h with
   |0,h=>simp at h;omega
   |k+1,h=>
    have:=dX k (n/128) (by rw[agI]at h;omega)
    simp;omega
theorem cell8 (m:Nat) (h:m<256):Lib.byteCells [UInt8.ofNat m]=[.int .u8 (m:Int)]:=by
 simp[Lib.byteCells];omega
theorem or128 :∀m:Fin 256,bits BinOp.or IntKind.u8 ((m.val:Nat):Int) 128=((m.val%128+128:Nat):Int):=by decide+kernel
theorem fG (a b:aaA):Lib.byteCells (a++b)=Lib.byteCells a++Lib.byteCells b:=by simp[Lib.byteCells]
set_option maxRecDepth 100000 in
theorem wput (B b:Nat) (bs:List Value) (n:Nat) (w:World) (h:Lib.IsBuilder 242 5 B b bs w) (hn:n<9223372036854775808) (hl:bs.length+10<=140737488355328) (hB:B<=w.heap.size):
  Calls Tryz.prog 163 #[.pointer (some ⟨b,0,none⟩),.int .u64 (n:Int)] w fun e w'=>e= .returned (.tuple #[])/\(Lib.IsBuilder 242 5 B b (bs++Lib.byteCells (dU n)) w'/\Below B w w'):=by
 have H:=Any.hidJ h;have hvl:=dX 9 n (by omega);clear h
 go_enter Tryz.func163,Tryz.ntmps163
 go_wp2_with fail
 go_loopw [1] (fun i wr=>∃(m:Nat) (pre:aaA),i= .int .u64 (m:Int)/\m<=n/\pre++dU m=dU n/\Hid (Lib.IsBuilder 242 5 B b (bs++Lib.byteCells pre) wr)/\Hid (Below B w wr)) (fun i _=>(RowKit.intOf i).toNat)
 case atStart=>exact⟨n,[],rfl,aaY _,rfl,by simpa[Lib.byteCells]using H,Any.hidJ (Below.refl _ _)⟩
 case round=>
  obtain⟨m,pre,rfl,hmn,hv,HB,HW⟩:=hrel
  have hbl:(bs++Lib.byteCells pre).length+1<=140737488355328:=by
   have e1:pre.length+(dU m).length=(dU n).length:=by rw[<-aaF,hv]
   rw[aaF,Lib.byteCells_length]
   have:0<(dU m).length:=by
    by_cases hm:m<128
    ·rw[fL hm];simp
    ·rw[mX hm];simp
   omega
  have hBw:B<=wr.heap.size:=aeF hB HW.out.size;by_cases hm:m<128
  ·have Hv:=Any.hidJ hv;clear hv
   go_wp2_with fail
   refine(Any.Builder_WriteByte Tryz.lays167 Tryz.Builder_Extra_B B b _ (m:Int) wr HB.out hbl hBw).mono ?_;rintro e w1 ⟨rfl,h1,hb1⟩;have H1:=Any.hidJ h1;have Hb1:=Any.hidJ (HW.out.trans hb1);clear h1 hb1
   go_wp2
   go_end0
   refine⟨rfl, ?_,Hb1.out⟩;have h2:=H1.out;have hv:=Hv.out;rw[fL hm]at hv;rw[<-hv,fG,cell8 m (by omega),<-acD];exact .inr h2
  ·have Hv:=Any.hidJ hv;clear hv;have hor:=or128 ⟨m%256,by omega⟩;simp only at hor
   go_wp2_with fail
   have ec:bits BinOp.or IntKind.u8 ((m:Int)%256) 128=((m%128+128:Nat):Int):=by
    have e1:(m:Int)%256=((m%256:Nat):Int):=by omega
    rw[e1,hor];have:m%256%128=m%128:=by omega
    rw[this]
   rw[ec];refine(Any.Builder_WriteByte Tryz.lays167 Tryz.Builder_Extra_B B b _ ((m%128+128:Nat):Int) wr HB.out hbl hBw).mono ?_;rintro e w1 ⟨rfl,h1,hb1⟩
   have h2:Lib.IsBuilder 242 5 B b (bs++Lib.byteCells (pre++[UInt8.ofNat (m%128+128)])) w1:=by
    rw[fG,cell8 (m%128+128) (by omega),<-acD];exact .inr h1
   have H1:=Any.hidJ h2;have Hb1:=Any.hidJ (HW.out.trans hb1);clear h1 h2 hb1 ec hor
   go_wp2
   refine⟨⟨m/128,pre++[UInt8.ofNat (m%128+128)],by congr 1,by omega, ?_,H1,Hb1⟩, ?_⟩
   ·have hv:=Hv.out;rw[mX hm]at hv;rw[acD];exact hv
   ·simp only[RowKit.intOf];omega
def qU (x:ByteArray):aaA:=dU x.size++x.data.toList
def sX (xs:List ByteArray):aaA:=dU xs.length++(xs.map qU).flatten
theorem vint_size (x:ByteArray) (h:x.size<9223372036854775808):(dU x.size).length<=10:=dX 9 x.size (by omega)
theorem xK (xs:List ByteArray) (k:Nat):((xs.take k).map qU).flatten.length<=(xs.map qU).flatten.length:=by
 conv=>rhs;rw[<-List.take_append_drop k xs,agC,List.flatten_append,aaF]
 omega
set_option maxRecDepth 100000 in
theorem wputlist (bk o c:Nat) (xs:List ByteArray) (w:World) (hcells:∀(j:Nat) x,xs[j]? =some x->w.cell? ⟨bk,o+j,none⟩=some (.string x)) (hbk:bk<w.heap.size) (hN:xs.length<=140737488355328) (_hcap:xs.length<=c)
  (hlen:(sX xs).length+100<=140737488355328):
  Calls Tryz.prog 130 #[.slice (some ⟨bk,o,none⟩) xs.length c] w fun e w'=>e= .returned (.string ⟨(sX xs).toArray⟩)/\Below w.heap.size w w':=by
 have HC:=Any.hidJ hcells;have Hlen:=Any.hidJ hlen;clear hcells hlen
 go_enter Tryz.func130,Tryz.ntmps130
 go_wp2_with fail
 have hv0:=dX 9 xs.length (by omega);refine(wput w.heap.size w.heap.size [] xs.length _ (Lib.fresh_isBuilder 242 5 w) (by omega) (by show 0+10<=_;omega) (by show w.heap.size<=(w.heap.push _).size;rw[Array.size_push];omega)).mono ?_;rintro e w1 ⟨rfl,h1,hb1⟩;have H1:=Any.hidJ h1;have Hb1:=Any.hidJ (((Below.refl w.heap.size w).alloc (aaY _) _).trans hb1);clear h1 hb1
 go_wp2_with fail
 go_loopw [12] (fun i wr=>∃k:Nat,k<=xs.length/\i= .int .i64 (k:Int)/\Hid (Lib.IsBuilder 242 5 w.heap.size w.heap.size (Lib.byteCells (dU xs.length++((xs.take k).map qU).flatten)) wr)/\Hid (Below w.heap.size w wr)) (fun i _=>xs.length-(RowKit.intOf i).toNat)
 case atStart=>exact⟨0,abM _,rfl,by simpa using H1,Hb1⟩
 case round=>
  obtain⟨k,hk,rfl,HB,HW⟩:=hrel;have hBw:w.heap.size<=wr.heap.size:=HW.out.size;by_cases hkn:k<xs.length
  ·obtain⟨y,hy⟩:∃y,xs[k]? =some y:=⟨xs[k],aaO hkn⟩
   have hcy:wr.cell? ⟨bk,o+k,none⟩=some (.string y):=by
    rw[HW.out.cell (p:=⟨bk,o+k,none⟩) hbk];exact HC.out k y hy
   have hnext:dU xs.length++((xs.take k).map qU).flatten++dU y.size++y.data.toList=dU xs.length++((xs.take (k+1)).map qU).flatten:=by
    rw[agU,hy];simp[qU]
   have hbound:(dU xs.length++((xs.take (k+1)).map qU).flatten).length+100<=140737488355328:=by
    have h1:=Hlen.out;have h2:=xK xs (k+1);unfold sX at h1;rw[aaF]at h1⊢;omega
   have hsum:(dU xs.length++((xs.take k).map qU).flatten).length+(dU y.size).length+y.size+100<=140737488355328:=by
    rw[<-hnext]at hbound;simp only[aaF]at hbound⊢;have:y.data.toList.length=y.size:=by simp
    omega
   have hvy:=vint_size y (by omega);generalize hX:dU xs.length++((xs.take k).map qU).flatten=X at *;generalize hX1:dU xs.length++((xs.take (k+1)).map qU).flatten=X1 at *;have Hn:=Any.hidJ hnext;have HX1:=Any.hidJ hX1;clear hnext hX hX1 hbound hy
   go_wp2_with fail
   refine(wput w.heap.size w.heap.size _ y.size wr HB.out (by omega) (by rw[Lib.byteCells_length];omega) hBw).mono ?_;rintro e w3 ⟨rfl,h3,hb3⟩;have hBw3:w.heap.size<=w3.heap.size:=aeF hBw hb3.size;have H3:=Any.hidJ h3;have Hb3:=Any.hidJ hb3;clear h3 hb3
   go_wp2_with fail
   refine(Any.Builder_WriteString Tryz.lays166 Tryz.Builder_Extra_B w.heap.size w.heap.size _ y w3 H3.out (by rw[aaF,Lib.byteCells_length,Lib.byteCells_length];omega) hBw3).mono ?_;rintro e w4 ⟨rfl,h4,hb4⟩
   have h5:Lib.IsBuilder 242 5 w.heap.size w.heap.size (Lib.byteCells X1) w4:=by
    rw[<-Hn.out,fG,fG,<-Lib.strCells_eq];exact .inr h4
   have H4:=Any.hidJ h5;have Hb4:=Any.hidJ ((HW.out.trans Hb3.out).trans hb4);clear h4 h5 hb4
   go_wp2
   refine⟨⟨k+1,by omega,by go_num, ?_,Hb4⟩,by simp only[RowKit.intOf];omega⟩;rw[HX1.out];exact H4
  ·have hke:k=xs.length:=by omega
   subst hke;have hB':=HB.out;rw[aeY (aaY _)]at hB';have HB':=Any.hidJ hB';clear hB'
   go_wp2_with fail
   refine(Any.Builder_String_any Tryz.lays169 Tryz.Builder_Extra_B w.heap.size w.heap.size (sX xs) wr HB'.out hBw).mono ?_;rintro e w5 ⟨rfl,hb5⟩;have Hb5:=Any.hidJ (HW.out.trans hb5);clear hb5
   go_wp2
   go_ret
   exact⟨rfl,Hb5.out⟩
set_option maxRecDepth 100000 in
theorem wputnil (a:Option Addr) (c:Nat) (w:World):
  Calls Tryz.prog 130 #[.slice a 0 c] w fun e w'=>e= .returned (.string ⟨#[0]⟩)/\Below w.heap.size w w':=by
 go_enter Tryz.func130,Tryz.ntmps130
 go_wp2_with fail
 refine(wput w.heap.size w.heap.size [] 0 _ (Lib.fresh_isBuilder 242 5 w) (by omega) (by show 0+10<=_;omega) (by show w.heap.size<=(w.heap.push _).size;rw[Array.size_push];omega)).mono ?_;rintro e w1 ⟨rfl,h1,hb1⟩;have H1:=Any.hidJ h1;have Hb1:=Any.hidJ (((Below.refl w.heap.size w).alloc (aaY _) _).trans hb1);clear h1 hb1
 go_wp2_with fail
 go_loopw [12] (fun i wr=>i= .int .i64 0/\Hid (Lib.IsBuilder 242 5 w.heap.size w.heap.size (Lib.byteCells [0]) wr)/\Hid (Below w.heap.size w wr)) (fun _ _=>0)
 case atStart=>exact⟨rfl,by simpa[dU]using H1,Hb1⟩
 case round=>
  obtain⟨rfl,HB,HW⟩:=hrel;have hBw:w.heap.size<=wr.heap.size:=HW.out.size
  go_wp2_with fail
  refine(Any.Builder_String_any Tryz.lays169 Tryz.Builder_Extra_B w.heap.size w.heap.size [0] wr HB.out hBw).mono ?_;rintro e w5 ⟨rfl,hb5⟩;have Hb5:=Any.hidJ (HW.out.trans hb5);clear hb5
  go_wp2
  go_ret
  exact⟨rfl,Hb5.out⟩
def cX (l:List aaA):aaA:=dU l.length++(l.map fun s=>dU s.length++s).flatten
def aA8 (l:List aaA):Option aaA:=if(cX l).length+100<=140737488355328/\l.length<=140737488355328 then some (cX l)else none
theorem plist_B (l:List aaA):sX (l.map fun(q:aaA)=>(⟨q.toArray⟩:ByteArray))=cX l:=by
 unfold sX cX;rw[aeU,agZ];congr 3
theorem aCj (l:List aaA) (r:aaA) (h:aA8 l=some r):aG Tryz.prog 130 [] [] [] [.arr 1 l.length (bY (fun x=>[.str x]) [] l)] (.str r) []:=by
 unfold aA8 at h;split at h
 case isFalse=>cases h
 rename_i hc;cases h;intro z vals hW hl hr _;have e0:=hr 0 (by simp);simp only[abK]at e0
 have hv:vals= #[vals.getD 0 undef]:=by
  apply Array.ext
  ·simpa using hl
  ·intro i h1 h2;have:i=0:=by simp at h2;omega
   subst this;simp[h1]
 rw[hv];generalize vals.getD 0 undef=u at e0
 have nilcase:l.length=0->∀a c,u= .slice a 0 c->Calls Tryz.prog 130 #[u] z.w (fun e w'=>∃x r h1 St' g',e= .returned x/\(r= .str (cX l)/\h1=([]:aJ))/\WSim z St' g' h1 w'/\Rel St' w' g' r x/\(∀k,k∈([]:List Nat)->g' k=z.g k)):=by
  intro hn a c hu;subst hu;refine(wputnil a c z.w).mono ?_;rintro e w' ⟨rfl,hbl⟩;refine⟨_,_,_,z.St,_,rfl,⟨rfl,rfl⟩,hW.below hbl,.str _ _ _ ?_,by simp⟩;rw[aeK.1 hn];unfold cX;rw[show([]:List aaA).length=0 from rfl,fL (by omega)];rfl
 generalize hn:l.length=n at e0
 cases e0 with
 |arr0=>exact nilcase hn _ _ rfl
 |arrE=>exact nilcase hn _ _ rfl
 |arr _ _ _ _ b o cap x hcap hmax hS hcl h1c hrr=>
  by_cases hn0:n=0
  ·subst hn0;exact nilcase hn _ _ rfl
  have hb:z.St b:=hS (by omega) (by decide);have hlen:(l.map (fun(q:aaA)=>(⟨q.toArray⟩:ByteArray))).length=n:=by simpa using hn
  have:=wputlist b o cap (l.map fun q=>⟨q.toArray⟩) z.w (fun j y hj=> ?_) (hW.st1 b hb).1 (by rw[hlen];omega) (by rw[hlen];exact hcap) (by rw[plist_B];exact hc.1)
  ·rw[hlen,plist_B]at this;refine this.mono ?_;rintro e w' ⟨rfl,hbl⟩;exact⟨_,_,_,z.St,z.g,rfl,⟨rfl,rfl⟩,hW.below hbl,.str _ _ _ (by simp),by simp⟩
  ·have hjn:j<n:=by have:=(adD.1 hj).1;omega
   have h5:=hcl j 0 hjn (by decide);have h6:=hrr j 0 hjn (by decide);simp only[bY,abK]at h6;obtain⟨s2,hs3,hs4⟩:=h6.str_inv;rw[hs3,str_of hs4]at h5;simp only[ahD,aeZ]at h5;rw[h5];rw[afD]at hj;obtain⟨q,hq,rfl⟩:=aaQ.1 hj;simp[aaC,hq]
end Go.Abs
namespace Go.Abs
open Go Go.RowKit Go.Lib Go.Shelf Go.Proofs
def bT :V:= .elem 1 1 (fun _ _=> .ifc true) 0 0
theorem zG {St:Nat->Prop} {w:World} {g:Gh} {G:Nat} (h:Rel St w g bT (.pointer (some ⟨G,0,none⟩))):∃t v,w.cell? ⟨G,0,none⟩=some (.iface t v):=by
 unfold bT at h;generalize hp:Value.pointer (some ⟨G,0,none⟩)=p at h
 cases h with
 |elem _ _ _ _ _ _ b o x hi hs hc h1 hr=>
  have e1:=hc 0 0 (by omega) (by omega);have e2:=hr 0 0 (by omega) (by omega);simp only[Value.pointer.injEq,Option.some.injEq,Addr.mk.injEq]at hp;obtain⟨rfl,hp,_⟩:=hp;have e3:o+0 *1+0=0:=hp.symm;rw[e3]at e1
  cases e2 with
  |ifc _ _ _ hx=>
   obtain⟨t,v,hx⟩:=hx;exact⟨t,v,e1.trans (congrArg some hx)⟩
def aAS (s:aaA):Option Tq4:=
 if s.length<=281474976710656 then
  match Lib.atoiAll s with
  | .ok v=>some (v,false)
  | .range=>some (Lib.atoiSat s,true)
  |_=>some (0,true)
 else none
theorem atoi_spec {P:Program} {ρ:Ren} (L:LaysC.n172 P ρ) {f:FuncId} (hf:ρ.f 172=f) {g1 g2:Nat} (hg1:ρ.g 15=g1) (hg2:ρ.g 16=g2)
  (s:aaA) (r:Tq4) (hr:aAS s=some r):aG P f [(g1,bT),(g2,bT)] [] [] [.str s] (.tup [.int .i64 r.1,.ifc r.2]) []:=by
 subst hf hg1 hg2;unfold aAS at hr;split at hr
 case isFalse=>cases hr
 rename_i hn;intro z vals hW hl hv hgs;have e0:=hv 0 (by simp);simp only[abK]at e0;obtain⟨b,hs1,hs2⟩:=e0.str_inv
 have hv':vals= #[vals.getD 0 undef]:=by
  apply Array.ext
  ·simpa using hl
  ·intro i h1 h2;have:i=0:=by simp at h2;omega
   subst this;simp[h1]
 rw[hv',hs1];have hsz:b.size=s.length:=by rw[<-hs2];simp
 obtain⟨t1,v1,hc1⟩:=zG (hgs (ρ.g 15,bT) (by simp));obtain⟨t2,v2,hc2⟩:=zG (hgs (ρ.g 16,bT) (by simp))
 cases hq:Lib.atoiAll s with
 |ok v=>
  rw[hq]at hr;cases hr;refine(Any.strconv_Atoi_ok L b (by omega) v (by rw[hs2];exact hq) z.w).mono ?_;rintro e w' ⟨rfl,hw⟩
  have hb:Go.RowKit.Below z.w.heap.size z.w w':=by
   rcases hw with rfl|⟨t,rfl⟩
   ·exact Below.refl _ _
   ·exact Lib.bytesWorld_below _ _ _
  refine⟨_,_,_,z.St,_,rfl,⟨rfl,rfl⟩,hW.below hb,.tup _ _ _ rfl fun i hi=> ?_,fun k hk=>by cases hk⟩
  match i,hi with
  |0,_=>exact .int _ _ _
  |1,_=>exact .ifc _ _ _ rfl
 |range=>
  rw[hq]at hr;cases hr;refine(Any.strconv_Atoi_range L b (by omega) (by rw[hs2];exact hq) _ z.w hc2 (.inr ⟨_,_,rfl⟩)).mono ?_;rintro e w' ⟨N,rfl,_,_,hb⟩;refine⟨_,_,_,z.St,_,rfl,⟨rfl,rfl⟩,hW.below hb,.tup _ _ _ rfl fun i hi=> ?_,fun k hk=>by cases hk⟩
  match i,hi with
  |0,_=>rw[hs2];exact .int _ _ _
  |1,_=>exact .ifc _ _ _ ⟨_,_,rfl⟩
 |_=>
  rw[hq]at hr;cases hr;refine(Any.strconv_Atoi_syntax L b (by omega) (by rw[hs2];exact hq) _ z.w hc1 (.inr ⟨_,_,rfl⟩)).mono ?_;rintro e w' ⟨N,rfl,_,_,hb⟩;refine⟨_,_,_,z.St,_,rfl,⟨rfl,rfl⟩,hW.below hb,.tup _ _ _ rfl fun i hi=> ?_,fun k hk=>by cases hk⟩
  match i,hi with
  |0,_=>exact .int _ _ _
  |1,_=>exact .ifc _ _ _ ⟨_,_,rfl⟩
end Go.Abs
namespace Go.Abs
open Go Go.RowKit
end Go.Abs
