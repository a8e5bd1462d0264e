/- Part 20 of the proof: SplW, ItoaW. -/
import Derived.Test.YtfkhgbcggabkjaaGreatDoorMonrepZ19
import Derived.Shelf.Strings.Split
import Derived.Lib.IndexBytes
import Derived.Shelf.Strconv.Itoa3
namespace Go.Abs
open Go Go.RowKit Go.Lib Go.Shelf Go.Proofs
set_option maxHeartbeats 1000000 in
theorem split_one {P:Program} {ρ:Ren} (L:Lays.n146 P ρ) (hi9:(P.info? (ρ.t 9)).map (fun i=>(i.zero,i.size,i.bytes))=some (some (.string ByteArray.empty),1,16)) (s:ByteArray) (c:UInt8) (w:World) (hs:s.size<4294967281):
  Calls P (ρ.f 146) #[.string s,.string ⟨#[c]⟩] w fun e w'=>
   e= .returned (.slice (some ⟨w.heap.size,0,none⟩) (Lib.countB s ⟨#[c]⟩+1) (Lib.countB s ⟨#[c]⟩+1))/\w'=w.alloc (.cells ((Lib.splitB ⟨#[c]⟩ 0 (Lib.countB s ⟨#[c]⟩) s).map Value.string).toArray (ρ.t 9)):=by
 have h1:1<=(⟨#[c]⟩:ByteArray).size:=aaY _;have hle:=Lib.countB_le ⟨#[c]⟩ h1 s.size s (aaY _);have hlen:=Lib.splitB_all ⟨#[c]⟩ h1 0 _ s rfl
 have hidx:∀x:ByteArray,Lib.indexByte x.data.toList c=Lib.indexB x ⟨#[c]⟩:=fun x=>by
  exact(Lib.index_one x.data.toList c).symm
 have hcnt:((Lib.countByte s.data.toList c:Nat):Int)=(Lib.countB s ⟨#[c]⟩:Int):=by
  show _=((Lib.count s.data.toList [c]:Nat):Int);rw[Lib.count_one];rfl
 have cc:=Any.strings_genSplit_core {L with} hi9 s ⟨#[c]⟩ 0 (-1) (Lib.countB s ⟨#[c]⟩+1) w hs h1 (abM _)
  (fun x cs _=>by have:=Any.strings_Index_one {L with} x c (w.alloc (.cells cs (ρ.t 9)));rw[hidx]at this;exact this)
  (by have:=Any.strings_Count_one {L with} s c w;rw[hcnt]at this;exact this) (by decide) (by decide) (by rw[if_pos (by decide)];omega)
 rw[Nat.add_sub_cancel,hlen]at cc;have e2:Lib.cellsOf (Lib.splitB ⟨#[c]⟩ 0 (Lib.countB s ⟨#[c]⟩) s) (Lib.countB s ⟨#[c]⟩+1)=((Lib.splitB ⟨#[c]⟩ 0 (Lib.countB s ⟨#[c]⟩) s).map Value.string).toArray:=by rw[<-hlen];exact Lib.cellsOf_full _
 rw[e2]at cc;have t3:=L.t3;have t9:=L.t9;have t31:=L.t31;have a3:=L.a3;have a9:=L.a9;have a31:=L.a31;have z3:=L.z3;have v3:=L.v3;have z9:=L.z9;have v9:=L.v9;have z31:=L.z31;have v31:=L.v31;have e221:∀args w,(callFunc (ρ.f 221) args).run P w= .ok (.enter (ρ.f 221) args) w:=enters_of L.f221 (by kernel_rfl) rfl
 go_enter L.f146,Body.n146_ntmps ρ
 go_wp2_with (go_at_fn (ρ.f 221);refine cc.mono ?_;rintro e w' ⟨rfl,hw⟩;rw[hw])
 go_ret
 exact⟨rfl,rfl⟩
def aA2 (x1 x2:aaA):Option (List aaA):=
 match x2 with
 |[c]=>if x1.length<4294967281 then some (Lib.split x1 [c])else none
 |_=>none
theorem aB7 {P:Program} {f:FuncId} (E:TypeId)
  (h:∀(s:ByteArray) (c:UInt8) (w:World),s.size<4294967281->Calls P f #[.string s,.string ⟨#[c]⟩] w fun e w'=>
   e= .returned (.slice (some ⟨w.heap.size,0,none⟩) (Lib.countB s ⟨#[c]⟩+1) (Lib.countB s ⟨#[c]⟩+1))/\w'=w.alloc (.cells ((Lib.splitB ⟨#[c]⟩ 0 (Lib.countB s ⟨#[c]⟩) s).map Value.string).toArray E))
  (x1 x2:aaA) (r:List aaA) (hr:aA2 x1 x2=some r):aG P f [] [] [] [.str x1,.str x2] (.own 3000) [(3000,bL E 1 (fun x:aaA=>[.str x]) [] r)]:=by
 unfold aA2 at hr;split at hr
 case h_2=>cases hr
 rename_i c;split at hr
 case isFalse=>cases hr
 rename_i hlt;cases hr;intro z vals hW hl hv _;have e0:=hv 0 (by simp);have e1:=hv 1 (by simp);simp only[abK,abP]at e0 e1;obtain⟨s,hs1,hs2⟩:=e0.str_inv;obtain⟨s',hs1',hs2'⟩:=e1.str_inv;have hs':=str_of hs2'
 have hv:vals= #[vals.getD 0 undef,vals.getD 1 undef]:=by
  apply Array.ext
  ·simpa using hl
  ·intro i h1 h2;have:i=0\/i=1:=by simp at h2;omega
   rcases this with rfl|rfl<;>simp[h1]
 rw[hv,hs1,hs1',hs'];have hsz:s.size=x1.length:=by rw[<-hs2];simp
 refine(h s c z.w (by rw[hsz];exact hlt)).mono ?_;rintro e w' ⟨rfl,rfl⟩;have hle:=Lib.countB_le ⟨#[c]⟩ (aaY _) s.size s (aaY _);have hlen:=Lib.splitB_all ⟨#[c]⟩ (aaY _) 0 _ s rfl;have hdata:=Lib.splitB_data ⟨#[c]⟩ 0 (Lib.countB s ⟨#[c]⟩) s;have hcnt:Lib.countB s ⟨#[c]⟩=Lib.count x1 [c]:=by rw[<-hs2]
 have hsp:(Lib.splitB ⟨#[c]⟩ 0 (Lib.countB s ⟨#[c]⟩) s).map (·.data.toList)=Lib.split x1 [c]:=by
  exact hdata.trans (by rw[hs2,hcnt];rfl)
 generalize hps:Lib.splitB ⟨#[c]⟩ 0 (Lib.countB s ⟨#[c]⟩) s=ps at hlen hsp⊢;generalize hn:Lib.countB s ⟨#[c]⟩=n at hlen hle⊢;have hrl:(Lib.split x1 [c]).length=n+1:=by rw[<-hsp,aeU,hlen]
 refine⟨_,_,_,z.St,_,rfl,⟨rfl,rfl⟩,hW.newObj (d:=3000) (v':= .slice (some ⟨z.w.heap.size,0,none⟩) (n+1) (n+1)) (by rfl) rfl ?_,.own _ _ _ (by simp[Gh.set]) rfl,fun k hk=>by cases hk⟩;refine⟨ps.map Value.string,⟨by simp[hlen,hrl],.inr ⟨z.w.heap.size,n+1,(ps.map Value.string).toArray,by rw[hrl],abM _,heap_alloc_new _ _,by rw[hrl];exact aaY _,by unfold maxLen;omega,by simp[hlen],by rw[hrl];exact aeY (by simp[hlen])⟩⟩,fun i j hi hj=> ?_,fun x hx=> ?_⟩
 ·obtain rfl:j=0:=by omega
  rw[<-hsp,aeU]at hi;have e1:(Lib.split x1 [c]).getD i []=ps[i].data.toList:=by rw[<-hsp];simp[aaC,hi]
  have e2:(ps.map Value.string).getD (i *1+0) undef= .string ps[i]:=by simp[aaC,hi]
  simp only[bY,abK];rw[e1,e2];exact .str _ _ _ rfl
 ·obtain⟨q,_,rfl⟩:=adL.1 hx;rfl
end Go.Abs
namespace Go.Abs
open Go Go.RowKit Go.Lib Go.Shelf Go.Proofs
theorem below_grow (w:World) (k:Nat) (os:Array Obj):Go.RowKit.Below w.heap.size w (Go.Sort.grow (w.drewN k) os):=
 ⟨rfl,rfl,rfl,by simp[Go.Sort.grow,World.drewN],fun i hi=>by
  show(w.heap++os)[i]? =_
  rw[Array.getElem?_append_left hi]⟩
def itoaO (n:Int):Option aaA:=if-9223372036854775808<=n/\n<=9223372036854775807 then some (Lib.itoa n)else none
theorem itoa_spec {P:Program} {f:FuncId} {g:Nat} {name:String} {T:List Int} (hg:P.globalNamed name=some g)
  (h:∀(n:Int) (w:World),-9223372036854775808<=n->n<=9223372036854775807->Lib.TabIs P w name .u64 T->Calls P f #[.int .i64 n] w fun e w'=>e= .returned (.string ⟨(Lib.itoa n).toArray⟩)/\∃k os,w'=Go.Sort.grow (w.drewN k) os)
  (n:Int) (r:aaA) (hr:itoaO n=some r):aG P f [(g,.tab .u64 T)] [] [] [.int .i64 n] (.str r) []:=by
 unfold itoaO at hr;split at hr
 case isFalse=>cases hr
 rename_i hn;cases hr;intro z vals hW hl hv hgs;have e0:=hv 0 (by simp);simp only[abK]at e0
 have hx:vals.getD 0 undef= .int .i64 n:=by
  generalize vals.getD 0 undef=y at e0;cases e0;rfl
 have hv':vals= #[vals.getD 0 undef]:=by
  apply Array.ext
  ·simpa using hl
  ·intro i h1 h2;have:i=0:=by simp at h2;omega
   subst this;simp[h1]
 rw[hv',hx]
 have ht:Lib.TabIs P z.w name .u64 T:=by
  have:=hgs (g,.tab .u64 T) (adP.2 rfl);simp only at this
  cases this with
  |tab _ _ _ _ t fr hs ho=>
   unfold Lib.TabIs World.var?;rw[hg];simp[ho]
 refine(h n z.w hn.1 hn.2 ht).mono ?_;rintro e w' ⟨rfl,k,os,rfl⟩;exact⟨_,_,_,z.St,_,rfl,⟨rfl,rfl⟩,hW.below (below_grow _ _ _),.str _ _ _ (by simp),fun k hk=>by cases hk⟩
end Go.Abs
