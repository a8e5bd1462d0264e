/- Part 19 of the proof: Ins54. -/
import Derived.Test.YtfkhgbcggabkjaaGreatDoorMonrepZ18
import Derived.Test.YtfkhgbcggabkjaaGreatDoorProg
import Derived.Shelf.RegionOpenPlain
import Derived.WalkKit
import Derived.Deep.RegionLaw
import Derived.Lib.Walk
import Derived.Lib.SliceRun
import Derived.Lib.AppendZeros
import Derived.Lib.AppendZerosOnto
import Derived.Lib.Overlaps
namespace Go.Abs
open Go Go.Shelf Go.RowKit Go.Lib Go.Proofs
set_option maxRecDepth 100000
abbrev afF:=@Nat.min_def
set_option maxHeartbeats 4000000 in
theorem insShift (b n c i vb m vc:Nat) (cs vs:List Value) (w:World) (hi:i<n) (hm:0<m) (hroom:n+m<=c) (hc63:c<=9223372036854775807) (hvb:vb≠b)
  (hcl:cs.length=n *3) (hvl:vs.length=m *3)
  (hcs:∀j v,cs[j]? =some v->w.cell? ⟨b,j,none⟩=some v) (hsp:∀j,j<(n+m) *3->(w.cell? ⟨b,j,none⟩).isSome=true) (hfz:∀j,j<(n+m) *3->w.frozen? ⟨b,j,none⟩=false)
  (hvs:∀j v,vs[j]? =some v->w.cell? ⟨vb,j,none⟩=some v) (h1c:∀v∈cs,v.oneCell'=true) (h1v:∀v∈vs,v.oneCell'=true)
  (tA tB:TypeId) (kA kB:Nat) (hsa:w.shape? vb=some (tA,kA)) (hsb:w.shape? b=some (tB,kB)) (hkB:kB≠0) (hfa:w.frozen? ⟨vb,0,none⟩=false) (hfe:w.frozen? ⟨vb,kA,none⟩=false):
  Calls Tryz.prog 210 #[.slice (some ⟨b,0,none⟩) n c,.int .i64 i,.slice (some ⟨vb,0,none⟩) m vc] w fun e w'=>
   e= .returned (.slice (some ⟨b,0,none⟩) (n+m) c)/\w'=(w.drew.setCells b ((i+m) *3) (cs.drop (i *3))).setCells b (i *3) vs:=by
 have tS:=Tryz.underlying89;have uS:=run_underlying Tryz.underlying89;have zE:=Tryz.sizeOf202;have hz1:¬((m:Int)=0):=by omega
 have hz2:¬((i:Int)=(n:Int)):=by omega
 have hsz:(Tryz.prog.info? 202).map (·.size)=some 3:=by kernel_rfl
 have hov:∀lb cb,(callFunc 221 #[.slice (some ⟨vb,0,none⟩) m vc,.slice (some ⟨b,(i+m) *3,none⟩) lb cb]).run Tryz.prog w= .ok (.value (.bool false)) w:=fun lb cb=>by
  rw [run_callFunc_extern Tryz.func221 (by kernel_rfl) (by kernel_rfl) (by kernel_rfl) (e:=Extern.SlicesOverlaps.overlaps #[89,89] #[4]) (by kernel_rfl),
   Lib.run_overlaps_apart w 89 4 202 Tryz.underlying89 3 Tryz.sizeOf202 ⟨vb,0,none⟩ ⟨b,(i+m) *3,none⟩ m vc lb cb hvb tA tB kA kB hsa hsb hkB hfa hfe]
  rfl
 have hdl:(cs.drop (i *3)).length=(n-i) *3:=by rw[aaZ,hcl];omega
 have mixed:Tryz.prog.follows .mixedOrders=true:=by kernel_rfl
 have hw1:IntKind.i64.wrap ((i:Int)+(m:Int))=(i:Int)+(m:Int):=by rw[IntKind.wrap_i64];omega
 have hb1:(0:Int)<=(i:Int)+(m:Int):=by omega
 have hin:i<=n:=by omega
 have htn:((i:Int)+(m:Int)).toNat=i+m:=by omega
 have hb2:¬(c=i+m):=by omega
 have hb3:(i:Int)<=(n:Int)+(m:Int):=by omega
 have hb4:¬(c=i):=by omega
 have hm1:Nat.min (n+m-i) (n+m-(i+m))=n-i:=by simp only[afF];split<;>omega
 have hm2:Nat.min m (n+m-i)=m:=by simp only[afF];split<;>omega
 have hcp1:∀ty dc sc,(Builtin.copy_ #[89,89] ty #[.slice (some ⟨b,(i+m) *3,none⟩) (n+m-(i+m)) dc,.slice (some ⟨b,i *3,none⟩) (n+m-i) sc]).run Tryz.prog w.drew= .ok (goInt (n-i:Nat)) (w.drew.setCells b ((i+m) *3) (cs.drop (i *3))):=fun ty dc sc=>by
  have:=cL (P:=Tryz.prog) w.drew 89 89 ty 202 3 b ((i+m) *3) (n+m-(i+m)) dc ⟨b,i *3,none⟩ (n+m-i) sc (cs.drop (i *3)) Tryz.underlying89 hsz (by rw[hm1,hdl])
   (fun j v hj=>by rw[Addr.add_lit];exact hcs (i *3+j) v (by rwa [acC]at hj))
   (fun j hj=>hsp _ (by omega)) (fun j hj=>hfz _ (by omega)) (fun v hv=>h1c v (acQ hv))
  rw[hm1]at this;exact this
 obtain⟨W1,hW1⟩:∃W1,W1=w.drew.setCells b ((i+m) *3) (cs.drop (i *3)):=⟨_,rfl⟩
 have hsp1:∀k,k<(n+m) *3->(W1.cell? ⟨b,k,none⟩).isSome=true:=fun k hk=>by
  rw[hW1];exact fS b (cs.drop (i *3)) ((i+m) *3) w.drew (fun j hj=>hsp _ (by omega)) k (hsp k hk)
 have hcp2:∀(W:World),(∀x,W.cell? x=W1.cell? x)->(∀x,W.frozen? x=W1.frozen? x)->∀ty dc,(Builtin.copy_ #[89,89] ty #[.slice (some ⟨b,i *3,none⟩) (n+m-i) dc,.slice (some ⟨vb,0,none⟩) m vc]).run Tryz.prog W= .ok (goInt (m:Nat)) (W.setCells b (i *3) vs):=fun W hWc hWf ty dc=>by
  have:=cL (P:=Tryz.prog) W 89 89 ty 202 3 b (i *3) (n+m-i) dc ⟨vb,0,none⟩ m vc vs Tryz.underlying89 hsz (by rw[hm2,hvl])
   (fun j v hj=>by
    rw[Addr.add_lit,hWc,hW1,World.cell?_setCells_out b _ _ _ _ (fun h _=>absurd h hvb),abW];exact hvs j v hj)
   (fun j hj=>by rw[hWc];exact hsp1 _ (by omega)) (fun j hj=>by rw[hWf,hW1,World.frozen?_setCells];exact hfz _ (by omega)) h1v
  rw[hm2]at this;exact this
 rw[<-hW1]at hcp1
 go_enter Tryz.func210,Tryz.ntmps210
 go_wp2_with (simp only[hov])
 go_region_law_o (refine mW rfl _ _ 89 89 rfl _ _ (by simp[Act.eval,Act.put]) (by simp[Act.eval,Act.put]) (hcp1 _ _ _) ?_)
 go_wp2_with (at_builtin;refine kX _ rfl _ _ 89 89 rfl _ _ rfl rfl (hcp2 _ (fun _=>rfl) (fun _=>rfl) _ _) ?_)
 go_ret
 first|exact⟨rfl,rfl⟩|exact⟨rfl,by rw[hW1]⟩
set_option maxHeartbeats 4000000 in
theorem insGrow (b n c i vb m vc:Nat) (cs vs:List Value) (w:World) (hi:i<n) (hm:0<m) (hnc:n<=c) (hroom:c<n+m) (hbig:(n+m) *40<=140737488355328)
  (hcl:cs.length=n *3) (hvl:vs.length=m *3)
  (hcs:∀j v,cs[j]? =some v->w.cell? ⟨b,j,none⟩=some v)
  (hvs:∀j v,vs[j]? =some v->w.cell? ⟨vb,j,none⟩=some v) (h1c:∀v∈cs,v.oneCell'=true) (h1v:∀v∈vs,v.oneCell'=true):
  ∃Z:Array Value,∃G,G<=maxLen/\n+m<=G/\((cs.take (i *3)).toArray++Z).size=G *3/\
  Calls Tryz.prog 210 #[.slice (some ⟨b,0,none⟩) n c,.int .i64 i,.slice (some ⟨vb,0,none⟩) m vc] w fun e w'=>
   e= .returned (.slice (some ⟨w.heap.size,0,none⟩) (n+m) G)/\
   w'=(((w.alloc (.cells ((cs.take (i *3)).toArray++Z) 202)).drew.setCells w.heap.size (i *3) vs).drew).setCells w.heap.size ((i+m) *3) (cs.drop (i *3)):=by
 have tS:=Tryz.underlying89;have uS:=run_underlying Tryz.underlying89;have mixed:Tryz.prog.follows .mixedOrders=true:=by kernel_rfl
 obtain⟨i0,hi0,hz0,hzs,hzb⟩:=info_parts (show(Tryz.prog.info? 202).map (fun i=>(i.zero,i.size,i.bytes))=some (some (.agg #[.string ⟨#[]⟩,.string ⟨#[]⟩,.int .i64 0]),3,40) by kernel_rfl);have hz1:¬((m:Int)=0):=by omega
 have hz2:¬((i:Int)=(n:Int)):=by omega
 have hz3:(c:Int)<(n:Int)+(m:Int):=by omega
 have hsz:(Tryz.prog.info? 202).map (·.size)=some 3:=by kernel_rfl
 have hbw:b<w.heap.size:=block_lt_of_cell (hcs 0 _ (aaO (by omega)));have hvw:vb<w.heap.size:=block_lt_of_cell (hvs 0 _ (aaO (by omega)));have hkk:(n:Int)+(m:Int)-(i:Int)=((n+m-i:Nat):Int):=by omega
 have hik:i+(n+m-i)=n+m:=by omega
 have hold:(Builtin.firstCells i0.size i (.slice (some ⟨b,0,none⟩) i c)).run Tryz.prog w.drew= .ok (cs.take (i *3)).toArray w.drew:=by
  rw[hzs]
  exact run_firstCells_some w.drew 3 i ⟨b, 0, none⟩ i c (cs.take (i * 3)) (by rw [abE]; omega) (fun j v hj=>by
   rw[Addr.add_lit,abW];rw[acL]at hj;split at hj
   ·exact hcs j v hj
   ·cases hj)
 obtain⟨ZC,hZC⟩:∃ZC:Array Value,ZC=((.agg #[.string ⟨#[]⟩,.string ⟨#[]⟩,.int .i64 0]:Value)).cells:=⟨_,rfl⟩;have hZCs:ZC.size=3:=by rw[hZC];rfl
 obtain⟨G,hG⟩:∃G,G=grownCap w (n+m) c 202:=⟨_,rfl⟩;obtain⟨Z,hZ⟩:∃Z:Array Value,Z=Builtin.zeroCells ZC (n+m-i)++Builtin.zeroCells ZC (G-(n+m)):=⟨_,rfl⟩;have hGn:n+m<=G:=by rw[hG];exact grownCap_ge w _ _ _
 have hGm:G<=maxLen:=by
  rw[hG];exact grownCap_le_maxLen w (n+m) c 202 (by unfold maxLen;omega)
 obtain⟨ROW,hROW⟩:∃ROW:Array Value,ROW=(cs.take (i *3)).toArray++Z:=⟨_,rfl⟩
 have hRs:ROW.size=G *3:=by
  rw[hROW,hZ];simp[Builtin.zeroCells,hZCs];omega
 have hrz:∀ty,(Builtin.append_ #[89,3] ty #[.slice (some ⟨b,0,none⟩) i c,.int .i64 ((n:Int)+(m:Int)-(i:Int))]).run Tryz.prog w=
   .ok (.slice (some ⟨w.heap.size,0,none⟩) (n+m) G) (w.drew.alloc (.cells ROW 202)):=fun ty=>by
  have h:=Lib.run_append_grow_zeros w 89 3 ty 202 i0 _ .i64 .i64 Tryz.underlying89 Tryz.underlying3 hi0 hz0 (some ⟨b,0,none⟩) i c (cs.take (i *3)) hold (n+m-i) (by omega) (by omega) (by omega) (by omega) (by rw[hzb];omega) (by rw[hzb,hik];exact growslice_fits hroom hbig);rw[hik,<-hG]at h;rw[hkk,hROW,hZ,hZC,h,Array.append_assoc]
 refine⟨Z,G,hGm,hGn,by rw[<-hROW];exact hRs, ?_⟩;rw[<-hROW];obtain⟨W1,hW1⟩:∃W1,W1=w.drew.alloc (.cells ROW 202):=⟨_,rfl⟩;rw[<-hW1]at hrz
 have hN:∀j,j<(n+m) *3->(W1.cell? ⟨w.heap.size,j,none⟩).isSome=true:=fun j hj=>by
  rw[hW1,World.cell?_alloc_at (w:=w.drew) ROW _ w.heap.size j rfl,acT (by omega)];rfl
 have hNf:∀j,W1.frozen? ⟨w.heap.size,j,none⟩=false:=fun j=>by rw[hW1];exact World.frozen?_alloc_at (w:=w.drew) ROW _ w.heap.size j rfl
 have hOb:∀j v,w.cell? ⟨b,j,none⟩=some v->W1.cell? ⟨b,j,none⟩=some v:=fun j v h=>by rw[hW1,World.cell?_alloc_past (w:=w.drew) _ b j hbw];exact h
 have hOv:∀j v,w.cell? ⟨vb,j,none⟩=some v->W1.cell? ⟨vb,j,none⟩=some v:=fun j v h=>by rw[hW1,World.cell?_alloc_past (w:=w.drew) _ vb j hvw];exact h
 have hm2:Nat.min m (n+m-i)=m:=by simp only[afF];split<;>omega
 have hm3:Nat.min (n-i) (n+m-(i+m))=n-i:=by simp only[afF];split<;>omega
 have hdl:(cs.drop (i *3)).length=(n-i) *3:=by rw[aaZ,hcl];omega
 have hcpA:∀(W:World),(∀x,W.cell? x=W1.cell? x)->(∀x,W.frozen? x=W1.frozen? x)->∀ty dc,(Builtin.copy_ #[89,89] ty #[.slice (some ⟨w.heap.size,i *3,none⟩) (n+m-i) dc,.slice (some ⟨vb,0,none⟩) m vc]).run Tryz.prog W= .ok (goInt (m:Nat)) (W.setCells w.heap.size (i *3) vs):=fun W hWc hWf ty dc=>by
  have:=cL (P:=Tryz.prog) W 89 89 ty 202 3 w.heap.size (i *3) (n+m-i) dc ⟨vb,0,none⟩ m vc vs Tryz.underlying89 hsz (by rw[hm2,hvl])
   (fun j v hj=>by rw[Addr.add_lit,hWc,abW];exact hOv _ v (hvs j v hj))
   (fun j hj=>by rw[hWc];exact hN _ (by omega)) (fun j hj=>by rw[hWf];exact hNf _) h1v
  rw[hm2]at this;exact this
 have hG63:G<=9223372036854775807:=by unfold maxLen at hGm;omega
 have hGi:¬(G=i):=by omega
 have hGim:¬(G=i+m):=by omega
 have hci:¬(c=i):=by omega
 have hbN:b≠w.heap.size:=by omega
 have hcpB:∀(W:World),(∀x,W.cell? x=(W1.setCells w.heap.size (i *3) vs).cell? x)->(∀x,W.frozen? x=(W1.setCells w.heap.size (i *3) vs).frozen? x)->∀ty dc sc,(Builtin.copy_ #[89,89] ty #[.slice (some ⟨w.heap.size,(i+m) *3,none⟩) (n+m-(i+m)) dc,.slice (some ⟨b,i *3,none⟩) (n-i) sc]).run Tryz.prog W= .ok (goInt (n-i:Nat)) (W.setCells w.heap.size ((i+m) *3) (cs.drop (i *3))):=fun W hWc hWf ty dc sc=>by
  have:=cL (P:=Tryz.prog) W 89 89 ty 202 3 w.heap.size ((i+m) *3) (n+m-(i+m)) dc ⟨b,i *3,none⟩ (n-i) sc (cs.drop (i *3)) Tryz.underlying89 hsz (by rw[hm3,hdl])
   (fun j v hj=>by
    rw[Addr.add_lit,hWc,World.cell?_setCells_out _ _ _ _ _ (fun h _=>absurd h hbN)];exact hOb _ v (hcs (i *3+j) v (by rwa [acC]at hj)))
   (fun j hj=>by rw[hWc];exact fS w.heap.size vs (i *3) W1 (fun t ht=>hN _ (by omega)) _ (hN _ (by omega)))
   (fun j hj=>by rw[hWf,World.frozen?_setCells];exact hNf _) (fun v hv=>h1c v (acQ hv))
  rw[hm3]at this;exact this
 subst hW1;have hE1:∀x,((w.alloc (.cells ROW 202)).drew).cell? x=(w.drew.alloc (.cells ROW 202)).cell? x:=fun x=>rfl;have hE2:∀x,((w.alloc (.cells ROW 202)).drew).frozen? x=(w.drew.alloc (.cells ROW 202)).frozen? x:=fun x=>rfl;have hF1:∀x,(((w.alloc (.cells ROW 202)).drew.setCells w.heap.size (i *3) vs).drew).cell? x=((w.drew.alloc (.cells ROW 202)).setCells w.heap.size (i *3) vs).cell? x:=fun x=>rfl;have hF2:∀x,(((w.alloc (.cells ROW 202)).drew.setCells w.heap.size (i *3) vs).drew).frozen? x=((w.drew.alloc (.cells ROW 202)).setCells w.heap.size (i *3) vs).frozen? x:=fun x=>rfl;have hw1:IntKind.i64.wrap ((i:Int)+(m:Int))=(i:Int)+(m:Int):=by rw[IntKind.wrap_i64];omega
 have hb1:(0:Int)<=(i:Int)+(m:Int):=by omega
 have hin:i<=n:=by omega
 have htn:((i:Int)+(m:Int)).toNat=i+m:=by omega
 have hb3:(i:Int)<=(n:Int):=by omega
 clear hkk hik hold hROW hZ hG hRs
 go_enter Tryz.func210,Tryz.ntmps210
 go_wp2_with (first
  |(at_builtin;refine Lib.wpList_append_run _ rfl _ _ _ _ rfl _ _ rfl rfl _ _ (hrz _) ?_)
  |(at_builtin;refine kX _ rfl _ _ 89 89 rfl _ _ rfl rfl (hcpA _ hE1 hE2 _ _) ?_)
  |(at_builtin;refine kX _ rfl _ _ 89 89 rfl _ _ rfl rfl (hcpB _ (fun _=>rfl) (fun _=>rfl) _ _ _) ?_))
 go_region_law_o (refine mW rfl _ _ 89 89 rfl (.slice (some ⟨w.heap.size,(i+m) *3,none⟩) (n+m-(i+m)) (G-(i+m))) (.slice (some ⟨b,i *3,none⟩) (n-i) (c-i)) (by simp[Act.eval,Act.put]) (by simp[Act.eval,Act.put]) (hcpB _ hF1 hF2 3 (G-(i+m)) (c-i)) ?_)
 go_wp2
 go_ret
 exact⟨rfl,rfl⟩
set_option maxHeartbeats 4000000 in
set_option maxRecDepth 1000000 in
theorem delW (b n c i j:Nat) (cs:List Value) (w:World) (hlt:i<j) (hj:j<=n) (hcap:n<=c) (hm:c<=9223372036854775807) (hcl:cs.length=n *3)
  (hcs:∀q v,cs[q]? =some v->w.cell? ⟨b,q,none⟩=some v) (hfz:∀q,q<n *3->w.frozen? ⟨b,q,none⟩=false) (h1c:∀v∈cs,v.oneCell'=true):
  ∃Z:List Value,Z.length=(j-i) *3/\
  Calls Tryz.prog 188 #[.slice (some ⟨b,0,none⟩) n c,.int .i64 i,.int .i64 j] w fun e w'=>e= .returned (.slice (some ⟨b,0,none⟩) (n-(j-i)) c)/\w'=(w.drew.setCells b (i *3) (cs.drop (j *3))).setCells b ((n-(j-i)) *3) Z:=by
 have tS:=Tryz.underlying89;have uS:=run_underlying Tryz.underlying89;have mixed:Tryz.prog.follows .mixedOrders=true:=by kernel_rfl
 obtain⟨i0,hi0,hz0,hzs,hzb⟩:=info_parts (show(Tryz.prog.info? 202).map (fun i=>(i.zero,i.size,i.bytes))=some (some (.agg #[.string ⟨#[]⟩,.string ⟨#[]⟩,.int .i64 0]),3,40) by kernel_rfl);obtain⟨Z,hZ⟩:∃Z:List Value,Z=(Builtin.zeroCells ((.agg #[.string ⟨#[]⟩,.string ⟨#[]⟩,.int .i64 0]:Value)).cells (j-i)).toList:=⟨_,rfl⟩;have hZl:Z.length=(j-i) *3:=by rw[hZ];simp[Builtin.zeroCells,Value.cells]
 have hZ1:∀v∈Z,v.oneCell'=true:=by
  intro v hv;rw[hZ]at hv;have:=uM (by decide) hv;have hall:((.agg #[.string ⟨#[]⟩,.string ⟨#[]⟩,.int .i64 0]:Value).cells.toList.all fun v=>v.oneCell')=true:=by rfl
  exact aaX.1 hall _ (Array.mem_toList_iff.2 this)
 refine⟨Z,hZl, ?_⟩;have hkl:(n-j) *3=n *3-j *3:=aeX ..;obtain⟨news,hnews⟩:∃news,news=cs.drop (j *3):=⟨_,rfl⟩;have hlen:news.length=(n-j) *3:=by rw[hnews,aaZ,hcl,hkl]
 have hspace:∀q,q<n *3->(w.cell? ⟨b,q,none⟩).isSome=true:=fun q hq=>by rw[hcs q _ (aaO (by omega))];rfl
 obtain⟨A,hA,hsrc⟩:∃A:Addr,(if c=j then some (⟨b,0,none⟩:Addr)else some ⟨b,j *3,none⟩)=some A/\Hid (∀t u,news[t]? =some u->w.drew.cell? (A.add t)=some u):=by
  by_cases h:c=j
  ·refine⟨⟨b,0,none⟩,by simp[h],fun t u hu=> ?_⟩;have h0:news.length=0:=by rw[hlen];omega
   rw[aeK.1 h0]at hu;simp at hu
  ·refine⟨⟨b,j *3,none⟩,by simp[h],fun t u hu=> ?_⟩;rw[Addr.add_lit];exact hcs (j *3+t) u (by rw[hnews,acC]at hu;exact hu)
 have s2:Hid (∀u∈news,u.oneCell'=true):=by
  intro u hu;rw[hnews]at hu;exact h1c u (acQ hu)
 have s3:Hid (∀t,t<news.length->(w.drew.cell? ⟨b,0+i *3+t,none⟩).isSome=true/\w.drew.frozen? ⟨b,0+i *3+t,none⟩=false):=by
  intro t ht;rw[hlen]at ht;rw[abW];exact⟨hspace _ (by omega),hfz _ (by omega)⟩
 obtain⟨W1,hW1⟩:∃W1,W1=w.drew.setCells b (0+i *3) news:=⟨_,rfl⟩
 have hsp1:∀q,q<n *3->(W1.cell? ⟨b,q,none⟩).isSome=true:=fun q hq=>by
  rw[hW1];exact fS b news (0+i *3) w.drew (fun t ht=>by rw[abW];rw[hlen]at ht;exact hspace _ (by omega)) q (hspace q hq)
 have hfz1:∀q,q<n *3->W1.frozen? ⟨b,q,none⟩=false:=fun q hq=>by rw[hW1,World.frozen?_setCells];exact hfz q hq
 have hlenj:n-(i+(n-j))=j-i:=by omega
 have hcl2:∀ty,(Builtin.clear_ #[89] ty #[.slice (some ⟨b,(i+(n-j)) *3,none⟩) (n-(i+(n-j))) (c-(i+(n-j)))]).run Tryz.prog W1= .ok (.tuple #[]) (W1.setCells b ((i+(n-j)) *3) Z):=fun ty=>by
  have:=zZ (P:=Tryz.prog) W1 89 202 ty _ Tryz.underlying89 Tryz.zeroValue202 b ((i+(n-j)) *3) (n-(i+(n-j))) (c-(i+(n-j))) (by omega) (by rw[hlenj,<-hZ,hZl];exact fun t ht=>hsp1 _ (by omega)) (by rw[hlenj,<-hZ,hZl];exact fun t ht=>hfz1 _ (by omega)) (by rw[hlenj,<-hZ];exact hZ1);rw[hlenj,<-hZ]at this;rw[hlenj];exact this
 have hcl3:∀ty,(Builtin.clear_ #[89] ty #[.slice (some ⟨b,(i+(n-j)) *3,none⟩) (j-i) (c-(i+(n-j)))]).run Tryz.prog W1= .ok (.tuple #[]) (W1.setCells b ((i+(n-j)) *3) Z):=fun ty=>by
  have:=hcl2 ty;rw[hlenj]at this;exact this
 have hW:Hid (W1=w.drew.setCells b (0+i *3) news):=hW1
 have hfin:W1.setCells b ((i+(n-j)) *3) Z=(w.drew.setCells b (i *3) news).setCells b ((n-(j-i)) *3) Z:=by
  rw[hW1,abW,show n-(j-i)=i+(n-j) by omega]
 have hic:i<=c:=by omega
 have hjc:j<=c:=by omega
 have hret:n-(j-i)=i+(n-j):=by omega
 have hne1:¬(c=i):=by omega
 have hne2:¬(c=i+(n-j)):=by omega
 rw[<-hnews,<-hfin,hret];clear hW1 hcs hspace hfz hfz1 hsp1 hfin;have s1:news.length=(n-j) *3:=hlen
 go_enter Tryz.func188,Tryz.ntmps188
 go_wp2_with fail
 go_region_law_o (refine step_append_room rfl (.tmp 22) (.tmp 25) 89 rfl 202 i0 3 Tryz.underlying89 hi0 hzs b 0 i c (by simp[Act.eval,Act.put]) A (n-j) (c-j) news (by simp[Act.eval,Act.put]) s1 hsrc.out s2.out (by omega) s3.out ?_;rw[<-hW.out])
 go_wp2
 go_ret
 exact⟨rfl,by rw[hZ];rfl⟩
set_option maxHeartbeats 4000000 in
theorem insShift1 (b n c i vb m vc:Nat) (cs vs:List Value) (w:World) (hi:i<n) (hm:0<m) (hroom:n+m<=c) (hc63:c<=9223372036854775807) (hvb:vb≠b)
  (hcl:cs.length=n *3) (hvl:vs.length=m *3)
  (hcs:∀j v,cs[j]? =some v->w.cell? ⟨b,j,none⟩=some v) (hsp:∀j,j<(n+m) *3->(w.cell? ⟨b,j,none⟩).isSome=true) (hfz:∀j,j<(n+m) *3->w.frozen? ⟨b,j,none⟩=false)
  (hvs:∀j v,vs[j]? =some v->w.cell? ⟨vb,j,none⟩=some v) (h1c:∀v∈cs,v.oneCell'=true) (h1v:∀v∈vs,v.oneCell'=true)
  (tA tB:TypeId) (kA kB:Nat) (hsa:w.shape? vb=some (tA,kA)) (hsb:w.shape? b=some (tB,kB)) (hkB:kB≠0) (hfa:w.frozen? ⟨vb,0,none⟩=false) (hfe:w.frozen? ⟨vb,kA,none⟩=false):
  Calls Tryz.prog 155 #[.slice (some ⟨b,0,none⟩) n c,.int .i64 i,.slice (some ⟨vb,0,none⟩) m vc] w fun e w'=>
   e= .returned (.slice (some ⟨b,0,none⟩) (n+m) c)/\w'=(w.drew.setCells b ((i+m) *3) (cs.drop (i *3))).setCells b (i *3) vs:=by
 have tS:=Tryz.underlying90;have uS:=run_underlying Tryz.underlying90;have zE:=Tryz.sizeOf160;have hz1:¬((m:Int)=0):=by omega
 have hz2:¬((i:Int)=(n:Int)):=by omega
 have hsz:(Tryz.prog.info? 160).map (·.size)=some 3:=by kernel_rfl
 have hov:∀lb cb,(callFunc 190 #[.slice (some ⟨vb,0,none⟩) m vc,.slice (some ⟨b,(i+m) *3,none⟩) lb cb]).run Tryz.prog w= .ok (.value (.bool false)) w:=fun lb cb=>by
  rw [run_callFunc_extern Tryz.func190 (by kernel_rfl) (by kernel_rfl) (by kernel_rfl) (e:=Extern.SlicesOverlaps.overlaps #[90,90] #[4]) (by kernel_rfl),
   Lib.run_overlaps_apart w 90 4 160 Tryz.underlying90 3 Tryz.sizeOf160 ⟨vb,0,none⟩ ⟨b,(i+m) *3,none⟩ m vc lb cb hvb tA tB kA kB hsa hsb hkB hfa hfe]
  rfl
 have hdl:(cs.drop (i *3)).length=(n-i) *3:=by rw[aaZ,hcl];omega
 have mixed:Tryz.prog.follows .mixedOrders=true:=by kernel_rfl
 have hw1:IntKind.i64.wrap ((i:Int)+(m:Int))=(i:Int)+(m:Int):=by rw[IntKind.wrap_i64];omega
 have hb1:(0:Int)<=(i:Int)+(m:Int):=by omega
 have hin:i<=n:=by omega
 have htn:((i:Int)+(m:Int)).toNat=i+m:=by omega
 have hb2:¬(c=i+m):=by omega
 have hb3:(i:Int)<=(n:Int)+(m:Int):=by omega
 have hb4:¬(c=i):=by omega
 have hm1:Nat.min (n+m-i) (n+m-(i+m))=n-i:=by simp only[afF];split<;>omega
 have hm2:Nat.min m (n+m-i)=m:=by simp only[afF];split<;>omega
 have hcp1:∀ty dc sc,(Builtin.copy_ #[90,90] ty #[.slice (some ⟨b,(i+m) *3,none⟩) (n+m-(i+m)) dc,.slice (some ⟨b,i *3,none⟩) (n+m-i) sc]).run Tryz.prog w.drew= .ok (goInt (n-i:Nat)) (w.drew.setCells b ((i+m) *3) (cs.drop (i *3))):=fun ty dc sc=>by
  have:=cL (P:=Tryz.prog) w.drew 90 90 ty 160 3 b ((i+m) *3) (n+m-(i+m)) dc ⟨b,i *3,none⟩ (n+m-i) sc (cs.drop (i *3)) Tryz.underlying90 hsz (by rw[hm1,hdl])
   (fun j v hj=>by rw[Addr.add_lit];exact hcs (i *3+j) v (by rwa [acC]at hj))
   (fun j hj=>hsp _ (by omega)) (fun j hj=>hfz _ (by omega)) (fun v hv=>h1c v (acQ hv))
  rw[hm1]at this;exact this
 obtain⟨W1,hW1⟩:∃W1,W1=w.drew.setCells b ((i+m) *3) (cs.drop (i *3)):=⟨_,rfl⟩
 have hsp1:∀k,k<(n+m) *3->(W1.cell? ⟨b,k,none⟩).isSome=true:=fun k hk=>by
  rw[hW1];exact fS b (cs.drop (i *3)) ((i+m) *3) w.drew (fun j hj=>hsp _ (by omega)) k (hsp k hk)
 have hcp2:∀(W:World),(∀x,W.cell? x=W1.cell? x)->(∀x,W.frozen? x=W1.frozen? x)->∀ty dc,(Builtin.copy_ #[90,90] ty #[.slice (some ⟨b,i *3,none⟩) (n+m-i) dc,.slice (some ⟨vb,0,none⟩) m vc]).run Tryz.prog W= .ok (goInt (m:Nat)) (W.setCells b (i *3) vs):=fun W hWc hWf ty dc=>by
  have:=cL (P:=Tryz.prog) W 90 90 ty 160 3 b (i *3) (n+m-i) dc ⟨vb,0,none⟩ m vc vs Tryz.underlying90 hsz (by rw[hm2,hvl])
   (fun j v hj=>by
    rw[Addr.add_lit,hWc,hW1,World.cell?_setCells_out b _ _ _ _ (fun h _=>absurd h hvb),abW];exact hvs j v hj)
   (fun j hj=>by rw[hWc];exact hsp1 _ (by omega)) (fun j hj=>by rw[hWf,hW1,World.frozen?_setCells];exact hfz _ (by omega)) h1v
  rw[hm2]at this;exact this
 rw[<-hW1]at hcp1
 go_enter Tryz.func155,Tryz.ntmps155
 go_wp2_with (simp only[hov])
 go_region_law_o (refine mW rfl _ _ 90 90 rfl _ _ (by simp[Act.eval,Act.put]) (by simp[Act.eval,Act.put]) (hcp1 _ _ _) ?_)
 go_wp2_with (at_builtin;refine kX _ rfl _ _ 90 90 rfl _ _ rfl rfl (hcp2 _ (fun _=>rfl) (fun _=>rfl) _ _) ?_)
 go_ret
 first|exact⟨rfl,rfl⟩|exact⟨rfl,by rw[hW1]⟩
set_option maxHeartbeats 4000000 in
theorem insGrow1 (b n c i vb m vc:Nat) (cs vs:List Value) (w:World) (hi:i<n) (hm:0<m) (hnc:n<=c) (hroom:c<n+m) (hbig:(n+m) *32<=140737488355328)
  (hcl:cs.length=n *3) (hvl:vs.length=m *3)
  (hcs:∀j v,cs[j]? =some v->w.cell? ⟨b,j,none⟩=some v)
  (hvs:∀j v,vs[j]? =some v->w.cell? ⟨vb,j,none⟩=some v) (h1c:∀v∈cs,v.oneCell'=true) (h1v:∀v∈vs,v.oneCell'=true):
  ∃Z:Array Value,∃G,G<=maxLen/\n+m<=G/\((cs.take (i *3)).toArray++Z).size=G *3/\
  Calls Tryz.prog 155 #[.slice (some ⟨b,0,none⟩) n c,.int .i64 i,.slice (some ⟨vb,0,none⟩) m vc] w fun e w'=>
   e= .returned (.slice (some ⟨w.heap.size,0,none⟩) (n+m) G)/\
   w'=(((w.alloc (.cells ((cs.take (i *3)).toArray++Z) 160)).drew.setCells w.heap.size (i *3) vs).drew).setCells w.heap.size ((i+m) *3) (cs.drop (i *3)):=by
 have tS:=Tryz.underlying90;have uS:=run_underlying Tryz.underlying90;have mixed:Tryz.prog.follows .mixedOrders=true:=by kernel_rfl
 obtain⟨i0,hi0,hz0,hzs,hzb⟩:=info_parts (show(Tryz.prog.info? 160).map (fun i=>(i.zero,i.size,i.bytes))=some (some (.agg #[.int .i64 0,.int .i64 0,.string ⟨#[]⟩]),3,32) by kernel_rfl);have hz1:¬((m:Int)=0):=by omega
 have hz2:¬((i:Int)=(n:Int)):=by omega
 have hz3:(c:Int)<(n:Int)+(m:Int):=by omega
 have hsz:(Tryz.prog.info? 160).map (·.size)=some 3:=by kernel_rfl
 have hbw:b<w.heap.size:=block_lt_of_cell (hcs 0 _ (aaO (by omega)));have hvw:vb<w.heap.size:=block_lt_of_cell (hvs 0 _ (aaO (by omega)));have hkk:(n:Int)+(m:Int)-(i:Int)=((n+m-i:Nat):Int):=by omega
 have hik:i+(n+m-i)=n+m:=by omega
 have hold:(Builtin.firstCells i0.size i (.slice (some ⟨b,0,none⟩) i c)).run Tryz.prog w.drew= .ok (cs.take (i *3)).toArray w.drew:=by
  rw[hzs]
  exact run_firstCells_some w.drew 3 i ⟨b, 0, none⟩ i c (cs.take (i * 3)) (by rw [abE]; omega) (fun j v hj=>by
   rw[Addr.add_lit,abW];rw[acL]at hj;split at hj
   ·exact hcs j v hj
   ·cases hj)
 obtain⟨ZC,hZC⟩:∃ZC:Array Value,ZC=((.agg #[.int .i64 0,.int .i64 0,.string ⟨#[]⟩]:Value)).cells:=⟨_,rfl⟩;have hZCs:ZC.size=3:=by rw[hZC];rfl
 obtain⟨G,hG⟩:∃G,G=grownCap w (n+m) c 160:=⟨_,rfl⟩;obtain⟨Z,hZ⟩:∃Z:Array Value,Z=Builtin.zeroCells ZC (n+m-i)++Builtin.zeroCells ZC (G-(n+m)):=⟨_,rfl⟩;have hGn:n+m<=G:=by rw[hG];exact grownCap_ge w _ _ _
 have hGm:G<=maxLen:=by
  rw[hG];exact grownCap_le_maxLen w (n+m) c 160 (by unfold maxLen;omega)
 obtain⟨ROW,hROW⟩:∃ROW:Array Value,ROW=(cs.take (i *3)).toArray++Z:=⟨_,rfl⟩
 have hRs:ROW.size=G *3:=by
  rw[hROW,hZ];simp[Builtin.zeroCells,hZCs];omega
 have hrz:∀ty,(Builtin.append_ #[90,3] ty #[.slice (some ⟨b,0,none⟩) i c,.int .i64 ((n:Int)+(m:Int)-(i:Int))]).run Tryz.prog w=
   .ok (.slice (some ⟨w.heap.size,0,none⟩) (n+m) G) (w.drew.alloc (.cells ROW 160)):=fun ty=>by
  have h:=Lib.run_append_grow_zeros w 90 3 ty 160 i0 _ .i64 .i64 Tryz.underlying90 Tryz.underlying3 hi0 hz0 (some ⟨b,0,none⟩) i c (cs.take (i *3)) hold (n+m-i) (by omega) (by omega) (by omega) (by omega) (by rw[hzb];omega) (by rw[hzb,hik];exact growslice_fits hroom hbig);rw[hik,<-hG]at h;rw[hkk,hROW,hZ,hZC,h,Array.append_assoc]
 refine⟨Z,G,hGm,hGn,by rw[<-hROW];exact hRs, ?_⟩;rw[<-hROW];obtain⟨W1,hW1⟩:∃W1,W1=w.drew.alloc (.cells ROW 160):=⟨_,rfl⟩;rw[<-hW1]at hrz
 have hN:∀j,j<(n+m) *3->(W1.cell? ⟨w.heap.size,j,none⟩).isSome=true:=fun j hj=>by
  rw[hW1,World.cell?_alloc_at (w:=w.drew) ROW _ w.heap.size j rfl,acT (by omega)];rfl
 have hNf:∀j,W1.frozen? ⟨w.heap.size,j,none⟩=false:=fun j=>by rw[hW1];exact World.frozen?_alloc_at (w:=w.drew) ROW _ w.heap.size j rfl
 have hOb:∀j v,w.cell? ⟨b,j,none⟩=some v->W1.cell? ⟨b,j,none⟩=some v:=fun j v h=>by rw[hW1,World.cell?_alloc_past (w:=w.drew) _ b j hbw];exact h
 have hOv:∀j v,w.cell? ⟨vb,j,none⟩=some v->W1.cell? ⟨vb,j,none⟩=some v:=fun j v h=>by rw[hW1,World.cell?_alloc_past (w:=w.drew) _ vb j hvw];exact h
 have hm2:Nat.min m (n+m-i)=m:=by simp only[afF];split<;>omega
 have hm3:Nat.min (n-i) (n+m-(i+m))=n-i:=by simp only[afF];split<;>omega
 have hdl:(cs.drop (i *3)).length=(n-i) *3:=by rw[aaZ,hcl];omega
 have hcpA:∀(W:World),(∀x,W.cell? x=W1.cell? x)->(∀x,W.frozen? x=W1.frozen? x)->∀ty dc,(Builtin.copy_ #[90,90] ty #[.slice (some ⟨w.heap.size,i *3,none⟩) (n+m-i) dc,.slice (some ⟨vb,0,none⟩) m vc]).run Tryz.prog W= .ok (goInt (m:Nat)) (W.setCells w.heap.size (i *3) vs):=fun W hWc hWf ty dc=>by
  have:=cL (P:=Tryz.prog) W 90 90 ty 160 3 w.heap.size (i *3) (n+m-i) dc ⟨vb,0,none⟩ m vc vs Tryz.underlying90 hsz (by rw[hm2,hvl])
   (fun j v hj=>by rw[Addr.add_lit,hWc,abW];exact hOv _ v (hvs j v hj))
   (fun j hj=>by rw[hWc];exact hN _ (by omega)) (fun j hj=>by rw[hWf];exact hNf _) h1v
  rw[hm2]at this;exact this
 have hG63:G<=9223372036854775807:=by unfold maxLen at hGm;omega
 have hGi:¬(G=i):=by omega
 have hGim:¬(G=i+m):=by omega
 have hci:¬(c=i):=by omega
 have hbN:b≠w.heap.size:=by omega
 have hcpB:∀(W:World),(∀x,W.cell? x=(W1.setCells w.heap.size (i *3) vs).cell? x)->(∀x,W.frozen? x=(W1.setCells w.heap.size (i *3) vs).frozen? x)->∀ty dc sc,(Builtin.copy_ #[90,90] ty #[.slice (some ⟨w.heap.size,(i+m) *3,none⟩) (n+m-(i+m)) dc,.slice (some ⟨b,i *3,none⟩) (n-i) sc]).run Tryz.prog W= .ok (goInt (n-i:Nat)) (W.setCells w.heap.size ((i+m) *3) (cs.drop (i *3))):=fun W hWc hWf ty dc sc=>by
  have:=cL (P:=Tryz.prog) W 90 90 ty 160 3 w.heap.size ((i+m) *3) (n+m-(i+m)) dc ⟨b,i *3,none⟩ (n-i) sc (cs.drop (i *3)) Tryz.underlying90 hsz (by rw[hm3,hdl])
   (fun j v hj=>by
    rw[Addr.add_lit,hWc,World.cell?_setCells_out _ _ _ _ _ (fun h _=>absurd h hbN)];exact hOb _ v (hcs (i *3+j) v (by rwa [acC]at hj)))
   (fun j hj=>by rw[hWc];exact fS w.heap.size vs (i *3) W1 (fun t ht=>hN _ (by omega)) _ (hN _ (by omega)))
   (fun j hj=>by rw[hWf,World.frozen?_setCells];exact hNf _) (fun v hv=>h1c v (acQ hv))
  rw[hm3]at this;exact this
 subst hW1;have hE1:∀x,((w.alloc (.cells ROW 160)).drew).cell? x=(w.drew.alloc (.cells ROW 160)).cell? x:=fun x=>rfl;have hE2:∀x,((w.alloc (.cells ROW 160)).drew).frozen? x=(w.drew.alloc (.cells ROW 160)).frozen? x:=fun x=>rfl;have hF1:∀x,(((w.alloc (.cells ROW 160)).drew.setCells w.heap.size (i *3) vs).drew).cell? x=((w.drew.alloc (.cells ROW 160)).setCells w.heap.size (i *3) vs).cell? x:=fun x=>rfl;have hF2:∀x,(((w.alloc (.cells ROW 160)).drew.setCells w.heap.size (i *3) vs).drew).frozen? x=((w.drew.alloc (.cells ROW 160)).setCells w.heap.size (i *3) vs).frozen? x:=fun x=>rfl;have hw1:IntKind.i64.wrap ((i:Int)+(m:Int))=(i:Int)+(m:Int):=by rw[IntKind.wrap_i64];omega
 have hb1:(0:Int)<=(i:Int)+(m:Int):=by omega
 have hin:i<=n:=by omega
 have htn:((i:Int)+(m:Int)).toNat=i+m:=by omega
 have hb3:(i:Int)<=(n:Int):=by omega
 clear hkk hik hold hROW hZ hG hRs
 go_enter Tryz.func155,Tryz.ntmps155
 go_wp2_with (first
  |(at_builtin;refine Lib.wpList_append_run _ rfl _ _ _ _ rfl _ _ rfl rfl _ _ (hrz _) ?_)
  |(at_builtin;refine kX _ rfl _ _ 90 90 rfl _ _ rfl rfl (hcpA _ hE1 hE2 _ _) ?_)
  |(at_builtin;refine kX _ rfl _ _ 90 90 rfl _ _ rfl rfl (hcpB _ (fun _=>rfl) (fun _=>rfl) _ _ _) ?_))
 go_region_law_o (refine mW rfl _ _ 90 90 rfl (.slice (some ⟨w.heap.size,(i+m) *3,none⟩) (n+m-(i+m)) (G-(i+m))) (.slice (some ⟨b,i *3,none⟩) (n-i) (c-i)) (by simp[Act.eval,Act.put]) (by simp[Act.eval,Act.put]) (hcpB _ hF1 hF2 3 (G-(i+m)) (c-i)) ?_)
 go_wp2
 go_ret
 exact⟨rfl,rfl⟩
end Go.Abs
