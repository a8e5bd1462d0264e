/- Part 12 of the proof: AbsW. -/
import Derived.Test.YtfkhgbcggabkjaaGreatDoorMonrepZ11
import Derived.RangeFuncNested
namespace Go.Abs
open Go
abbrev afV:=@List.mem_iff_getElem
theorem wpIn_n {ro:Option Nat} {n m:Nat} {P:Program} {c:Code} {Q:Exit->Act->World->Prop} {a:Act} {w:World} (h:c.wpIn (lB ro) n P Q a w):c.wpIn (lB ro) m P Q a w:=
 fun b k cs h1 h2 _=>h b k cs h1 h2 (fun _ hd=>by cases hd)
theorem aCX.zero {P:Program} {y:Nat} {ids:List Nat} {C:YC} {bk:List Nat} {h0:aJ} {args:List V} {k:Nat} {h1:aJ} (h:aCX P y ids C bk h0 args k h1) (hk:k=0):aCX P y ids C bk h0 args 0 h1:=hk▸h
theorem aBi :∀(l:List (Nat×Value)) (arr:Array Value),(l.map (·.1)).Nodup->(∀p,p∈l->p.1<arr.size)->
  (∀p,p∈l->(l.foldl (fun t (p:Nat×Value)=>t.setIfInBounds p.1 p.2) arr).getD p.1 undef=p.2)/\(∀d,d∉l.map (·.1)->(l.foldl (fun t (p:Nat×Value)=>t.setIfInBounds p.1 p.2) arr).getD d undef=arr.getD d undef)/\
   (l.foldl (fun t (p:Nat×Value)=>t.setIfInBounds p.1 p.2) arr).size=arr.size
 |[],arr,_,_=>⟨by simp,by simp,rfl⟩
 |q::l,arr,hn,hb=>by
  rw[abS,agA]at hn
  obtain⟨h1,h2,h3⟩:=aBi l (arr.setIfInBounds q.1 q.2) hn.2 (fun p hp=>by simpa using hb p (aaU _ hp))
  refine⟨fun p hp=> ?_,fun d hd=> ?_,by rw[acF,h3];simp⟩
  ·rcases abC.1 hp with rfl|hp
   ·rw[acF,h2 _ hn.1]
    have:=hb p (aaV ..)
    simp[this]
   ·rw[acF];exact h1 p hp
  ·rw[abS,abC,not_or]at hd
   rw[acF,h2 d hd.2]
   simp only[acW]
   rw[acX (Ne.symm hd.1)]
theorem aAW :∀(ps:List Nat) (args:List V) (d:Nat),ps.length=args.length->dD (ps.zip args) d=match ps.idxOf? d with|some i=>args.getD i .any|none=> .any
 |[],[],d,_=>by simp[dD]
 |[],_::_,_,h=>by simp at h
 |_::_,[],_,h=>by simp at h
 |p::ps,a::args,d,h=>by
  simp only[List.zip_cons_cons,dD,List.idxOf?_cons]
  by_cases e:p=d
  ·subst e;simp
  ·have ih:=aAW ps args d (by simpa using h)
   rw[if_neg e,ih]
   have:(p==d)=false:=by simpa using e
   rw[this]
   cases ps.idxOf? d<;>simp
def YQ (bk:List Nat) (h1:aJ) (k:Nat) (jumps:List Code):Exit->S->Prop:=fun e s=>∃s',Le s s'/\s'.h=h1/\s'.b=bk/\
 ((e= .normal/\k=0)\/∃j c,k=j+2/\jumps[j]? =some c/\((e= .ret/\c= .ret)\/∃id,e= .exit id/\c= .exit id))
theorem aAj {l:List Nat} (h:l.Nodup) {i:Nat} (hi:i<l.length):l.idxOf? l[i]=some i:=by
 induction l generalizing i with
 |nil=>simp at hi
 |cons a l ih=>
  rw[agA]at h;rw[List.idxOf?_cons]
  cases i with
  |zero=>simp
  |succ i=>
   have hi':i<l.length:=by simpa using hi
   have hne:(a==(a::l)[i+1])=false:=by
    simp only[List.getElem_cons_succ,beq_eq_false_iff_ne];intro e;exact h.1 (e▸acU hi')
   rw[hne];simp[ih h.2 hi']
theorem aCX.body {P:Program} {y:Nat} {ids:List Nat} {C:YC} {bk:List Nat} {h0:aJ} {args:List V} {k:Nat} {h1:aJ} (o:Nat)
  (hps:args.length=C.ps.size) (hnd:C.ps.toList.Nodup) (hpb:∀p,p∈C.ps.toList->p<C.N) (hwt:∀d,V.within ids (dD C.t d)=true) (hidb:ids.all bk.contains=true)
  (hyh:h0.get y=none) (hy1:(dP h1).contains y=false) (hw1:aJ.within (dP h1) h1=true)
  (h:AWp P C.assign (fun e s=>e= .normal/\s.b=bk/\AWp P C.body (YQ bk h1 k C.jumps) s) ⟨C.N,C.ps.toList.zip args++C.t,h0,bk,o⟩):aCX P y ids C bk h0 args k h1:=by
 refine⟨hps,fun ro z vals l r hW hgy hl hvs hvr=> ?_⟩;obtain⟨u,hgu,l',r',hu,hl',hyo⟩:=hW.ok y (.yld (some (ids,C)) 0) (by simp[aJ.get]);rw[hgy]at hgu;cases hgu;cases hu;rw[hl]at hl';cases hl';obtain⟨i1,i2,i3,i4,i5,i5',i6,i7,i8,i9⟩:=hyo;have hlsz:l<z.w.heap.size:=(abD.1 hl).1;have hyget:aJ.get ((y,Blk.yld (some (ids,C)) 0)::h0) y=some (.yld (some (ids,C)) 0):=by simp[aJ.get]
 have hget0:∀r b,h0.get r=some b->aJ.get ((y,Blk.yld (some (ids,C)) 0)::h0) r=some b/\y≠r:=by
  intro q b hb;have hne:y≠q:=fun e=>by subst e;rw[hyh]at hb;cases hb
  exact⟨by simp[aJ.get,hne,hb],hne⟩
 have hlSt:¬z.St l:=(hW.ow y _ _ hyget hgy l rfl).1;have hlOwn:z.Own l\/z.w.heap.size<=l:=(hW.ow y _ _ hyget hgy l rfl).2;rw[i3,i4];refine roundIn_of_wpIn (F:=lB ro) trivial ?_
 -- the assignment
 let zA:Start:=⟨z.w,fun k=>z.St k\/k=l,fun k=>∃r b v,h0.get r=some b/\z.g r=some v/\cF v k,z.g,some l⟩
 have hnOA:¬zA.Own l:=by
  rintro⟨q,b,v,h1,h2,h3⟩;obtain⟨h4,h5⟩:=hget0 q b h1;exact hW.sep y q _ b _ v hyget h4 hgy h2 h5 l rfl h3
 have hWA0:WSim zA zA.St zA.g h0 z.w:=by
  refine⟨Frm.refl _ _,fun _ h=>h,fun k hk=>⟨?_,.inl hk⟩,fun q b v h1 h2 k h3=>⟨?_,.inl ⟨q,b,v,h1,h2,h3⟩⟩,fun q b h1=> ?_,fun q q' b b' v v' h1 h1' h2 h2'=> ?_⟩
  ·rcases hk with hk|rfl
   ·exact(hW.st1 k hk).1
   ·exact hlsz
  ·obtain⟨h4,_⟩:=hget0 q b h1;rintro(h5|rfl)
   ·exact(hW.ow q b v h4 h2 k h3).1 h5
   ·exact hnOA ⟨q,b,v,h1,h2,h3⟩
  ·obtain⟨h4,_⟩:=hget0 q b h1;obtain⟨v,h2,h3⟩:=hW.ok q b h4;exact⟨v,h2,h3.mono (fun _ hk=> .inl hk) (fun _ _=>rfl) (fun _ _=>rfl) (r:=q) (fun _ _=>rfl) (.inr rfl)⟩
  ·exact hW.sep q q' b b' v v' (hget0 q b h1).1 (hget0 q' b' h1').1 h2 h2'
 have hvps:vals.size=C.ps.size:=hvs.trans hps
 have hfold:(r.params.zip vals).foldl (fun tmps (t,a)=>tmps.setIfInBounds t a) r.tmps=((C.ps.toList.zip vals.toList).foldl (fun t (p:Nat×Value)=>t.setIfInBounds p.1 p.2) r.tmps):=by
  rw[i2,<-Array.foldl_toList,Array.toList_zip]
 have hkeys:(C.ps.toList.zip vals.toList).map (·.1)=C.ps.toList:=by
  rw[List.map_fst_zip];simp;omega
 obtain ⟨f1, f2, f3⟩ := aBi (C.ps.toList.zip vals.toList) r.tmps (by rw [hkeys]; exact hnd) (fun p hp=>by
  rw[i7];exact hpb p.1 (List.of_mem_zip hp).1)
 have hTA:eL zA.St z.w zA.g C.N (C.ps.toList.zip args++C.t) {tmps:=(r.params.zip vals).foldl (fun tmps (t,a)=>tmps.setIfInBounds t a) r.tmps,defers:=[]}:=by
  rw[hfold];refine⟨⟨trivial,by rw[f3,i7];exact i8⟩,by rw[f3,i7],fun d=> ?_⟩;have hzl:C.ps.toList.length=args.length:=by simp[hps]
  have hzk:(C.ps.toList.zip args).map (·.1)=C.ps.toList:=by rw[List.map_fst_zip];omega
  rw[mB,hzk];by_cases hd:d∈C.ps.toList
  ·rw[if_pos hd];obtain⟨i,hi,rfl⟩:=acG hd;rw[aAW _ _ _ hzl,aAj hnd hi];have hdN:C.ps.toList[i]<G0:=aeD (hpb _ hd) i8;rw[zV,if_pos hdN];have hiv:i<vals.size:=by simp at hi;omega
   have := f1 (C.ps.toList[i], vals[i]) (by
    rw[afV];exact⟨i,by simp at hi⊢;omega,by simp⟩)
   dsimp only at this⊢;rw[this];have h5:=(hvr i (by omega)).mono (St':=zA.St) (fun _ hk=> .inl hk) (fun _ _=>rfl);simpa[hiv]using h5
  ·rw[if_neg hd];have h5:=(((i9 d).within (g':=z.g) (fun i hi=>i1 i hi) (hwt d)).mono (St':=zA.St) (fun _ hk=> .inl hk) (fun _ _=>rfl));unfold zV at h5⊢;split
   ·rename_i hlt;rw[if_pos hlt]at h5;dsimp only at h5⊢;rw[f2 d (by rw[hkeys];exact hd)];exact h5
   ·rename_i hlt;rw[if_neg hlt]at h5;exact h5
 have hsA:Sim zA ⟨C.N,C.ps.toList.zip args++C.t,h0,bk,o⟩ {tmps:=(r.params.zip vals).foldl (fun tmps (t,a)=>tmps.setIfInBounds t a) r.tmps,defers:=[]} z.w:=
  ⟨zA.St,zA.g,hWA0,hTA,⟨fun _ _=>rfl,⟨[],.nil,rfl,fun D hD=>by cases hD⟩,fun q hq=>(by cases hq;exact⟨.inr rfl,r,hl⟩),fun _=>rfl⟩⟩
 refine wpIn_mono (wpIn_n (n:=1) (h zA _ _ hsA)) fun e a1 w1 ⟨s1,⟨he,hsb,hB⟩,hsim⟩=> ?_;subst he;obtain⟨St1,g1,hWA,hT1,hK1⟩:=hsim;have hSt1l:St1 l:=hWA.st0 l (.inr rfl);have hw1l:w1.heap[l]? =some (.loop r):=by rw[hWA.frm.block l hlsz hnOA];exact hl
 refine⟨w1.putObj l (.loop {r with state:= .busy}),run_beginRound hw1l (i5 rfl).1, ?_⟩
 -- the body
 let w2:World:=w1.putObj l (.loop {r with state:= .busy})
 have hlsz1:l<w1.heap.size:=(abD.1 hw1l).1;have hw2:∀k,k≠l->w2.heap[k]? =w1.heap[k]? :=fun k hk=>World.putObj_heap_other hk;let zB:Start:=⟨w2,St1,fun k=>∃r b v,s1.h.get r=some b/\g1 r=some v/\cF v k,g1,some l⟩
 have hownl:∀q b v k,s1.h.get q=some b->g1 q=some v->cF v k->k≠l:=fun q b v k h1 h2 h3 e=>(hWA.ow q b v h1 h2 k h3).1 (e▸hSt1l);have hcutS:∀k,St1 k->nV w1 k->(fun k=>St1 k/\k≠l) k:=fun k hk hd=>⟨hk,fun e=>uL hd r (e▸hw1l)⟩
 have hWB0:WSim zB St1 g1 s1.h w2:=by
  refine⟨Frm.refl _ _,fun _ h=>h,fun k hk=>⟨?_,.inl hk⟩,fun q b v h1 h2 k h3=>⟨(hWA.ow q b v h1 h2 k h3).1,.inl ⟨q,b,v,h1,h2,h3⟩⟩,fun q b h1=> ?_,hWA.sep⟩
  ·show k<w2.heap.size;rw[show w2.heap.size=w1.heap.size from World.putObj_size];exact(hWA.st1 k hk).1
  ·obtain⟨v,h2,h3⟩:=hWA.ok q b h1;refine⟨v,h2, ?_⟩;have h4:=h3.cut (St':=fun k=>St1 k/\k≠l) (w':=w2) hcutS (fun k hk=>hw2 k hk.2) fun k hk=>hw2 k (hownl q b v k h1 h2 hk);exact h4.mono (fun _ hk=>hk.1) (fun _ _=>rfl) (fun _ _=>rfl) (r:=q) (fun _ _=>rfl) (.inr rfl)
 have hsB:Sim zB s1 a1 w2:=by
  refine⟨St1,g1,hWB0,⟨hT1.1,hT1.2.1,fun d=> ?_⟩,⟨fun _ _=>rfl,⟨[],.nil,hK1.rd rfl,fun D hD=>by cases hD⟩,fun q hq=> ?_,fun _=>hK1.rd rfl⟩⟩
  ·exact((hT1.2.2 d).cut (St':=fun k=>St1 k/\k≠l) (w':=w2) hcutS (fun k hk=>hw2 k hk.2)).mono (fun _ hk=>hk.1) (fun _ _=>rfl)
  ·cases hq;exact⟨hSt1l,_,World.putObj_heap_same hlsz1⟩
 refine wpIn_mono (wpIn_n (n:=1) (hB zB _ _ hsB)) fun e a3 w3 ⟨s3,⟨s4,hle,hs4h,hs4b,hend⟩,hsim3⟩=> ?_;obtain⟨St3,g3,hWB,_,hK3⟩:=hle _ _ _ hsim3;rw[hs4h]at hWB
 have hnOB:¬zB.Own l:=by
  rintro⟨q,b,v,h1,h2,h3⟩;exact hownl q b v l h1 h2 h3 rfl
 have hw3l:w3.heap[l]? =some (.loop {r with state:= .busy}):=by
  rw[hWB.frm.block l (by show l<w2.heap.size;rw[show w2.heap.size=w1.heap.size from World.putObj_size];exact hlsz1) hnOB];exact World.putObj_heap_same hlsz1
 have fin:∀(r4:Loop),r4.params=r.params->r4.assign=r.assign->r4.body=r.body->r4.tmps=r.tmps->(k=0->r4.state= .ready/\r4.pending=none)->(k=1->r4.state= .busy)->(∀j,k=j+2->r4.state= .done/\r4.pending=C.jumps[j]?)->
   ∃St' g',WSim z St' g' ((y,.yld (some (ids,C)) k)::h1) (w3.putObj l (.loop r4))/\∀i,i∈y::bk->g' i=z.g i:=by
  intro r4 e1 e2 e3 e4 e5 e5' e6;let w4:World:=w3.putObj l (.loop r4)
  have hw4:∀k,k≠l->w4.heap[k]? =w3.heap[k]? :=fun k hk=>World.putObj_heap_other hk;have hlsz3:l<w3.heap.size:=(abD.1 hw3l).1;let g4:Gh:=fun i=>if i=y then z.g y else g3 i
  let St4:Nat->Prop:=fun k=>St3 k/\k≠l
  have hsz1:z.w.heap.size<=w1.heap.size:=hWA.frm.size;have hsz2:w2.heap.size=w1.heap.size:=World.putObj_size;have hsz3:w2.heap.size<=w3.heap.size:=hWB.frm.size;have hsz4:w4.heap.size=w3.heap.size:=World.putObj_size
  have hOA:∀k,zA.Own k->z.Own k\/z.w.heap.size<=k:=by
   rintro k ⟨q,b,v,h1,h2,h3⟩;exact(hW.ow q b v (hget0 q b h1).1 h2 k h3).2
  have hOB:∀k,zB.Own k->z.Own k\/z.w.heap.size<=k:=by
   rintro k ⟨q,b,v,h1,h2,h3⟩;rcases(hWA.ow q b v h1 h2 k h3).2 with h4|h4
   ·exact hOA k h4
   ·exact .inr h4
  have hOBn:∀k,zB.Own k->¬St1 k:=by
   rintro k ⟨q,b,v,h1,h2,h3⟩;exact(hWA.ow q b v h1 h2 k h3).1
  have hOAn:∀k,zA.Own k->¬z.St k:=by
   rintro k ⟨q,b,v,h1,h2,h3⟩;exact(hW.ow q b v (hget0 q b h1).1 h2 k h3).1
  have hheap:∀k,k<z.w.heap.size->k≠l->¬zA.Own k->¬zB.Own k->w4.heap[k]? =z.w.heap[k]? :=by
   intro k hk hkl h1 h2;rw[hw4 k hkl,hWB.frm.block k (by show k<w2.heap.size;omega) h2,hw2 k hkl,hWA.frm.block k hk h1]
  have hStl:∀k,z.St k->k≠l:=fun k hk e=>hlSt (e▸hk);have hSt4:∀k,z.St k->St4 k:=fun k hk=>⟨hWB.st0 k (hWA.st0 k (.inl hk)),hStl k hk⟩
  have hStw:∀k,z.St k->w4.heap[k]? =z.w.heap[k]? :=fun k hk=>
   hheap k (hW.st1 k hk).1 (hStl k hk) (fun h=>hOAn k h hk) (fun h=>hOBn k h (hWA.st0 k (.inl hk)))
  have hcut4:∀k,St3 k->nV w3 k->St4 k:=fun k hk hd=>⟨hk,fun e=>uL hd _ (e▸hw3l)⟩;have hyn:y∉dP h1:=by simpa using hy1
  have hg4:∀i,i∈dP h1->g4 i=g3 i:=fun i hi=>by
   have:i≠y:=fun e=>hyn (e▸hi);simp[g4,this]
  have hownB:∀q b v k,h1.get q=some b->g3 q=some v->cF v k->k≠l:=by
   intro q b v k h5 h6 h7 e;subst e;rcases(hWB.ow q b v h5 h6 _ h7).2 with h8|h8
   ·exact hnOB h8
   ·have:w2.heap.size<=k:=h8;omega
  have hkeep:∀i,i∈y::bk->g4 i=z.g i:=by
   intro i hi;by_cases e:i=y
   ·subst e;simp[g4]
   ·have hi':i∈bk:=by simpa[e]using hi
    have h5:g3 i=g1 i:=hK3.keep i (by rw[hs4b];exact hi');have h6:g1 i=z.g i:=hK1.keep i (by rw[hsb];exact hi');simp[g4,e,h5,h6]
  have hgetq:∀q b,aJ.get ((y,Blk.yld (some (ids,C)) k)::h1) q=some b->q≠y->h1.get q=some b:=by
   intro q b hb hne;simpa[aJ.get,Ne.symm hne]using hb
  refine⟨St4,g4,⟨⟨hWB.frm.os.trans hWA.frm.os|>.trans hW.frm.os,hWB.frm.tape.trans hWA.frm.tape|>.trans hW.frm.tape,hWB.frm.output.trans hWA.frm.output|>.trans hW.frm.output,by show _<=w4.heap.size;omega,fun k hk hno=> ?_⟩,hSt4,fun k hk=>⟨?_, ?_⟩,fun q b v h5 h6 q2 h7=> ?_,fun q b h5=> ?_,fun q q' b b' v v' h5 h5' h6 h6' hne q2 h7 h8=> ?_⟩,hkeep⟩
  ·refine hheap k hk (fun e=> ?_) (fun h=> ?_) (fun h=> ?_)
   ·subst e;rcases hlOwn with h|h
    ·exact hno h
    ·omega
   ·rcases hOA k h with h|h
    ·exact hno h
    ·omega
   ·rcases hOB k h with h|h
    ·exact hno h
    ·omega
  ·show k<w4.heap.size;rw[hsz4];exact(hWB.st1 k hk.1).1
  ·rcases(hWB.st1 k hk.1).2 with h5|h5|h5
   ·rcases(hWA.st1 k h5).2 with(h6|h6)|h6|h6
    ·exact .inl h6
    ·exact absurd h6 hk.2
    ·exact .inr (hOA k h6)
    ·exact .inr (.inr h6)
   ·exact .inr (hOB k h5)
   ·have:w2.heap.size<=k:=h5;exact .inr (.inr (by omega))
  ·by_cases e:q=y
   ·subst e;have h9:g4 q=z.g q:=by simp[g4]
    rw[h9,hgy]at h6;cases h6;simp[cF,bS]at h7;subst h7;exact⟨fun h=>h.2 rfl,hlOwn⟩
   ·have h10:=hgetq q b h5 e;have h9:g4 q=g3 q:=hg4 q (aJ.get_mem h10);rw[h9]at h6;have h11:=hWB.ow q b v h10 h6 q2 h7;refine⟨fun h=>h11.1 h.1, ?_⟩;rcases h11.2 with h12|h12
    ·exact hOB q2 h12
    ·have:w2.heap.size<=q2:=h12;exact .inr (by omega)
  ·by_cases e:q=y
   ·subst e;have h9:g4 q=z.g q:=by simp[g4]
    have h10:b= .yld (some (ids,C)) k:=by simpa[aJ.get]using h5.symm
    subst h10;refine⟨_,h9.trans hgy,l,r4,rfl,World.putObj_heap_same hlsz3,⟨fun i hi=> ?_,e1.trans i2,e2.trans i3,e3.trans i4,e5,e5',e6,by rw[e4];exact i7,i8,fun d=> ?_⟩⟩
    ·rw[hkeep i (aaU _ (by simpa using aaX.1 hidb i hi))];exact i1 i hi
    ·rw[e4];exact(i9 d).mono hSt4 hStw
   ·have h10:=hgetq q b h5 e;obtain⟨v,h11,h12⟩:=hWB.ok q b h10;refine⟨v,(hg4 q (aJ.get_mem h10)).trans h11, ?_⟩;have h13:=h12.cut (St':=St4) (w':=w4) hcut4 (fun k hk=>hw4 k hk.2) fun k hk=>hw4 k (hownB q b v k h10 h11 hk);exact h13.ghost hg4 (aJ.within_get hw1 h10)
  ·by_cases e:q=y
   ·subst e;have h9:g4 q=z.g q:=by simp[g4]
    rw[h9,hgy]at h6;cases h6;simp[cF,bS]at h7;subst h7;have h10:=hgetq q' b' h5' (Ne.symm hne);have h11:g4 q'=g3 q':=hg4 q' (aJ.get_mem h10);rw[h11]at h6';exact hownB q' b' v' l h10 h6' h8 rfl
   ·have h10:=hgetq q b h5 e;have h11:g4 q=g3 q:=hg4 q (aJ.get_mem h10);rw[h11]at h6;by_cases e':q'=y
    ·subst e';have h9:g4 q'=z.g q':=by simp[g4]
     rw[h9,hgy]at h6';cases h6';simp[cF,bS]at h8;exact hownB q b v q2 h10 h6 h7 h8.symm
    ·have h10':=hgetq q' b' h5' e';have h11':g4 q'=g3 q':=hg4 q' (aJ.get_mem h10');rw[h11']at h6';exact hWB.sep q q' b b' v v' h10 h10' h6 h6' hne q2 h7 h8
 rcases hend with⟨rfl,hk0⟩|⟨j,c,hkj,hc,⟨rfl,rfl⟩|⟨id,rfl,rfl⟩⟩
 ·obtain⟨St',g',h5,h6⟩:=fin {r with state:= .ready,pending:=none} rfl rfl rfl rfl (fun _=>⟨rfl,rfl⟩) (fun h=>by omega) (fun j h=>by omega);exact⟨_,_,run_endRound none hw3l,St',g',by subst hk0;rfl,h5,h6⟩
 ·obtain ⟨St', g', h5, h6⟩ := fin { r with state := .done, pending := some .ret } rfl rfl rfl rfl (fun h => by omega) (fun h => by omega) (fun j' h=>by
   have:j'=j:=by omega
   subst this;exact⟨rfl,hc.symm⟩)
  exact⟨_,_,run_endRound (some .ret) hw3l,St',g',by subst hkj;rfl,h5,h6⟩
 ·obtain ⟨St', g', h5, h6⟩ := fin { r with state := .done, pending := some (.exit id) } rfl rfl rfl rfl (fun h => by omega) (fun h => by omega) (fun j' h=>by
   have:j'=j:=by omega
   subst this;exact⟨rfl,hc.symm⟩)
  exact⟨_,_,run_endRound (some (.exit id)) hw3l,St',g',by subst hkj;rfl,h5,h6⟩
theorem WSim.off {z:Start} {St:Nat->Prop} {g:Gh} {h:aJ} {w:World} (hs:WSim z St g h w) {l:Nat} {o:Obj} (h1:¬St l) (h2:z.Own l\/z.w.heap.size<=l) (h3:∀r b v,h.get r=some b->g r=some v->¬cF v l):WSim z St g h (w.putObj l o):=by
 have hw:∀k,k≠l->(w.putObj l o).heap[k]? =w.heap[k]? :=fun k hk=>World.putObj_heap_other hk;refine⟨⟨hs.frm.os,hs.frm.tape,hs.frm.output,by rw[World.putObj_size];exact hs.frm.size,fun k hk hno=> ?_⟩,hs.st0,fun k hk=>by rw[World.putObj_size];exact hs.st1 k hk,hs.ow,fun r b hb=> ?_,hs.sep⟩
 ·rw[hw k (fun e=>by subst e;rcases h2 with h|h;exact hno h;omega)];exact hs.frm.block k hk hno
 ·obtain⟨v,hv,hok⟩:=hs.ok r b hb;exact⟨v,hv,hok.mono (fun _ h=>h) (fun k hk=>hw k (fun e=>h1 (e▸hk))) (fun k hk=>hw k (fun e=>h3 r b v hb hv (e▸hk))) (r:=r) (fun _ _=>rfl) (.inr rfl)⟩
end Go.Abs
