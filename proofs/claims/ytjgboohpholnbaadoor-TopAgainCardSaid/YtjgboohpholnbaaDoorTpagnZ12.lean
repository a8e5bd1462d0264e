/- Part 12 of the proof: AbsW. -/
import Derived.Test.YtjgboohpholnbaaDoorTpagnZ11
import Derived.RangeFuncNested
namespace Go.Abs
open Go
theorem wpIn_n {ro:Option Nat} {n m:Nat} {P:Program} {c:Code} {Q:Exit→Act→World→Prop} {a:Act} {w:World} (h:c.wpIn (iE ro) n P Q a w):c.wpIn (iE ro) m P Q a w:=
 fun b k cs h1 h2 _=>h b k cs h1 h2 (fun _ hd=>by cases hd)
theorem eG {ids:List Nat}:∀{t:List (Nat×V)},t.all (fun p=>V.within ids p.2)=true→∀d,V.within ids (cF t d)=true
 |[],_,d=>by simp[cF,V.within]
 |(k,v)::t,h,d=>by
  rw[List.all_cons,Bool.and_eq_true]at h
  simp only[cF]
  split
  ·exact h.1
  ·exact eG h.2 d
theorem dG.zero {P:Program} {y:Nat} {ids:List Nat} {C:YC} {bk:List Nat} {h0:aG} {args:List V} {k:Nat} {h1:aG} (h:dG P y ids C bk h0 args k h1) (hk:k=0):dG P y ids C bk h0 args 0 h1:=hk▸h
theorem BLe.yldEq {o:Option (List Nat×YC)} {k k':Nat} (h:k=k'):BLe (.yld o k) (.yld o k'):=h▸BLe.refl _
theorem rC {k:Nat} (hk:¬k=0):V.bool false=V.bool (k==0):=by
 have:(k==0)=false:=by simpa using hk
 rw[this]
theorem xE :∀(l:List (Nat×Value)) (arr:Array Value),(l.map (·.1)).Nodup→(∀p,p∈l→p.1<arr.size)→
  (∀p,p∈l→(l.foldl (fun t (p:Nat×Value)=>t.setIfInBounds p.1 p.2) arr).getD p.1 undef=p.2)∧(∀d,d∉l.map (·.1)→(l.foldl (fun t (p:Nat×Value)=>t.setIfInBounds p.1 p.2) arr).getD d undef=arr.getD d undef)∧
   (l.foldl (fun t (p:Nat×Value)=>t.setIfInBounds p.1 p.2) arr).size=arr.size
 |[],arr,_,_=>⟨by simp,by simp,rfl⟩
 |q::l,arr,hn,hb=>by
  rw[List.map_cons,List.nodup_cons]at hn
  obtain⟨h1,h2,h3⟩:=xE l (arr.setIfInBounds q.1 q.2) hn.2 (fun p hp=>by simpa using hb p (List.mem_cons_of_mem _ hp))
  refine⟨fun p hp=> ?_,fun d hd=> ?_,by rw[List.foldl_cons,h3];simp⟩
  ·rcases List.mem_cons.1 hp with rfl|hp
   ·rw[List.foldl_cons,h2 _ hn.1]
    have:=hb p (List.mem_cons_self ..)
    simp[this]
   ·rw[List.foldl_cons];exact h1 p hp
  ·rw[List.map_cons,List.mem_cons,not_or]at hd
   rw[List.foldl_cons,h2 d hd.2]
   simp only[Array.getD_eq_getD_getElem?]
   rw[Array.getElem?_setIfInBounds_ne (Ne.symm hd.1)]
theorem wH :∀(ps:List Nat) (args:List V) (d:Nat),ps.length=args.length→cF (ps.zip args) d=match ps.idxOf? d with|some i=>args.getD i .any|none=> .any
 |[],[],d,_=>by simp[cF]
 |[],_::_,_,h=>by simp at h
 |_::_,[],_,h=>by simp at h
 |p::ps,a::args,d,h=>by
  simp only[List.zip_cons_cons,cF,List.idxOf?_cons]
  by_cases e:p=d
  ·subst e;simp
  ·have ih:=wH ps args d (by simpa using h)
   rw[if_neg e,ih]
   have:(p==d)=false:=by simpa using e
   rw[this]
   cases ps.idxOf? d<;>simp
def YQ (bk:List Nat) (h1:aG) (k:Nat) (jumps:List Code):Exit→S→Prop:=fun e s=>∃s',Le s s'∧s'.h=h1∧s'.b=bk∧
 ((e= .normal∧k=0)∨∃j c,k=j+2∧jumps[j]? =some c∧((e= .ret∧c= .ret)∨∃id,e= .exit id∧c= .exit id))
theorem vI {l:List Nat} (h:l.Nodup) {i:Nat} (hi:i<l.length):l.idxOf? l[i]=some i:=by
 induction l generalizing i with
 |nil=>simp at hi
 |cons a l ih=>
  rw[List.nodup_cons]at h;rw[List.idxOf?_cons]
  cases i with
  |zero=>simp
  |succ i=>
   have hi':i<l.length:=by simpa using hi
   have hne:(a==(a::l)[i+1])=false:=by
    simp only[List.getElem_cons_succ,beq_eq_false_iff_ne];intro e;exact h.1 (e▸List.getElem_mem hi')
   rw[hne];simp[ih h.2 hi']
theorem dG.body {P:Program} {y:Nat} {ids:List Nat} {C:YC} {bk:List Nat} {h0:aG} {args:List V} {k:Nat} {h1:aG} (o:Nat)
  (hps:args.length=C.ps.size) (hnd:C.ps.toList.Nodup) (hpb:∀p,p∈C.ps.toList→p<C.N) (hwt:∀d,V.within ids (cF C.t d)=true) (hidb:ids.all bk.contains=true)
  (hyh:h0.get y=none) (hy1:(cE h1).contains y=false) (hw1:aG.within (cE h1) h1=true)
  (h:AWp P C.assign (fun e s=>e= .normal∧s.b=bk∧AWp P C.body (YQ bk h1 k C.jumps) s) ⟨C.N,C.ps.toList.zip args++C.t,h0,bk,o⟩):dG P y ids C bk h0 args k h1:=by
 refine⟨hps,fun ro z vals l r hW hgy hl hvs hvr=> ?_⟩;obtain⟨u,hgu,l',r',hu,hl',hyo⟩:=hW.ok y (.yld (some (ids,C)) 0) (by simp[aG.get]);rw[hgy]at hgu;cases hgu;cases hu;rw[hl]at hl';cases hl';obtain⟨i1,i2,i3,i4,i5,i5',i6,i7,i8,i9⟩:=hyo;have hlsz:l<z.w.heap.size:=(Array.getElem?_eq_some_iff.1 hl).1;have hyget:aG.get ((y,Blk.yld (some (ids,C)) 0)::h0) y=some (.yld (some (ids,C)) 0):=by simp[aG.get]
 have hget0:∀r b,h0.get r=some b→aG.get ((y,Blk.yld (some (ids,C)) 0)::h0) r=some b∧y≠r:=by
  intro q b hb;have hne:y≠q:=fun e=>by subst e;rw[hyh]at hb;cases hb
  exact⟨by simp[aG.get,hne,hb],hne⟩
 have hlSt:¬z.St l:=(hW.ow y _ _ hyget hgy l rfl).1;have hlOwn:z.Own l∨z.w.heap.size≤l:=(hW.ow y _ _ hyget hgy l rfl).2;rw[i3,i4];refine roundIn_of_wpIn (F:=iE ro) trivial ?_
 -- the assignment
 let zA:Start:=⟨z.w,fun k=>z.St k∨k=l,fun k=>∃r b v,h0.get r=some b∧z.g r=some v∧bK v k,z.g,some l⟩
 have hnOA:¬zA.Own l:=by
  rintro⟨q,b,v,h1,h2,h3⟩;obtain⟨h4,h5⟩:=hget0 q b h1;exact hW.sep y q _ b _ v hyget h4 hgy h2 h5 l rfl h3
 have hWA0:WSim zA zA.St zA.g h0 z.w:=by
  refine⟨Frm.refl _ _,fun _ h=>h,fun k hk=>⟨?_,.inl hk⟩,fun q b v h1 h2 k h3=>⟨?_,.inl ⟨q,b,v,h1,h2,h3⟩⟩,fun q b h1=> ?_,fun q q' b b' v v' h1 h1' h2 h2'=> ?_⟩
  ·rcases hk with hk|rfl
   ·exact(hW.st1 k hk).1
   ·exact hlsz
  ·obtain⟨h4,_⟩:=hget0 q b h1;rintro(h5|rfl)
   ·exact(hW.ow q b v h4 h2 k h3).1 h5
   ·exact hnOA ⟨q,b,v,h1,h2,h3⟩
  ·obtain⟨h4,_⟩:=hget0 q b h1;obtain⟨v,h2,h3⟩:=hW.ok q b h4;exact⟨v,h2,h3.mono (fun _ hk=> .inl hk) (fun _ _=>rfl) (fun _ _=>rfl) (r:=q) (fun _ _=>rfl) (.inr rfl)⟩
  ·exact hW.sep q q' b b' v v' (hget0 q b h1).1 (hget0 q' b' h1').1 h2 h2'
 have hvps:vals.size=C.ps.size:=hvs.trans hps
 have hfold:(r.params.zip vals).foldl (fun tmps (t,a)=>tmps.setIfInBounds t a) r.tmps=((C.ps.toList.zip vals.toList).foldl (fun t (p:Nat×Value)=>t.setIfInBounds p.1 p.2) r.tmps):=by
  rw[i2,←Array.foldl_toList,Array.toList_zip]
 have hkeys:(C.ps.toList.zip vals.toList).map (·.1)=C.ps.toList:=by
  rw[List.map_fst_zip];simp;omega
 obtain ⟨f1, f2, f3⟩ := xE (C.ps.toList.zip vals.toList) r.tmps (by rw [hkeys]; exact hnd) (fun p hp=>by
  rw[i7];exact hpb p.1 (List.of_mem_zip hp).1)
 have hTA:dH zA.St z.w zA.g C.N (C.ps.toList.zip args++C.t) {tmps:=(r.params.zip vals).foldl (fun tmps (t,a)=>tmps.setIfInBounds t a) r.tmps,defers:=[]}:=by
  rw[hfold];refine⟨⟨trivial,by rw[f3,i7];exact i8⟩,by rw[f3,i7],fun d=> ?_⟩;have hzl:C.ps.toList.length=args.length:=by simp[hps]
  have hzk:(C.ps.toList.zip args).map (·.1)=C.ps.toList:=by rw[List.map_fst_zip];omega
  rw[iX,hzk];by_cases hd:d∈C.ps.toList
  ·rw[if_pos hd];obtain⟨i,hi,rfl⟩:=List.getElem_of_mem hd;rw[wH _ _ _ hzl,vI hnd hi];have hdN:C.ps.toList[i]<G0:=Nat.lt_of_lt_of_le (hpb _ hd) i8;rw[pV,if_pos hdN];have hiv:i<vals.size:=by simp at hi;omega
   have := f1 (C.ps.toList[i], vals[i]) (by
    rw[List.mem_iff_getElem];exact⟨i,by simp at hi⊢;omega,by simp⟩)
   dsimp only at this⊢;rw[this];have h5:=(hvr i (by omega)).mono (St':=zA.St) (fun _ hk=> .inl hk) (fun _ _=>rfl);simpa[hiv]using h5
  ·rw[if_neg hd];have h5:=(((i9 d).within (g':=z.g) (fun i hi=>i1 i hi) (hwt d)).mono (St':=zA.St) (fun _ hk=> .inl hk) (fun _ _=>rfl));unfold pV at h5⊢;split
   ·rename_i hlt;rw[if_pos hlt]at h5;dsimp only at h5⊢;rw[f2 d (by rw[hkeys];exact hd)];exact h5
   ·rename_i hlt;rw[if_neg hlt]at h5;exact h5
 have hsA:Sim zA ⟨C.N,C.ps.toList.zip args++C.t,h0,bk,o⟩ {tmps:=(r.params.zip vals).foldl (fun tmps (t,a)=>tmps.setIfInBounds t a) r.tmps,defers:=[]} z.w:=
  ⟨zA.St,zA.g,hWA0,hTA,⟨fun _ _=>rfl,⟨[],.nil,rfl,fun D hD=>by cases hD⟩,fun q hq=>(by cases hq;exact⟨.inr rfl,r,hl⟩),fun _=>rfl⟩⟩
 refine wpIn_mono (wpIn_n (n:=1) (h zA _ _ hsA)) fun e a1 w1 ⟨s1,⟨he,hsb,hB⟩,hsim⟩=> ?_;subst he;obtain⟨St1,g1,hWA,hT1,hK1⟩:=hsim;have hSt1l:St1 l:=hWA.st0 l (.inr rfl);have hw1l:w1.heap[l]? =some (.loop r):=by rw[hWA.frm.block l hlsz hnOA];exact hl
 refine⟨w1.putObj l (.loop {r with state:= .busy}),run_beginRound hw1l (i5 rfl).1, ?_⟩
 -- the body
 let w2:World:=w1.putObj l (.loop {r with state:= .busy})
 have hlsz1:l<w1.heap.size:=(Array.getElem?_eq_some_iff.1 hw1l).1;have hw2:∀k,k≠l→w2.heap[k]? =w1.heap[k]? :=fun k hk=>World.putObj_heap_other hk;let zB:Start:=⟨w2,St1,fun k=>∃r b v,s1.h.get r=some b∧g1 r=some v∧bK v k,g1,some l⟩
 have hownl:∀q b v k,s1.h.get q=some b→g1 q=some v→bK v k→k≠l:=fun q b v k h1 h2 h3 e=>(hWA.ow q b v h1 h2 k h3).1 (e▸hSt1l);have hcutS:∀k,St1 k→kY w1 k→(fun k=>St1 k∧k≠l) k:=fun k hk hd=>⟨hk,fun e=>qG hd r (e▸hw1l)⟩
 have hWB0:WSim zB St1 g1 s1.h w2:=by
  refine⟨Frm.refl _ _,fun _ h=>h,fun k hk=>⟨?_,.inl hk⟩,fun q b v h1 h2 k h3=>⟨(hWA.ow q b v h1 h2 k h3).1,.inl ⟨q,b,v,h1,h2,h3⟩⟩,fun q b h1=> ?_,hWA.sep⟩
  ·show k<w2.heap.size;rw[show w2.heap.size=w1.heap.size from World.putObj_size];exact(hWA.st1 k hk).1
  ·obtain⟨v,h2,h3⟩:=hWA.ok q b h1;refine⟨v,h2, ?_⟩;have h4:=h3.cut (St':=fun k=>St1 k∧k≠l) (w':=w2) hcutS (fun k hk=>hw2 k hk.2) fun k hk=>hw2 k (hownl q b v k h1 h2 hk);exact h4.mono (fun _ hk=>hk.1) (fun _ _=>rfl) (fun _ _=>rfl) (r:=q) (fun _ _=>rfl) (.inr rfl)
 have hsB:Sim zB s1 a1 w2:=by
  refine⟨St1,g1,hWB0,⟨hT1.1,hT1.2.1,fun d=> ?_⟩,⟨fun _ _=>rfl,⟨[],.nil,hK1.rd rfl,fun D hD=>by cases hD⟩,fun q hq=> ?_,fun _=>hK1.rd rfl⟩⟩
  ·exact((hT1.2.2 d).cut (St':=fun k=>St1 k∧k≠l) (w':=w2) hcutS (fun k hk=>hw2 k hk.2)).mono (fun _ hk=>hk.1) (fun _ _=>rfl)
  ·cases hq;exact⟨hSt1l,_,World.putObj_heap_same hlsz1⟩
 refine wpIn_mono (wpIn_n (n:=1) (hB zB _ _ hsB)) fun e a3 w3 ⟨s3,⟨s4,hle,hs4h,hs4b,hend⟩,hsim3⟩=> ?_;obtain⟨St3,g3,hWB,_,hK3⟩:=hle _ _ _ hsim3;rw[hs4h]at hWB
 have hnOB:¬zB.Own l:=by
  rintro⟨q,b,v,h1,h2,h3⟩;exact hownl q b v l h1 h2 h3 rfl
 have hw3l:w3.heap[l]? =some (.loop {r with state:= .busy}):=by
  rw[hWB.frm.block l (by show l<w2.heap.size;rw[show w2.heap.size=w1.heap.size from World.putObj_size];exact hlsz1) hnOB];exact World.putObj_heap_same hlsz1
 have fin:∀(r4:Loop),r4.params=r.params→r4.assign=r.assign→r4.body=r.body→r4.tmps=r.tmps→(k=0→r4.state= .ready∧r4.pending=none)→(k=1→r4.state= .busy)→(∀j,k=j+2→r4.state= .done∧r4.pending=C.jumps[j]?)→
   ∃St' g',WSim z St' g' ((y,.yld (some (ids,C)) k)::h1) (w3.putObj l (.loop r4))∧∀i,i∈y::bk→g' i=z.g i:=by
  intro r4 e1 e2 e3 e4 e5 e5' e6;let w4:World:=w3.putObj l (.loop r4)
  have hw4:∀k,k≠l→w4.heap[k]? =w3.heap[k]? :=fun k hk=>World.putObj_heap_other hk;have hlsz3:l<w3.heap.size:=(Array.getElem?_eq_some_iff.1 hw3l).1;let g4:Gh:=fun i=>if i=y then z.g y else g3 i
  let St4:Nat→Prop:=fun k=>St3 k∧k≠l
  have hsz1:z.w.heap.size≤w1.heap.size:=hWA.frm.size;have hsz2:w2.heap.size=w1.heap.size:=World.putObj_size;have hsz3:w2.heap.size≤w3.heap.size:=hWB.frm.size;have hsz4:w4.heap.size=w3.heap.size:=World.putObj_size
  have hOA:∀k,zA.Own k→z.Own k∨z.w.heap.size≤k:=by
   rintro k ⟨q,b,v,h1,h2,h3⟩;exact(hW.ow q b v (hget0 q b h1).1 h2 k h3).2
  have hOB:∀k,zB.Own k→z.Own k∨z.w.heap.size≤k:=by
   rintro k ⟨q,b,v,h1,h2,h3⟩;rcases(hWA.ow q b v h1 h2 k h3).2 with h4|h4
   ·exact hOA k h4
   ·exact .inr h4
  have hOBn:∀k,zB.Own k→¬St1 k:=by
   rintro k ⟨q,b,v,h1,h2,h3⟩;exact(hWA.ow q b v h1 h2 k h3).1
  have hOAn:∀k,zA.Own k→¬z.St k:=by
   rintro k ⟨q,b,v,h1,h2,h3⟩;exact(hW.ow q b v (hget0 q b h1).1 h2 k h3).1
  have hheap:∀k,k<z.w.heap.size→k≠l→¬zA.Own k→¬zB.Own k→w4.heap[k]? =z.w.heap[k]? :=by
   intro k hk hkl h1 h2;rw[hw4 k hkl,hWB.frm.block k (by show k<w2.heap.size;omega) h2,hw2 k hkl,hWA.frm.block k hk h1]
  have hStl:∀k,z.St k→k≠l:=fun k hk e=>hlSt (e▸hk);have hSt4:∀k,z.St k→St4 k:=fun k hk=>⟨hWB.st0 k (hWA.st0 k (.inl hk)),hStl k hk⟩
  have hStw:∀k,z.St k→w4.heap[k]? =z.w.heap[k]? :=fun k hk=>
   hheap k (hW.st1 k hk).1 (hStl k hk) (fun h=>hOAn k h hk) (fun h=>hOBn k h (hWA.st0 k (.inl hk)))
  have hcut4:∀k,St3 k→kY w3 k→St4 k:=fun k hk hd=>⟨hk,fun e=>qG hd _ (e▸hw3l)⟩;have hyn:y∉cE h1:=by simpa using hy1
  have hg4:∀i,i∈cE h1→g4 i=g3 i:=fun i hi=>by
   have:i≠y:=fun e=>hyn (e▸hi);simp[g4,this]
  have hownB:∀q b v k,h1.get q=some b→g3 q=some v→bK v k→k≠l:=by
   intro q b v k h5 h6 h7 e;subst e;rcases(hWB.ow q b v h5 h6 _ h7).2 with h8|h8
   ·exact hnOB h8
   ·have:w2.heap.size≤k:=h8;omega
  have hkeep:∀i,i∈y::bk→g4 i=z.g i:=by
   intro i hi;by_cases e:i=y
   ·subst e;simp[g4]
   ·have hi':i∈bk:=by simpa[e]using hi
    have h5:g3 i=g1 i:=hK3.keep i (by rw[hs4b];exact hi');have h6:g1 i=z.g i:=hK1.keep i (by rw[hsb];exact hi');simp[g4,e,h5,h6]
  have hgetq:∀q b,aG.get ((y,Blk.yld (some (ids,C)) k)::h1) q=some b→q≠y→h1.get q=some b:=by
   intro q b hb hne;simpa[aG.get,Ne.symm hne]using hb
  refine⟨St4,g4,⟨⟨hWB.frm.os.trans hWA.frm.os|>.trans hW.frm.os,hWB.frm.tape.trans hWA.frm.tape|>.trans hW.frm.tape,hWB.frm.output.trans hWA.frm.output|>.trans hW.frm.output,by show _≤w4.heap.size;omega,fun k hk hno=> ?_⟩,hSt4,fun k hk=>⟨?_, ?_⟩,fun q b v h5 h6 q2 h7=> ?_,fun q b h5=> ?_,fun q q' b b' v v' h5 h5' h6 h6' hne q2 h7 h8=> ?_⟩,hkeep⟩
  ·refine hheap k hk (fun e=> ?_) (fun h=> ?_) (fun h=> ?_)
   ·subst e;rcases hlOwn with h|h
    ·exact hno h
    ·omega
   ·rcases hOA k h with h|h
    ·exact hno h
    ·omega
   ·rcases hOB k h with h|h
    ·exact hno h
    ·omega
  ·show k<w4.heap.size;rw[hsz4];exact(hWB.st1 k hk.1).1
  ·rcases(hWB.st1 k hk.1).2 with h5|h5|h5
   ·rcases(hWA.st1 k h5).2 with(h6|h6)|h6|h6
    ·exact .inl h6
    ·exact absurd h6 hk.2
    ·exact .inr (hOA k h6)
    ·exact .inr (.inr h6)
   ·exact .inr (hOB k h5)
   ·have:w2.heap.size≤k:=h5;exact .inr (.inr (by omega))
  ·by_cases e:q=y
   ·subst e;have h9:g4 q=z.g q:=by simp[g4]
    rw[h9,hgy]at h6;cases h6;simp[bK,bC]at h7;subst h7;exact⟨fun h=>h.2 rfl,hlOwn⟩
   ·have h10:=hgetq q b h5 e;have h9:g4 q=g3 q:=hg4 q (aG.get_mem h10);rw[h9]at h6;have h11:=hWB.ow q b v h10 h6 q2 h7;refine⟨fun h=>h11.1 h.1, ?_⟩;rcases h11.2 with h12|h12
    ·exact hOB q2 h12
    ·have:w2.heap.size≤q2:=h12;exact .inr (by omega)
  ·by_cases e:q=y
   ·subst e;have h9:g4 q=z.g q:=by simp[g4]
    have h10:b= .yld (some (ids,C)) k:=by simpa[aG.get]using h5.symm
    subst h10;refine⟨_,h9.trans hgy,l,r4,rfl,World.putObj_heap_same hlsz3,⟨fun i hi=> ?_,e1.trans i2,e2.trans i3,e3.trans i4,e5,e5',e6,by rw[e4];exact i7,i8,fun d=> ?_⟩⟩
    ·rw[hkeep i (List.mem_cons_of_mem _ (by simpa using List.all_eq_true.1 hidb i hi))];exact i1 i hi
    ·rw[e4];exact(i9 d).mono hSt4 hStw
   ·have h10:=hgetq q b h5 e;obtain⟨v,h11,h12⟩:=hWB.ok q b h10;refine⟨v,(hg4 q (aG.get_mem h10)).trans h11, ?_⟩;have h13:=h12.cut (St':=St4) (w':=w4) hcut4 (fun k hk=>hw4 k hk.2) fun k hk=>hw4 k (hownB q b v k h10 h11 hk);exact h13.ghost hg4 (aG.within_get hw1 h10)
  ·by_cases e:q=y
   ·subst e;have h9:g4 q=z.g q:=by simp[g4]
    rw[h9,hgy]at h6;cases h6;simp[bK,bC]at h7;subst h7;have h10:=hgetq q' b' h5' (Ne.symm hne);have h11:g4 q'=g3 q':=hg4 q' (aG.get_mem h10);rw[h11]at h6';exact hownB q' b' v' l h10 h6' h8 rfl
   ·have h10:=hgetq q b h5 e;have h11:g4 q=g3 q:=hg4 q (aG.get_mem h10);rw[h11]at h6;by_cases e':q'=y
    ·subst e';have h9:g4 q'=z.g q':=by simp[g4]
     rw[h9,hgy]at h6';cases h6';simp[bK,bC]at h8;exact hownB q b v q2 h10 h6 h7 h8.symm
    ·have h10':=hgetq q' b' h5' e';have h11':g4 q'=g3 q':=hg4 q' (aG.get_mem h10');rw[h11']at h6';exact hWB.sep q q' b b' v v' h10 h10' h6 h6' hne q2 h7 h8
 rcases hend with⟨rfl,hk0⟩|⟨j,c,hkj,hc,⟨rfl,rfl⟩|⟨id,rfl,rfl⟩⟩
 ·obtain⟨St',g',h5,h6⟩:=fin {r with state:= .ready,pending:=none} rfl rfl rfl rfl (fun _=>⟨rfl,rfl⟩) (fun h=>by omega) (fun j h=>by omega);exact⟨_,_,run_endRound none hw3l,St',g',by subst hk0;rfl,h5,h6⟩
 ·obtain ⟨St', g', h5, h6⟩ := fin { r with state := .done, pending := some .ret } rfl rfl rfl rfl (fun h => by omega) (fun h => by omega) (fun j' h=>by
   have:j'=j:=by omega
   subst this;exact⟨rfl,hc.symm⟩)
  exact⟨_,_,run_endRound (some .ret) hw3l,St',g',by subst hkj;rfl,h5,h6⟩
 ·obtain ⟨St', g', h5, h6⟩ := fin { r with state := .done, pending := some (.exit id) } rfl rfl rfl rfl (fun h => by omega) (fun h => by omega) (fun j' h=>by
   have:j'=j:=by omega
   subst this;exact⟨rfl,hc.symm⟩)
  exact⟨_,_,run_endRound (some (.exit id)) hw3l,St',g',by subst hkj;rfl,h5,h6⟩
theorem WSim.off {z:Start} {St:Nat→Prop} {g:Gh} {h:aG} {w:World} (hs:WSim z St g h w) {l:Nat} {o:Obj} (h1:¬St l) (h2:z.Own l∨z.w.heap.size≤l) (h3:∀r b v,h.get r=some b→g r=some v→¬bK v l):WSim z St g h (w.putObj l o):=by
 have hw:∀k,k≠l→(w.putObj l o).heap[k]? =w.heap[k]? :=fun k hk=>World.putObj_heap_other hk;refine⟨⟨hs.frm.os,hs.frm.tape,hs.frm.output,by rw[World.putObj_size];exact hs.frm.size,fun k hk hno=> ?_⟩,hs.st0,fun k hk=>by rw[World.putObj_size];exact hs.st1 k hk,hs.ow,fun r b hb=> ?_,hs.sep⟩
 ·rw[hw k (fun e=>by subst e;rcases h2 with h|h;exact hno h;omega)];exact hs.frm.block k hk hno
 ·obtain⟨v,hv,hok⟩:=hs.ok r b hb;exact⟨v,hv,hok.mono (fun _ h=>h) (fun k hk=>hw k (fun e=>h1 (e▸hk))) (fun k hk=>hw k (fun e=>h3 r b v hb hv (e▸hk))) (r:=r) (fun _ _=>rfl) (.inr rfl)⟩
theorem qX {P:Program} {w:World} (fn:FuncId) (tmps:Array Value) (ps:Array Tmp) (assign body:Code) (ro:Option Nat) (hro:∀l,ro=some l→∃r,w.heap[l]? =some (.loop r)):
  ∃l mark w1 lp,(Instr.enterLoop fn tmps ps assign body ro).run P w= .ok (l,mark) w1∧w1.heap[l]? =some (.loop lp)∧lp.state= .ready∧lp.pending=none∧lp.tmps=tmps∧lp.params=ps∧lp.assign=assign∧lp.body=body∧
   w1.os=w.os∧w1.tape=w.tape∧w1.output=w.output∧(∀k,k<w.heap.size→w1.heap[k]? =w.heap[k]?)∧w.heap.size≤l∧l<w1.heap.size∧w.heap.size≤w1.heap.size∧
   ((mark=[]∧ro≠none)∨∃D,mark=[yU D]∧w.heap.size≤D∧D<w1.heap.size∧D≠l∧w1.heap[D]? =some (.deferred (some []))∧ro=none):=by
 cases ro with
 |none=>
  refine⟨_,_,_,{state:= .ready,pending:=none,fn,tmps,params:=ps,assign,body,defers:=w.heap.size},run_enterLoop_outer fn tmps ps assign body, ?_,rfl,rfl,rfl,rfl,rfl,rfl,rfl,rfl,rfl,fun k hk=> ?_,by omega,by simp,by simp;omega,.inr ⟨w.heap.size,rfl,Nat.le_refl _,by simp;omega,by omega, ?_,rfl⟩⟩
  ·have:=World.alloc_heap_new (w.alloc (.deferred (some []))) (.loop {state:= .ready,pending:=none,fn,tmps,params:=ps,assign,body,defers:=w.heap.size});simpa using this
  ·have h1:k<(w.alloc (.deferred (some []))).heap.size:=by simp;omega
   show((w.heap.push _).push _)[k]? =_;rw[Array.getElem?_push_lt (by simp;omega),Array.getElem_push_lt hk,Array.getElem?_eq_getElem hk]
  ·show((w.heap.push _).push _)[w.heap.size]? =_;rw[Array.getElem?_push_lt (by simp)]
   simp
 |some l0=>
  obtain⟨r0,hr0⟩:=hro l0 rfl;refine⟨_,_,_,{state:= .ready,pending:=none,fn,tmps,params:=ps,assign,body,defers:=r0.defers},run_enterLoop_inner hr0 fn tmps ps assign body,World.alloc_heap_new _ _,rfl,rfl,rfl,rfl,rfl,rfl,rfl,rfl,rfl,fun k hk=> ?_,Nat.le_refl _,by simp,by simp,.inl ⟨rfl,by simp⟩⟩;show(w.heap.push _)[k]? =_;rw[Array.getElem?_push_lt hk,Array.getElem?_eq_getElem hk]
theorem wA {h:aG} {ids:List Nat} {r:Nat} {b:Blk} (hb:(kA h ids).get r=some b):h.get r=some b:=by
 unfold kA at hb;have hm:=hC hb;rw[List.mem_filterMap]at hm;obtain⟨r',_,hr'⟩:=hm;split at hr'
 ·rename_i b' hb';cases hr';exact hb'
 ·cases hr'
theorem AWp.rangeFunc {P:Program} {Q:Exit→S→Prop} {s:S} {g:Operand} {ps:Array Tmp} {assign body:Code} (y:Nat) (ids ds:List Nat) (jumps:List Code) (fid:FuncId) (caps:List V) (cc:CC) (k:Nat) (h1':aG) (s':S)
  (hg:raw s.t g= .fn (.func fid) caps) (hcb:jX P fid=true)
  (hyB:((s.h.get y).isNone&& !s.b.contains y&&kU y s.t&&aG.fresh y s.h&& !ids.contains y&&V.freshAll y caps&&(h1'.get y).isNone&& !cc.nw.contains y&& !cc.take.contains y&& !cc.lent.contains y)=true)
  (hcall:∀g0,jY P true fid (cc.gl.map fun k=>(k,cF s.t (G0+k))) cc.keep ((y,.yld (some (ids,⟨s.N,ds.map (fun d=>(d,cF s.t d)),ps,assign,body,jumps,g0⟩)) 0)::kA s.h cc.take) (kA s.h cc.lent) cc.lent (.own y::caps) cc.args cc.r
   ((y,.yld (some (ids,⟨s.N,ds.map (fun d=>(d,cF s.t d)),ps,assign,body,jumps,g0⟩)) k)::h1'))
  (hob:∀C,outB (y::s.b) ((y,.yld (some (ids,C)) k)::h1') cc.nw cc.r=true)
  (hlent:cc.lent.all (fun r=>((kA s.h cc.take).get r).isNone&&(match(kA s.h cc.lent).get r with|some (.rows _ _ _ _)=>true|_=>false))=true)
  (hnw:(cE h1').all (fun k=>cc.nw.contains k||cc.keep.contains k)=true) (hyk:cc.keep.contains y=true)
  (hpre:(cE h1').all (fun k=>(cE (kA s.h cc.take)).contains k||(s.h.get k).isNone)=true) (hk:k≠1)
  (hs':s'=⟨s.N,iY cc.nw s.t,h1'++iH cc.nw (dels (cE (kA s.h cc.take)) s.h),s.b,s.o⟩)
  (h0:k=0→Q .normal s') (hj:∀j,k=j+2→∃c,jumps[j]? =some c∧AWp P c Q s'):AWp P (.rangeFunc g ps assign body) Q s:=by
 rintro z a w ⟨St,gh,hW,hT,hKp⟩;simp only[Bool.and_eq_true,Bool.not_eq_true',Option.isNone_iff_eq_none,List.contains_eq_mem,decide_eq_false_iff_not]at hyB;obtain⟨⟨⟨⟨⟨⟨⟨⟨⟨hyh,hyb⟩,hyt⟩,hyfh⟩,hyi⟩,hyc⟩,hyh1⟩,hynw⟩,hytk⟩,hyln⟩:=hyB;have hgr:=gH hT g;rw[hg]at hgr;generalize hgv:a.eval g=gv at hgr
 cases hgr with
 |fn _ _ _ cvs hcl hcr=>
 refine wpIn_rangeFunc fun fn _=> ?_;obtain⟨l,mark,w1,lp,hent,hl,hlp1,hlp2,hlp3,hlp4,hlp5,hlp6,ho1,ho2,ho3,hold,hlge,hllt,hszle,hmark⟩:=qX (P:=P) (w:=w) fn a.tmps ps assign body z.ro (fun l hl=>(hKp.rcd l hl).2);refine⟨l,mark,w1,⟨.fn (.func fid) cvs, #[.func (.yield l) #[] #[]]⟩,w1,fid, #[.func (.yield l) #[] #[]]++cvs,w1,hent, ?_,fun _ _=>trivial, ?_,fun h=>(by cases h), ?_⟩
 ·simp[resolve,hgv,Deferred.ofValue];rfl
 ·unfold jX at hcb;split at hcb
  case h_2=>cases hcb
  rename_i fn' hfn;simp only[Bool.and_eq_true,bne_iff_ne,ne_eq]at hcb;have hb:fn'.body.isNone=false:=by cases hb:fn'.body<;>simp_all
  simp only[invoke,callFunc,run_program,hfn,Sem.run_bind,Result.andThen_ok];simp[hcb.1,hb]
 ·refine callsR ?_;let C:YC:=⟨s.N,ds.map (fun d=>(d,cF s.t d)),ps,assign,body,jumps,gh⟩
  let z1:Start:={z with g:=fun i=>if i=y then some (.func (.yield l) #[] #[])else z.g i}
  let g1:Gh:=gh.set y (.func (.yield l) #[] #[])
  let St1:Nat→Prop:=fun q=>St q∨([yU q]=mark)
  let s1:S:=⟨s.N,s.t,(y,.yld (some (ids,C)) 0)::s.h,y::s.b,s.o⟩
  let a1:Act:={a with defers:=mark++a.defers}
  have hStlt:∀q,St q→q<w.heap.size:=fun q hq=>(hW.st1 q hq).1;have hStw:∀q,St q→w1.heap[q]? =w.heap[q]? :=fun q hq=>hold q (hStlt q hq);have hStS:∀q,St q→St1 q:=fun q hq=> .inl hq
  have hmk:∀q,[yU q]=mark→w.heap.size≤q∧q<w1.heap.size∧q≠l∧w1.heap[q]? =some (.deferred (some []))∧z.ro=none:=by
   intro q hq;rcases hmark with⟨h,_⟩|⟨D,h,h2,h3,h4,h5,h6⟩
   ·rw[h]at hq;cases hq
   ·rw[h]at hq;have:q=D:=by simpa[yU]using hq
    subst this;exact⟨h2,h3,h4,h5,h6⟩
  have hne:∀{q b},s.h.get q=some b→q≠y:=fun hb e=>by rw[e,hyh]at hb;cases hb
  have hget1:∀{q b},s.h.get q=some b→s1.h.get q=some b:=by
   intro q b hb;have:=hne hb;simp[s1,aG.get,Ne.symm this,hb]
  have hlow:=own_lt hW
  have hblk1:∀q b v,s.h.get q=some b→gh q=some v→cJ St w gh v b→cJ St1 w1 g1 v b:=fun q b v hb hv h=>
   h.mono hStS hStw (fun k hk=>hold k (hlow q b v k hb hv hk)) (r:=y) (fun k hk=>Gh.set_ne hk) (.inl (aG.fresh_get hyfh hb))
  have hW1:WSim z1 St1 g1 s1.h w1:=by
   refine⟨⟨ho1.trans hW.frm.os,ho2.trans hW.frm.tape,ho3.trans hW.frm.output,Nat.le_trans hW.frm.size hszle,fun q hq hno=>(hold q (Nat.lt_of_lt_of_le hq hW.frm.size)).trans (hW.frm.block q hq hno)⟩,fun q hq=> .inl (hW.st0 q hq), ?_, ?_, ?_, ?_⟩
   ·rintro q (hq|hq)
    ·exact⟨Nat.lt_of_lt_of_le (hStlt q hq) hszle,(hW.st1 q hq).2⟩
    ·have:=hmk q hq;exact⟨this.2.1,.inr (.inr (Nat.le_trans hW.frm.size this.1))⟩
   ·intro q b v hb hv k hk;by_cases e:q=y
    ·subst e;simp[g1,Gh.set]at hv;subst hv;simp[bK,bC]at hk;subst hk;refine⟨?_,.inr (Nat.le_trans hW.frm.size hlge)⟩;rintro(h|h)
     ·have:=hStlt _ h;omega
     ·exact(hmk _ h).2.2.1 rfl
    ·have hb':s.h.get q=some b:=by simpa[s1,aG.get,Ne.symm e]using hb
     have hv':gh q=some v:=by simpa[g1,Gh.set,e]using hv
     have h5:=hW.ow q b v hb' hv' k hk;refine⟨?_,h5.2⟩;rintro(h|h)
     ·exact h5.1 h
     ·have:=(hmk _ h).1;have:=hlow q b v k hb' hv' hk;omega
   ·intro q b hb;by_cases e:q=y
    ·subst e;have hb':b= .yld (some (ids,C)) 0:=by simpa[s1,aG.get]using hb.symm
     subst hb';refine⟨_,by simp[g1,Gh.set],l,lp,rfl,hl,fun i hi=> ?_,hlp4,hlp5,hlp6,fun _=>⟨hlp1,hlp2⟩,fun h=>by omega,fun j h=>by omega,by rw[hlp3];exact hT.2.1,by show s.N≤G0;rw[←hT.2.1];exact hT.1.2,fun d=> ?_⟩
     ·exact Gh.set_ne (fun e=>hyi (e▸hi))
     ·have h5:Rel St w gh (cF (ds.map fun d=>(d,cF s.t d)) d) (pV a d):=by
       rcases mY s.t d ds with h|h<;>rw[h]
       ·exact hT.2.2 d
       ·exact .any _ _
      have h6:pV {tmps:=lp.tmps,defers:=[]} d=pV a d:=by rw[hlp3];rfl
      rw[h6];exact h5.mono hStS hStw
    ·have hb':s.h.get q=some b:=by simpa[s1,aG.get,Ne.symm e]using hb
     obtain⟨v,hv,hok⟩:=hW.ok q b hb';exact⟨v,by simp[g1,Gh.set,e,hv],hblk1 q b v hb' hv hok⟩
   ·intro q q' b b' v v' hb hb' hv hv' hqq k hk hk';by_cases e:q=y
    ·subst e;have hb2:s.h.get q'=some b':=by simpa[s1,aG.get,hqq]using hb'
     have hv2:gh q'=some v':=by simpa[g1,Gh.set,Ne.symm hqq]using hv'
     simp[g1,Gh.set]at hv;subst hv;simp[bK,bC]at hk;subst hk;have:=hlow q' b' v' _ hb2 hv2 hk';omega
    ·have hb1:s.h.get q=some b:=by simpa[s1,aG.get,Ne.symm e]using hb
     have hv1:gh q=some v:=by simpa[g1,Gh.set,e]using hv
     by_cases e':q'=y
     ·subst e';simp[g1,Gh.set]at hv';subst hv';simp[bK,bC]at hk';subst hk';have:=hlow q b v _ hb1 hv1 hk;omega
     ·have hb2:s.h.get q'=some b':=by simpa[s1,aG.get,Ne.symm e']using hb'
      have hv2:gh q'=some v':=by simpa[g1,Gh.set,e']using hv'
      exact hW.sep q q' b b' v v' hb1 hb2 hv1 hv2 hqq k hk hk'
  have hT1:dH St1 w1 g1 s1.N s1.t a1:=⟨hT.1,hT.2.1,fun d=>((hT.2.2 d).rebind (g':=g1) (fun k hk=>Gh.set_ne hk) (kC hyt)).mono hStS hStw⟩
  have hK1:KD z1 St1 w1 g1 s1.b a1:=by
   obtain⟨hk1,⟨dm,hd1,hd2,hd3⟩,hk3,hk4⟩:=hKp;refine⟨fun r hr=> ?_, ?_,fun q hq=> ?_,fun hro=> ?_⟩
   ·by_cases e:r=y
    ·subst e;simp[g1,Gh.set,z1]
    ·have hr':r∈s.b:=by simpa[s1,e]using hr
     simp[g1,Gh.set,z1,e];exact hk1 r hr'
   ·rcases hmark with⟨h,_⟩|⟨D,h,h2,h3,h4,h5,h6⟩
    ·refine⟨dm,hd1,by simp[a1,h,hd2],fun D hD=> ?_⟩;obtain⟨e1,e2,e3⟩:=hd3 D hD;exact⟨hStS D e1,by rw[hStw D e1];exact e2,e3⟩
    ·refine⟨D::dm,List.nodup_cons.2 ⟨fun hD=> ?_,hd1⟩,by simp[a1,h,hd2],fun D' hD'=> ?_⟩
     ·have:=hStlt D (hd3 D hD).1;omega
     ·rcases List.mem_cons.1 hD' with rfl|hD'
      ·exact⟨.inr h.symm,h5,Nat.le_trans hW.frm.size h2⟩
      ·obtain⟨e1,e2,e3⟩:=hd3 D' hD';exact⟨hStS D' e1,by rw[hStw D' e1];exact e2,e3⟩
   ·obtain⟨e1,r,e2⟩:=hk3 q hq;exact⟨hStS q e1,r,by rw[hStw q e1];exact e2⟩
   ·rcases hmark with⟨h,_⟩|⟨D,h,h2,h3,h4,h5,h6⟩
    ·simp[a1,h];exact hk4 hro
    ·have:z.ro.isSome=true:=hro;rw[h6]at this;cases this
  have hids0:∀q,q∈cE (kA s.h cc.take)→q≠y:=by
   intro q hq e;subst e;obtain⟨b,hb⟩:=aG.mem_get hq;exact hne (wA hb) rfl
  refine hO (z:=z1) (s:=s1) (a:=a1) hW1 hT1 hK1 rfl (args:= .own y::caps) (gs:=cc.gl.map fun k=>(k,cF s.t (G0+k))) (bk:=cc.keep) (d:=none) (t0:=[]) (v:=cc.r) (nw:=cc.nw) (hcall gh) ?_ ?_ ?_ (fun k hk=>by cases hk) (fun _ _ _ _ h=>h) (fun _=>rfl) rfl ?_ (hob C) ?_ ?_ fun x w2 hsim=> ?_
  ·exact wU hT1
  ·simp[hcl];omega
  ·intro i hi
   cases i with
   |zero=>
    have e1:(#[Value.func (.yield l) #[] #[]]++cvs).getD 0 undef= .func (.yield l) #[] #[]:=by
     simp[Array.getD_eq_getD_getElem?,Array.getElem?_append]
    rw[e1]
    exact Rel.own (St:=St1) (w:=w1) g1 y (.func (.yield l) #[] #[]) (by simp[g1,Gh.set]) rfl
   |succ i=>
    have hi':i<caps.length:=by simpa using hi
    have h5:=((hcr i hi').rebind (g':=g1) (fun k hk=>Gh.set_ne hk) (V.freshAll_get hyc)).mono hStS hStw
    have e1:(#[Value.func (.yield l) #[] #[]]++cvs).getD (i+1) undef=cvs.getD i undef:=by
     simp only[Array.getD_eq_getD_getElem?,Array.getElem?_append];simp
    rw[e1,List.getD_cons_succ];exact h5
  ·refine⟨by simp,fun p hp=> ?_,fun p hp=> ?_,fun q hq hq0=> ?_⟩
   ·obtain⟨b',h5,h6⟩:=eN s cc.lent p hp;exact⟨b',hget1 h5,h6⟩
   ·rcases List.mem_cons.1 hp with rfl|hp
    ·exact⟨.yld (some (ids,C)) 0,by show aG.get s1.h y=_;simp[s1,aG.get],.refl _⟩
    ·obtain⟨b',h5,h6⟩:=eN s cc.take p hp;exact⟨b',hget1 h5,h6⟩
   ·have hqy:q≠y:=fun e=>hq0 (by rw[e];exact List.mem_cons_self ..)
    have hq1:q∈cE h1':=by
     have:q∈y::cE h1':=hq;simpa[hqy]using this
    have hq2:q∉cE (kA s.h cc.take):=fun h=>hq0 (List.mem_cons_of_mem _ h);have:=List.all_eq_true.1 hpre q hq1;simp only[Bool.or_eq_true,List.contains_eq_mem,decide_eq_true_eq,Option.isNone_iff_eq_none]at this;show aG.get s1.h q=none;simp[s1,aG.get,Ne.symm hqy,this.resolve_left hq2]
  ·rw[List.all_eq_true];intro r hr;have:=List.all_eq_true.1 hlent r hr;rw[Bool.and_eq_true]at this⊢;refine⟨?_,this.2⟩;have hry:y≠r:=fun e=>hyln (e▸hr);simpa[aG.get,hry]using this.1
  ·rw[List.all_eq_true];intro q hq;have:q∈y::cE h1':=hq;rcases List.mem_cons.1 this with rfl|h
   ·rw[hyk];simp
   ·exact List.all_eq_true.1 hnw q h
  ·-- behind the call
   obtain⟨St2,g2,hW2,hT2,hK2⟩:=hsim
   have hyget2:aG.get (eX s1 ⟨none,cc.r,[],kA s.h cc.lent,(y,.yld (some (ids,C)) 0)::kA s.h cc.take,(y,.yld (some (ids,C)) k)::h1',cc.nw⟩).h y=some (.yld (some (ids,C)) k):=by
    simp[eX,aG.get]
   obtain⟨u,hu,l2,r2,hu2,hl2,hyo⟩:=hW2.ok y _ hyget2
   have hg2y:g2 y=some (.func (.yield l) #[] #[]):=by
    have:=hK2.keep y (List.mem_cons_self ..);rw[this];simp[z1]
   rw[hg2y]at hu;cases hu;cases hu2;obtain⟨i1,i2,i3,i4,i5,i5',i6,_⟩:=hyo
   have hbusy:r2.state≠ .busy:=by
    intro e
    match k,hk,i5,i6 with
    |0,_,i5,_=>rw[(i5 rfl).1]at e;cases e
    |1,hk,_,_=>exact hk rfl
    |j+2,_,_,i6=>rw[(i6 j rfl).1]at e;cases e
   have hlo:=hW2.ow y _ _ hyget2 hg2y l rfl
   have hgets:∀q b',s'.h.get q=some b'→∃b,aG.get (eX s1 ⟨none,cc.r,[],kA s.h cc.lent,(y,.yld (some (ids,C)) 0)::kA s.h cc.take,(y,.yld (some (ids,C)) k)::h1',cc.nw⟩).h q=some b∧q≠y∧b=b':=by
    intro q b' hb;rw[hs']at hb;dsimp only at hb
    have hqy:q≠y:=by
     rintro rfl;rw[aG.get_append,hyh1]at hb;dsimp only at hb;rw[nT,hJ]at hb;split at hb
     ·cases hb
     ·rw[hyh]at hb;cases hb
    refine⟨b', ?_,hqy,rfl⟩;show aG.get (((y,Blk.yld (some (ids,C)) k)::h1')++iH cc.nw (dels (cE ((y,.yld (some (ids,C)) 0)::kA s.h cc.take)) s1.h)) q=some b';rw[aG.get_append]at hb⊢;rw[nT,hJ]at hb⊢;have e1:aG.get ((y,Blk.yld (some (ids,C)) k)::h1') q=h1'.get q:=by simp[aG.get,Ne.symm hqy]
    have e2:s1.h.get q=s.h.get q:=by simp[s1,aG.get,Ne.symm hqy]
    have e3:(q∈cE ((y,Blk.yld (some (ids,C)) 0)::kA s.h cc.take))=(q∈cE (kA s.h cc.take)):=by
     show(q∈y::cE (kA s.h cc.take))=_;simp[hqy]
    rw[e1,e2];simp only[e3];exact hb
   have hWf:WSim z1 St2 g2 s'.h (w2.putObj l (.loop {r2 with state:= .exhausted})):=by
    refine WSim.off (hW2.less fun q b' hb=> ?_) hlo.1 hlo.2 fun q b' v hb hv hq=> ?_
    ·obtain⟨b,h5,_,rfl⟩:=hgets q b' hb;exact⟨b,h5,fun _ h=>h⟩
    ·obtain⟨b,h5,h6,rfl⟩:=hgets q b' hb;exact hW2.sep y q _ b _ v hyget2 h5 hg2y hv (Ne.symm h6) l rfl hq
   have hfin:Sim z s' a1 (w2.putObj l (.loop {r2 with state:= .exhausted})):=by
    have hSt2:∀q,St2 q→(w2.putObj l (.loop {r2 with state:= .exhausted})).heap[q]? =w2.heap[q]? :=fun q hq=>World.putObj_heap_other (fun e=>hlo.1 (e▸hq));have hs'n:s'.N=s.N:=by rw[hs']
    have hs't:s'.t=iY cc.nw s.t:=by rw[hs']
    have hs'b:s'.b=s.b:=by rw[hs']
    refine⟨St2,g2,⟨hWf.frm,hWf.st0,hWf.st1,hWf.ow,hWf.ok,hWf.sep⟩, ?_, ?_⟩
    ·rw[hs'n,hs't];exact⟨hT2.1,hT2.2.1,fun d=>(hT2.2.2 d).mono (fun _ h=>h) hSt2⟩
    ·rw[hs'b];obtain⟨hk1,hk2,hk3,hk4⟩:=hK2.to (fun _ h=>h) hSt2 (a':=a1) rfl (fun _ _=>rfl);refine⟨fun r hr=> ?_,hk2,hk3,hk4⟩;have h5:g2 r=z1.g r:=hk1 r (List.mem_cons_of_mem _ hr);have h6:r≠y:=fun e=>hyb (e▸hr);rw[h5];simp[z1,h6]
   have hrun:=run_endLoop (P:=P) hl2 hbusy;obtain⟨wx,hwx⟩:∃wx,wx=w2.putObj l (.loop {r2 with state:= .exhausted}):=⟨_,rfl⟩;rw[←hwx]at hrun hfin
   match k,hk,i5,i6 with
   |0,_,i5,_=>
    rw[(i5 rfl).2]at hrun
    exact⟨none,wx,hrun,s',h0 rfl,hfin⟩
   |1,hk,_,_=>exact absurd rfl hk
   |j+2,_,_,i6=>
    obtain⟨c,hc,hA⟩:=hj j rfl;have e:C.jumps[j]? =some c:=hc;rw[(i6 j rfl).2,e]at hrun;exact⟨some c,wx,hrun,hA z a1 _ hfin⟩
end Go.Abs
