/- Part 25 of the proof: X54R, Pl. -/
import Derived.Test.YtfkhgbcggabkjaaGreatDoorMonrepZ24
namespace Go.Abs
open Go Go.Proofs
set_option maxRecDepth 100000
set_option maxHeartbeats 4000000
theorem f62_ok (x1:List Tq1) (x2:List Tq0) (x3 x4:Int) (x5:aaA) (r:Ty7×Ty5×aaA) (h:f62 x1 x2 x3 x4 x5=some r):aG Tryz.prog 62 [] [] [] [.agg [vL 3 cN (default:Tq1) x1,vL 3 cC (default:Tq0) x2],.agg [.i x3,.i x4,.str x5]] (.tup [.agg [vL 3 cN (default:Tq1) r.1,vL 3 cC (default:Tq0) r.2.1],.str r.2.2]) []:=by
 unfold f62 at h;refine aG.bodyD [4] 0 _ _ Tryz.func62 rfl Tryz.ntmps62 rfl rfl ?_;refine aN [] [] [2,3,4] [2,3,4] trivial ?_;refine aaE (aaE ?_);obtain⟨r6,hr6,h⟩:=bind_ok h;refine aZ [] [(3,⟨[.agg [.i (1:Int),.i (0:Int),bH [(x3,x4,x5)]]],[],[],[],.i r6,[],[15],[]⟩)] [2,3,4,18] [2,3,4] (an1 (cpL (c:=true) [(15,.rows 88 3 1 (dE 3 (gL x3 x4 x5)))] [15] [.agg [.i (1:Int),.i (0:Int),.own 15]] (fun _=>(f64_ok _ _ _ _ hr6)) (fun _=>⟨(.aggs ⟨.refl _,.refl _,(VLe.of (acM (enc:=cC) [(x3,x4,x5)] rfl rfl (fun _=>rfl))),trivial⟩),trivial⟩) (.inr ⟨rfl,trivial⟩))) ?_;refine tN (cK (r6 !=(0:Int)) (fun hc1=> ?_) fun hc1=> ?_)
 ·replace h:=aE hc1 h;refine bC [] [] ⟨131,[(4,.ptr 4 0),(5,.str cs3)],[(4,.cells 92 (fF x1 x2))],[],0⟩ (an1 trivial) ?_;obtain rfl:=aaD h;refine aaH (tR ?_);exact bD
 ·replace h:=aF hc1 h;refine aaG (tN (aaE ?_));obtain⟨r7,hr7,h⟩:=bind_ok h;refine aZ [] [(3,⟨[.agg (fF x1 x2),.i x3],[],[],[],.tup [.agg [.i r7.1,.i r7.2.1,.str r7.2.2.1],.bool r7.2.2.2],[],[],[]⟩)] [2,3,4,6,7] [2,3,4,6] (an2 (cpT (f83_ok _ _ _ _ hr7)) trivial) ?_;refine tN (aaE (aaE (aZ [] [] [2,3,4,6,7,34] [2,3,4,6] (an4 (an1 (idA ((r7.2.2.2==true)=true))) (an1 (idA ((r7.2.2.2==true)=true))) (an2 (idA ((r7.2.2.2==true)=true)) (idA ((r7.2.2.2==true)=true))) (bqA (r7.2.2.2) true)) ?_)));refine tN (cK (r7.2.2.2&&(decide (r7.2.1>x4))) (fun hc2=> ?_) fun hc2=> ?_)
  ·replace h:=aE hc2 h;refine bC [] [] ⟨131,[(4,.ptr 4 0),(5,.str cs4)],[(4,.cells 92 (fF x1 x2))],[],0⟩ (an1 trivial) ?_;obtain rfl:=aaD h;refine aaH (tR ?_);exact bD
  ·replace h:=aF hc2 h;refine aaG (tN (aaE (aaE (aZ [] [] [2,3,4,6,43] [2,3,4,6] (an4 (an1 (idA ((r7.2.2.2==true)=true))) (an1 (idA ((r7.2.2.2==true)=true))) (an2 (idA ((r7.2.2.2==true)=true)) (idA ((r7.2.2.2==true)=true))) (bqA (r7.2.2.2) true)) ?_))));refine tN (cK (r7.2.2.2&&(r7.2.1==x4)) (fun hc3=> ?_) fun hc3=> ?_)
   ·replace h:=aE hc3 h;refine bC [] [] ⟨131,[(4,.ptr 4 0),(5,.str r7.2.2.1)],[(4,.cells 92 (fF x1 x2))],[],0⟩ (an1 trivial) ?_;obtain rfl:=aaD h;refine aaH (tR ?_);exact bD
   ·replace h:=aF hc3 h;refine aaG (tN (aN [] [] [2,3,4,8] [2,3,4,8] (an1 trivial) ?_));refine aN [] [] [2,3,4,8,9] [2,3,4,8] trivial ?_;refine aaE ?_;obtain⟨r8,hr8,h⟩:=bind_ok h;refine bB [] [(2,⟨[.str x5],[],[],[],.tup [.agg (f62z19 r8),.i r8.2.2.2.2],[],[],[]⟩)] ⟨131,[(2,.ptr 2 0),(3,.ptr 3 0),(4,.ptr 4 0),(8,.ptr 8 0),(9,.str cs5),(10,.ptr 10 0),(11,.i r8.2.2.2.2)],[(2,.cells 92 (fF x1 x2)),(3,.cells 88 (gL x3 x4 x5)),(4,.cells 92 [.nils,.nils]),(8,.cells 92 [bA x1,.nils]),(10,.cells 164 (f62z19 r8))],[],0⟩ (an2 (cpT (f84_ok _ _ hr8)) trivial) ?_;refine tN ?_;obtain⟨K1,hK1,h⟩:=aI h;refine aaR (fun(x:aaA×Ty7)=>match x with|(s10,l11)=>⟨131,(aBs s10),(f62z17 x1 x2 x3 x4 x5 l11),[],0⟩) (fun x=>K1 x=some r) ?_ ?_
    ·refine aN [] [] [2,3,4,8,9,10,57] [2,3,4,8,10] trivial ?_;refine cK (r8.2.2.2.2==(0:Int)) (fun hc4=> ?_) fun hc4=> ?_
     ·replace h:=aE hc4 h;obtain⟨r9,hr9,h⟩:=bind_ok h;refine bB [] [(3,⟨[bA x1,.agg (f62z19 r8)],[],[],[(6001,aS r9.2)],.tup [.own 6001,.str r9.1],[6001],[],[]⟩)] ⟨131,(f62z16 r9),[(2,.cells 92 (fF x1 x2)),(3,.cells 88 (gL x3 x4 x5)),(4,.cells 92 [.nils,.nils]),(8,.cells 92 [.own 6001,.nils]),(6001,aS r9.2)],[],0⟩ (an2 (cpT (aG.ren (aV 3000 6001) (aD 3000 6001) rfl (f85_ok _ _ _ _ _ _ hr9))) trivial) ?_;exact jN (r9.1,r9.2) (aaI (aaI (adI 6001 rfl rfl) (LR (s':=⟨131,(f62z16 r9),[(2,.cells 92 (fF x1 x2)),(3,.cells 88 (gL x3 x4 x5)),(4,.cells 92 [.nils,.nils]),(8,.cells 92 [bA r9.2,.nils])],[],0⟩))) LR) h
     ·replace h:=aF hc4 h;refine aaG ?_;exact jN (cs5,x1) LR h
    ·rintro⟨s10,l11⟩ h;replace h:=(congrFun hK1 _).symm.trans h;obtain⟨K2,hK2,h⟩:=aI h;refine aaR (α:=List (lF)) (fun(l15:List (lF))=>⟨131,(aBs s10),[(2,.cells 92 (fF x1 x2)),(3,.cells 88 (gL x3 x4 x5)),(4,.cells 92 [.nils,.nils]),(8,.cells 92 (mL l11)),(6301,bF l15)],[],0⟩) (fun x=>K2 x=some r) ?_ ?_
     ·refine bC [] [] ⟨131,(f62z10 s10),(f62z17 x1 x2 x3 x4 x5 l11),[],0⟩ trivial ?_;refine aaJ (abG (α:=Nat×(Nat×(List (lF)))) (fun x=>match x with|(_,n12,l13)=>⟨131,(f62z4 s10 n12),(f62z7 x1 x2 x3 x4 x5 l11 l13),[],0⟩) (fun x=>mN x2 x3 K2 x.1 x.2=some r) (fun x=>x.1) (aY,0,[]) (aaI (aaI (Le.nilOwnC 8 1 6301 160 3 (bY cC bE []) rfl rfl rfl) (LR (s':=⟨131,(f62z10 s10),[(2,.cells 92 (fF x1 x2)),(3,.cells 88 (gL x3 x4 x5)),(4,.cells 92 [.nils,.nils]),(8,.cells 92 (mL l11)),(6301,bF [])],[],0⟩))) LR) h ?_)
      rintro⟨k0,n12,l13⟩ h
      cases k0 with
      |zero=>exact nEx h
      |succ k0=>
      obtain⟨C0,hC0⟩:∃C,C=mN x2 x3 K2 k0:=⟨_,rfl⟩;replace h:=(mN.eq_2 ..).symm.trans h
      try rw[<-hC0]at h
      refine aaE (aN [] [] [2,3,4,8,9,12,70] [2,3,4,8,6301] trivial ?_);refine cK (decide ((n12:Int)<(lZ x2))) (fun hc5=> ?_) fun hc5=> ?_
      ·replace h:=aE hc5 h;refine aaG (tN ?_);obtain⟨K3,hK3,h⟩:=aI h;refine aaR (α:=List (lF)) (fun(l14:List (lF))=>⟨131,(f62z4 s10 n12),[(2,.cells 92 (fF x1 x2)),(3,.cells 88 (gL x3 x4 x5)),(4,.cells 92 [.nils,.nils]),(8,.cells 92 (f62z8 l11)),(90,bF l14)],[],0⟩) (fun x=>K3 x=some r) ?_ ?_
       ·refine aaJ (aaE ?_);obtain⟨ob10p,h⟩:=aB h;refine bB [] [] ⟨131,(f62z13 s10 n12 x2 x3),(f62z7 x1 x2 x3 x4 x5 l11 l13),[],0⟩ (an1 (iN ob10p)) ?_;refine tN (cK (decide ((jM x2 n12).1<x3)) (fun hc6=> ?_) fun hc6=> ?_)
        ·replace h:=aE hc6 h;obtain⟨ob11p,h⟩:=aB h;obtain⟨ob12,h⟩:=aB h;refine bB [] [] ⟨131,(f62z4 s10 n12),[(2,.cells 92 (fF x1 x2)),(3,.cells 88 (gL x3 x4 x5)),(4,.cells 92 [.nils,.nils]),(8,.cells 92 (mL l11)),(6301,.rows 160 3 ((l13).length+1) (fH (l13).length (bY cC bE l13) (dE 3 [.i (jM x2 n12).1,.i (jM x2 n12).2.1,.str (jM x2 n12).2.2])))],[],0⟩ (an3 (iN ob11p) ob12 trivial) ?_;refine kN ?_;exact jN ((l13++[((jM x2 n12).1,(jM x2 n12).2.1,(jM x2 n12).2.2)])) (aaI (acO (s':=⟨131,(f62z4 s10 n12),[(2,.cells 92 (fF x1 x2)),(3,.cells 88 (gL x3 x4 x5)),(4,.cells 92 [.nils,.nils]),(8,.cells 92 (mL l11)),(6301,bF (l13++[((jM x2 n12).1,(jM x2 n12).2.1,(jM x2 n12).2.2)]))],[],0⟩) rfl rfl ⟨.refl _,.refl _,.refl _,.refl _,.refl _,.refl _,trivial⟩ ⟨⟨_,rfl,.refl _⟩,⟨_,rfl,.refl _⟩,⟨_,rfl,.refl _⟩,⟨_,rfl,.refl _⟩,⟨_,rfl,(acE (adF (acH _) (acM (enc:=cC) [((jM x2 n12).1,(jM x2 n12).2.1,(jM x2 n12).2.2)] rfl rfl (fun _=>rfl))))⟩,trivial⟩) (aaI (aaI (abX (aV 6301 90) (aD 6301 90) rfl) (LR (s':=⟨131,(f62z4 s10 n12),[(2,.cells 92 (fF x1 x2)),(3,.cells 88 (gL x3 x4 x5)),(4,.cells 92 [.nils,.nils]),(8,.cells 92 (f62z8 l11)),(90,bF (l13++[((jM x2 n12).1,(jM x2 n12).2.1,(jM x2 n12).2.2)]))],[],0⟩))) LR)) h
        ·replace h:=aF hc6 h;refine aaG (kN ?_);exact jN (l13) (aaI (aaI (abX (aV 6301 90) (aD 6301 90) rfl) (LR (s':=⟨131,(f62z13 s10 n12 x2 x3),[(2,.cells 92 (fF x1 x2)),(3,.cells 88 (gL x3 x4 x5)),(4,.cells 92 [.nils,.nils]),(8,.cells 92 (f62z8 l11)),(90,bF l13)],[],0⟩))) LR) h
       ·rintro l14 h;replace h:=(congrFun hK3 _).symm.trans h;obtain⟨ob13p,h⟩:=aB h;refine bB [] [] ⟨131,(f62z9 s10 n12),[(2,.cells 92 (fF x1 x2)),(3,.cells 88 (gL x3 x4 x5)),(4,.cells 92 [.nils,.nils]),(8,.cells 92 (f62z8 l11)),(90,bF l14)],[],0⟩ (an1 (iP ob13p)) ?_;rw[hC0]at h;exact lN (_,(n12+1),l14) (aaI (aaI (abX (aV 90 6301) (aD 90 6301) rfl) (LR (s':=⟨131,(f62z9 s10 n12),[(2,.cells 92 (fF x1 x2)),(3,.cells 88 (gL x3 x4 x5)),(4,.cells 92 [.nils,.nils]),(8,.cells 92 (mL l11)),(6301,bF l14)],[],0⟩))) LR) h (aaM _)
      ·replace h:=aF hc5 h;refine abJ (tE (tE (kS ?_)));exact jN (l13) LR h
     ·rintro l15 h;replace h:=(congrFun hK2 _).symm.trans h;refine aaE ?_;obtain⟨ob14,h⟩:=aB h;refine bB [] [] ⟨131,(aBs s10),[(2,.cells 92 (fF x1 x2)),(3,.cells 88 (gL x3 x4 x5)),(4,.cells 92 [.nils,.nils]),(8,.cells 92 (mL l11)),(6301,.rows 160 3 ((l15).length+1) (fH (l15).length (bY cC bE l15) (dE 3 [.i x3,.i x4,.str s10])))],[],0⟩ (an2 ob14 trivial) ?_;refine tN (aaS (acO (s':=⟨131,(aBs s10),(f62z20 x1 x2 x3 x4 x5 l11 l15 s10),[],0⟩) rfl rfl ⟨.refl _,.refl _,.refl _,.refl _,.refl _,trivial⟩ ⟨⟨_,rfl,.refl _⟩,⟨_,rfl,.refl _⟩,⟨_,rfl,.refl _⟩,⟨_,rfl,.refl _⟩,⟨_,rfl,(acE (adF (acH _) (acM (enc:=cC) [(x3,x4,s10)] rfl rfl (fun _=>rfl))))⟩,trivial⟩) ?_);obtain⟨K4,hK4,h⟩:=aI h;refine aaR (α:=List (lF)) (fun(l19:List (lF))=>⟨131,[(4,.ptr 4 0),(8,.ptr 8 0),(9,.str s10)],[(4,.cells 92 [.nils,.nils]),(8,.cells 92 (mL l11)),(6301,bF l19)],[],0⟩) (fun x=>K4 x=some r) ?_ ?_
      ·refine aN [] [] [2,3,4,8,9,13] [2,3,4,8,6301] trivial ?_;refine aaJ (abG (α:=Nat×(Nat×(List (lF)))) (fun x=>match x with|(_,n16,l17)=>⟨131,(f62z6 s10 n16),(f62z11 x1 x2 x3 x4 x5 l11 l17),[],0⟩) (fun x=>mM x2 x3 K4 x.1 x.2=some r) (fun x=>x.1) (aY,0,(l15++[(x3,x4,s10)])) LR h ?_)
       rintro⟨k1,n16,l17⟩ h
       cases k1 with
       |zero=>exact nEx h
       |succ k1=>
       obtain⟨C1,hC1⟩:∃C,C=mM x2 x3 K4 k1:=⟨_,rfl⟩;replace h:=(mM.eq_2 ..).symm.trans h
       try rw[<-hC1]at h
       refine aaE (aN [] [] [2,3,4,8,9,13,107] [2,3,4,8,6301] trivial ?_);refine cK (decide ((n16:Int)<(lZ x2))) (fun hc7=> ?_) fun hc7=> ?_
       ·replace h:=aE hc7 h;refine aaG (tN ?_);obtain⟨K5,hK5,h⟩:=aI h;refine aaR (α:=List (lF)) (fun(l18:List (lF))=>⟨131,(f62z6 s10 n16),(f62z21 x1 x2 x3 x4 x5 l11 l18),[],0⟩) (fun x=>K5 x=some r) ?_ ?_
        ·refine aaJ (aaE ?_);obtain⟨ob15p,h⟩:=aB h;refine bB [] [] ⟨131,[(2,.ptr 2 0),(3,.ptr 3 0),(4,.ptr 4 0),(8,.ptr 8 0),(9,.str s10),(13,.i (n16:Int)),(118,.bool (decide ((mK x2 n16).1>x3)))],(f62z11 x1 x2 x3 x4 x5 l11 l17),[],0⟩ (an1 (iN ob15p)) ?_;refine tN (cK (decide ((mK x2 n16).1>x3)) (fun hc8=> ?_) fun hc8=> ?_)
         ·replace h:=aE hc8 h;obtain⟨ob16p,h⟩:=aB h;obtain⟨ob17,h⟩:=aB h;refine bB [] [] ⟨131,(f62z6 s10 n16),[(2,.cells 92 (fF x1 x2)),(3,.cells 88 (gL x3 x4 x5)),(4,.cells 92 [.nils,.nils]),(8,.cells 92 (mL l11)),(6301,.rows 160 3 ((l17).length+1) (fH (l17).length (bY cC bE l17) (dE 3 [.i (mK x2 n16).1,.i (mK x2 n16).2.1,.str (mK x2 n16).2.2])))],[],0⟩ (an3 (iN ob16p) ob17 trivial) ?_;refine kN ?_;exact jN ((l17++[((mK x2 n16).1,(mK x2 n16).2.1,(mK x2 n16).2.2)])) (aaI (acO (s':=⟨131,(f62z6 s10 n16),[(2,.cells 92 (fF x1 x2)),(3,.cells 88 (gL x3 x4 x5)),(4,.cells 92 [.nils,.nils]),(8,.cells 92 (mL l11)),(6301,bF (l17++[((mK x2 n16).1,(mK x2 n16).2.1,(mK x2 n16).2.2)]))],[],0⟩) rfl rfl ⟨.refl _,.refl _,.refl _,.refl _,.refl _,.refl _,trivial⟩ ⟨⟨_,rfl,.refl _⟩,⟨_,rfl,.refl _⟩,⟨_,rfl,.refl _⟩,⟨_,rfl,.refl _⟩,⟨_,rfl,(acE (adF (acH _) (acM (enc:=cC) [((mK x2 n16).1,(mK x2 n16).2.1,(mK x2 n16).2.2)] rfl rfl (fun _=>rfl))))⟩,trivial⟩) LR) h
         ·replace h:=aF hc8 h;refine aaG (kN ?_);exact jN (l17) LR h
        ·rintro l18 h;replace h:=(congrFun hK5 _).symm.trans h;obtain⟨ob18p,h⟩:=aB h;refine aZ [] [] [2,3,4,8,9,13] [2,3,4,8,6301] (an1 (iP ob18p)) ?_;rw[hC1]at h;exact lN (_,(n16+1),l18) LR h (aaM _)
       ·replace h:=aF hc7 h;refine abJ (tE (tE (kS ?_)));exact jN (l17) LR h
      ·rintro l19 h;replace h:=(congrFun hK4 _).symm.trans h;refine bC [] [] ⟨131,[(4,.ptr 4 0),(5,.str s10)],[(4,.cells 92 (mL l11)),(6301,bF l19)],[],0⟩ (an1 trivial) ?_;refine aaS (aaI (adI 6301 rfl rfl) (LR (s':=⟨131,[(4,.ptr 4 0),(5,.str s10)],[(4,.cells 92 [bA l11,bH l19])],[],0⟩))) ?_;obtain rfl:=aaD h;refine aaS (LR (s':=⟨131,[(4,.ptr 4 0),(5,.str s10)],[(4,.cells 92 [bA l11,bH l19])],[],0⟩)) ?_;refine aaH ?_;exact bD
def oO (r4:Int×Int×Ty5×Int) (K1:(Ty7×Ty5×Ty5)->Option (Ty7×Ty5×Ty5)):Nat->(Nat×Ty7×Ty5×Ty5)->Option (Ty7×Ty5×Ty5)
 |0,_=>none
 |k+1,(n5,l6,l7,l8)=>
  if(decide ((n5:Int)<(((r4.2.2.1).length:Nat):Int)))then(
  chk ((n5:Int)<(((r4.2.2.1).length:Nat):Int))<|
  (f62 l6 l7 ((r4.2.2.1.getD n5 (default:Tq0)).1) ((r4.2.2.1.getD n5 (default:Tq0)).2.1) ((r4.2.2.1.getD n5 (default:Tq0)).2.2)).bind fun r9=>
  chk (((l8).length+1) *32<=140737488355328)<|
  chk (((n5:Int)+(1:Int))<=9223372036854775807)<|
  (oO r4 K1 k) ((n5+1),r9.1,r9.2.1,(l8++[((r4.2.2.1.getD n5 (default:Tq0)).1,(r4.2.2.1.getD n5 (default:Tq0)).2.1,r9.2.2)]))
  )else(
  K1 (l6,l7,l8)
  )
abbrev aCI (r4:Int×Int×Ty5×Int):List V:=[.i r4.1,.i r4.2.1,vL 3 cC (default:Tq0) r4.2.2.1]
abbrev f37z1 (x1:List Tq1) (x2:List Tq0):List V:=[vL 3 cN (default:Tq1) x1,vL 3 cC (default:Tq0) x2]
abbrev rI (r4:Int×Int×Ty5×Int) (n5:Nat):=(r4.2.2.1.getD n5 (default:Tq0))
abbrev f37z3 (r9:Ty7×Ty5×aaA):List V:=[vL 3 cN (default:Tq1) r9.1,vL 3 cC (default:Tq0) r9.2.1]
abbrev f37z4 (l6:List Tq1) (l7:List Tq0):List V:=[vL 3 cN (default:Tq1) l6,vL 3 cC (default:Tq0) l7]
abbrev f37z5 (l10:List Tq1) (l11:List Tq0):List V:=[vL 3 cN (default:Tq1) l10,vL 3 cC (default:Tq0) l11]
abbrev f37z6 (n5:Nat):List (Nat×V):=[(2,.ptr 2 0),(4,.ptr 4 0),(6,.ptr 6 0),(8,.own 5008),(9,.i (n5:Int))]
abbrev f37z7 (r9:Ty7×Ty5×aaA) (r4:Int×Int×Ty5×Int) (l8:List Tq0) (n5:Nat):aJ:=[(2,.cells 92 (f37z3 r9)),(4,.cells 92 [.nils,.nils]),(6,.cells 100 (aCI r4)),(5008,bL 98 3 cC (default:Tq0) (l8++[((rI r4 n5).1,(rI r4 n5).2.1,r9.2.2)]))]
abbrev f37z8 (x1:List Tq1) (x2:List Tq0) (r4:Int×Int×Ty5×Int):aJ:=[(2,.cells 92 (f37z1 x1 x2)),(4,.cells 92 [.nils,.nils]),(6,.cells 100 (aCI r4))]
abbrev f37z9 (r4:Int×Int×Ty5×Int) (n5:Nat):List V:=[.i (rI r4 n5).1,.i (rI r4 n5).2.1,.str (rI r4 n5).2.2]
abbrev aBA :=Ty5
def f37 (x1:List Tq1) (x2:List Tq0) (x3:aaA):Option (Ty7×Ty5×Ty5):=
 (f61 x3).bind fun r4=>
 if(r4.2.2.2 !=(0:Int))then(
 some (x1,x2,[])
 )else(
 jn (fun((l10,l11,l12):Ty7×Ty5×Ty5)=>
 some (l10,l11,l12)
 ) fun(K1:(Ty7×Ty5×Ty5)->Option (Ty7×Ty5×Ty5))=>
 oO r4 K1 aY (0,x1,x2,[])
 )
theorem f37_ok (x1:List Tq1) (x2:List Tq0) (x3:aaA) (r:Ty7×Ty5×Ty5) (h:f37 x1 x2 x3=some r):aG Tryz.prog 37 [] [] [] [.agg [vL 3 cN (default:Tq1) x1,vL 3 cC (default:Tq0) x2],.str x3] (.tup [.agg [vL 3 cN (default:Tq1) r.1,vL 3 cC (default:Tq0) r.2.1],.own 3000]) [(3000,bL 98 3 cC (default:Tq0) r.2.2)]:=by
 unfold f37 at h;refine aG.bodyD [4] 0 _ _ Tryz.func37 rfl Tryz.ntmps37 rfl rfl ?_;refine aN [] [] [1,2,4] [2,4] trivial ?_;refine aaE ?_;obtain⟨r4,hr4,h⟩:=bind_ok h;refine aZ [] [(1,⟨[.str x3],[],[],[],.tup [.agg (aCI r4),.i r4.2.2.2],[],[],[]⟩)] [2,4,6,7] [2,4,6] (an2 (cpT (f61_ok _ _ hr4)) trivial) ?_;refine tN (aaE (aN [] [] [2,4,6,19] [2,4,6] trivial ?_));refine cK (r4.2.2.2 !=(0:Int)) (fun hc1=> ?_) fun hc1=> ?_
 ·replace h:=aE hc1 h;refine bC [] [] ⟨51,[(4,.ptr 4 0),(5,.nils)],[(4,.cells 92 (f37z1 x1 x2))],[],0⟩ (an1 trivial) ?_;refine aaS (aaI (adE 5 3000 98 3 (bY cC bE []) rfl rfl (aaW rfl)) (LR (s':=⟨51,[(4,.ptr 4 0),(5,.own 3000)],[(4,.cells 92 (f37z1 x1 x2)),(3000,cD [])],[],0⟩))) ?_;obtain rfl:=aaD h;refine aaS (LR (s':=⟨51,[(4,.ptr 4 0),(5,.own 3000)],[(3000,cD []),(4,.cells 92 (f37z1 x1 x2))],[],0⟩)) ?_;refine aaH (tR ?_);exact bD
 ·replace h:=aF hc1 h;refine aaG (tN (aN [] [] [2,4,6,8] [2,4,6] trivial ?_));obtain⟨K1,hK1,h⟩:=aI h;refine aaR (fun(x:Ty7×(aBA)×(aBA))=>match x with|(l10,l11,l12)=>⟨51,[(2,.ptr 2 0),(4,.ptr 4 0),(8,.own 5008)],[(2,.cells 92 (f37z5 l10 l11)),(4,.cells 92 [.nils,.nils]),(5008,cD l12)],[],0⟩) (fun x=>K1 x=some r) ?_ ?_
  ·refine bC [] [] ⟨51,[(2,.ptr 2 0),(4,.ptr 4 0),(6,.ptr 6 0),(8,.nils),(9,.i (0:Int))],(f37z8 x1 x2 r4),[],0⟩ trivial ?_;refine aaJ (abG (α:=Nat×(Nat×Ty7×(aBA)×(aBA))) (fun x=>match x with|(_,n5,l6,l7,l8)=>⟨51,(f37z6 n5),[(2,.cells 92 (f37z4 l6 l7)),(4,.cells 92 [.nils,.nils]),(6,.cells 100 (aCI r4)),(5008,cD l8)],[],0⟩) (fun x=>oO r4 K1 x.1 x.2=some r) (fun x=>x.1) (aY,0,x1,x2,[]) (aaI (aaI (adE 8 5008 98 3 (bY cC bE []) rfl rfl (aaW rfl)) (LR (s':=⟨51,[(2,.ptr 2 0),(4,.ptr 4 0),(6,.ptr 6 0),(8,.own 5008),(9,.i (0:Int))],[(2,.cells 92 (f37z1 x1 x2)),(4,.cells 92 [.nils,.nils]),(6,.cells 100 (aCI r4)),(5008,cD [])],[],0⟩))) LR) h ?_)
   rintro⟨k0,n5,l6,l7,l8⟩ h
   cases k0 with
   |zero=>exact nEx h
   |succ k0=>
   obtain⟨C0,hC0⟩:∃C,C=oO r4 K1 k0:=⟨_,rfl⟩;replace h:=(oO.eq_2 ..).symm.trans h
   try rw[<-hC0]at h
   refine aaE (aN [] [] [2,4,6,8,9,25] [2,4,6,5008] trivial ?_);refine cK (decide ((n5:Int)<(lZ r4.2.2.1))) (fun hc2=> ?_) fun hc2=> ?_
   ·replace h:=aE hc2 h;refine aaG (tN (aaE (aaJ (aaE ?_))));obtain⟨ob0p,h⟩:=aB h;refine aZ [] [] [2,4,6,8,9,10] [2,4,6,10,5008] (an2 (iN ob0p) trivial) ?_;refine tN (aaE ?_);obtain⟨r9,hr9,h⟩:=bind_ok h;refine aZ [] [(2,⟨[.agg (f37z4 l6 l7),.agg (f37z9 r4 n5)],[],[],[],.tup [.agg (f37z3 r9),.str r9.2.2],[],[],[]⟩)] [2,4,6,8,9,10,11,12] [2,4,6,10,11,5008] (an2 (cpT (f62_ok _ _ _ _ _ _ hr9)) trivial) ?_;refine tN (aN [] [] [2,4,6,8,9,10,12] [2,4,6,10,5008] (an1 trivial) ?_);obtain⟨ob1,h⟩:=aB h;refine bB [] [] ⟨51,(f37z6 n5),[(2,.cells 92 (f37z3 r9)),(4,.cells 92 [.nils,.nils]),(6,.cells 100 (aCI r4)),(5008,.rows 98 3 ((l8).length+1) (fH (l8).length (bY cC bE l8) (dE 3 [.i (rI r4 n5).1,.i (rI r4 n5).2.1,.str r9.2.2])))],[],0⟩ (an1 ob1) ?_;refine kN (tN (aaS (acO (s':=⟨51,(f37z6 n5),(f37z7 r9 r4 l8 n5),[],0⟩) rfl rfl ⟨.refl _,.refl _,.refl _,.refl _,.refl _,trivial⟩ ⟨⟨_,rfl,.refl _⟩,⟨_,rfl,.refl _⟩,⟨_,rfl,.refl _⟩,⟨_,rfl,(acE (adF (acH _) (acM (enc:=cC) [((rI r4 n5).1,(rI r4 n5).2.1,r9.2.2)] rfl rfl (fun _=>rfl))))⟩,trivial⟩) ?_));obtain⟨ob2p,h⟩:=aB h;refine aZ [] [] [2,4,6,8,9] [2,4,6,5008] (an1 (iP ob2p)) ?_;rw[hC0]at h;exact lN (_,(n5+1),r9.1,r9.2.1,(l8++[((rI r4 n5).1,(rI r4 n5).2.1,r9.2.2)])) LR h (aaM _)
   ·replace h:=aF hc2 h;refine abJ (tE (tE (kS ?_)));exact jN (l6,l7,l8) LR h
  ·rintro⟨l10,l11,l12⟩ h;replace h:=(congrFun hK1 _).symm.trans h;refine bC [] [] ⟨51,[(4,.ptr 4 0),(5,.own 5008)],[(4,.cells 92 (f37z5 l10 l11)),(5008,cD l12)],[],0⟩ (an1 trivial) ?_;refine aaS (aaI (abX (aV 5008 3000) (aD 5008 3000) rfl) (LR (s':=⟨51,[(4,.ptr 4 0),(5,.own 3000)],[(4,.cells 92 (f37z5 l10 l11)),(3000,cD l12)],[],0⟩))) ?_;obtain rfl:=aaD h;refine aaS (LR (s':=⟨51,[(4,.ptr 4 0),(5,.own 3000)],[(3000,cD l12),(4,.cells 92 (f37z5 l10 l11))],[],0⟩)) ?_;refine aaH ?_;exact bD
def oL (x3:List Ty0) (K1:(Ty7×Ty5)->Option (Ty7×Ty5)):Nat->(Nat×Ty7×Ty5)->Option (Ty7×Ty5)
 |0,_=>none
 |k+1,(n4,l5,l6)=>
  if(decide ((n4:Int)<(((x3).length:Nat):Int)))then(
  (f37 l5 l6 (x3.getD n4 [])).bind fun r7=>
  chk ((n4:Int)<(((x3).length:Nat):Int))<|
  chk (((n4:Int)+(1:Int))<=9223372036854775807)<|
  (oL x3 K1 k) ((n4+1),r7.1,r7.2.1)
  )else(
  K1 (l5,l6)
  )
abbrev f63z0 (x1:List Tq1) (x2:List Tq0):aJ:=[(2,.cells 92 [vL 3 cN (default:Tq1) x1,vL 3 cC (default:Tq0) x2]),(4,.cells 92 [.nils,.nils])]
abbrev f63z1 (l5:List Tq1) (l6:List Tq0):aJ:=[(2,.cells 92 [vL 3 cN (default:Tq1) l5,vL 3 cC (default:Tq0) l6]),(4,.cells 92 [.nils,.nils])]
abbrev f63z2 (r7:Ty7×Ty5×Ty5):List V:=[vL 3 cN (default:Tq1) r7.1,vL 3 cC (default:Tq0) r7.2.1]
abbrev f63z3 (l8:List Tq1) (l9:List Tq0):List V:=[vL 3 cN (default:Tq1) l8,vL 3 cC (default:Tq0) l9]
def f63 (x1:List Tq1) (x2:List Tq0) (x3:List Ty0):Option (Ty7×Ty5):=
 jn (fun((l8,l9):Ty7×Ty5)=>
 some (l8,l9)
 ) fun(K1:(Ty7×Ty5)->Option (Ty7×Ty5))=>
 oL x3 K1 aY (0,x1,x2)
theorem f63_ok (x1:List Tq1) (x2:List Tq0) (x3:List Ty0) (r:Ty7×Ty5) (h:f63 x1 x2 x3=some r):aG Tryz.prog 63 [] [] [] [.agg [vL 3 cN (default:Tq1) x1,vL 3 cC (default:Tq0) x2],vL 1 eS [] x3] (.agg [vL 3 cN (default:Tq1) r.1,vL 3 cC (default:Tq0) r.2]) []:=by
 unfold f63 at h;refine aG.bodyD [4] 0 _ _ Tryz.func63 rfl Tryz.ntmps63 rfl rfl ?_;refine aN [] [] [1,2,4] [2,4] trivial ?_;obtain⟨K1,hK1,h⟩:=aI h;refine aaR (fun(x:Ty7×Ty5)=>match x with|(l8,l9)=>⟨22,[(2,.ptr 2 0),(4,.ptr 4 0)],[(2,.cells 92 (f63z3 l8 l9)),(4,.cells 92 [.nils,.nils])],[],0⟩) (fun x=>K1 x=some r) ?_ ?_
 ·refine bC [] [] ⟨22,[(1,cQ x3),(2,.ptr 2 0),(4,.ptr 4 0),(5,.i (0:Int))],(f63z0 x1 x2),[],0⟩ trivial ?_;refine aaJ (abG (α:=Nat×(Nat×Ty7×Ty5)) (fun x=>match x with|(_,n4,l5,l6)=>⟨22,[(1,cQ x3),(2,.ptr 2 0),(4,.ptr 4 0),(5,.i (n4:Int))],(f63z1 l5 l6),[],0⟩) (fun x=>oL x3 K1 x.1 x.2=some r) (fun x=>x.1) (aY,0,x1,x2) LR h ?_)
  rintro⟨k0,n4,l5,l6⟩ h
  cases k0 with
  |zero=>exact nEx h
  |succ k0=>
  obtain⟨C0,hC0⟩:∃C,C=oL x3 K1 k0:=⟨_,rfl⟩;replace h:=(oL.eq_2 ..).symm.trans h
  try rw[<-hC0]at h
  refine aaE (aN [] [] [1,2,4,5,9] [2,4] trivial ?_);refine cK (decide ((n4:Int)<(lZ x3))) (fun hc1=> ?_) fun hc1=> ?_
  ·replace h:=aE hc1 h;refine aaG (tN (aaE (aaJ ?_)));obtain⟨r7,hr7,h⟩:=bind_ok h;obtain⟨ob0p,h⟩:=aB h;refine bB [] [(5,⟨[.agg [bA l5,bH l6],.str (x3.getD n4 [])],[],[],[(6001,cD r7.2.2)],.tup [.agg (f63z2 r7),.own 6001],[6001],[],[]⟩)] ⟨22,[(1,cQ x3),(2,.ptr 2 0),(4,.ptr 4 0),(5,.i (n4:Int))],[(2,.cells 92 (f63z2 r7)),(4,.cells 92 [.nils,.nils])],[],0⟩ (an3 (iN ob0p) (cpT (aG.ren (aV 3000 6001) (aD 3000 6001) rfl (f37_ok _ _ _ _ hr7))) trivial) ?_;refine kN (tN ?_);obtain⟨ob1p,h⟩:=aB h;refine aZ [] [] [1,2,4,5] [2,4] (an1 (iP ob1p)) ?_;rw[hC0]at h;exact lN (_,(n4+1),r7.1,r7.2.1) LR h (aaM _)
  ·replace h:=aF hc1 h;refine abJ (tE (tE (kS ?_)));exact jN (l5,l6) LR h
 ·rintro⟨l8,l9⟩ h;replace h:=(congrFun hK1 _).symm.trans h;refine aN [] [] [4] [4] (an1 trivial) ?_;obtain rfl:=aaD h;refine aaH ?_;exact bD
abbrev f38z0 (r2:Ty7×Ty5):List V:=[vL 3 cN (default:Tq1) r2.1,vL 3 cC (default:Tq0) r2.2]
def f38 (x1:List Ty0):Option (Ty7×Ty5):=
 (f63 [] [] x1).bind fun r2=>
 some (r2.1,r2.2)
theorem f38_ok (x1:List Ty0) (r:Ty7×Ty5) (h:f38 x1=some r):aG Tryz.prog 38 [] [] [] [vL 1 eS [] x1] (.agg [vL 3 cN (default:Tq1) r.1,vL 3 cC (default:Tq0) r.2]) []:=by
 unfold f38 at h;refine aG.bodyD [2] 0 _ _ Tryz.func38 rfl Tryz.ntmps38 rfl rfl ?_;refine aN [] [] [0,2] [2] trivial ?_;refine aaE ?_;obtain⟨r2,hr2,h⟩:=bind_ok h;refine bB [] [(2,⟨[.agg [bA [],bH []],cQ x1],[],[],[],.agg (f38z0 r2),[],[],[]⟩)] ⟨6,[(2,.ptr 2 0)],[(2,.cells 92 (f38z0 r2))],[],0⟩ (an2 (cpL (c:=true) [] [] [.agg [.nils,.nils],cQ x1] (fun _=>(f63_ok _ _ _ _ hr2)) (fun _=>⟨(.aggs ⟨.nilL,.nilL,trivial⟩),.refl _,trivial⟩) (.inl rfl)) trivial) ?_;refine tN ?_;obtain rfl:=aaD h;refine aaH ?_;exact bD
def oK (x1:List Y51) (x4 x6:Int) (K1:Unit->Option Bool):Nat->Nat->Option Bool
 |0,_=>none
 |k+1,n9=>
  if(decide ((n9:Int)<(((x1).length:Nat):Int)))then(
  chk ((n9:Int)<(((x1).length:Nat):Int))<|
  chk ((((x1.getD n9 (default:Y51)).2.1==(2:Int))==true)=true->0<=(n9:Int)/\(n9:Int)<(((x1).length:Nat):Int))<|
  chk (((((x1.getD n9 (default:Y51)).2.1==(2:Int))&&((x1.getD n9 (default:Y51)).2.2.1==x4))==true)=true->0<=(n9:Int)/\(n9:Int)<(((x1).length:Nat):Int))<|
  if((((x1.getD n9 (default:Y51)).2.1==(2:Int))&&((x1.getD n9 (default:Y51)).2.2.1==x4))&&((x1.getD n9 (default:Y51)).2.2.2.2.1==x6))then(
  some false
  )else(
  chk (((n9:Int)+(1:Int))<=9223372036854775807)<|
  (oK x1 x4 x6 K1 k) (n9+1)
  )
  )else(
  K1 ()
  )
def oI (x4 x6:Int) (r10:aaA×Bool) (r12:Int×Int×Ty5×Int) (K2:Bool->Option Bool):Nat->(Bool×Nat)->Option Bool
 |0,_=>none
 |k+1,(b13,n14)=>
  if(decide ((n14:Int)<(((r12.2.2.1).length:Nat):Int)))then(
  chk ((n14:Int)<(((r12.2.2.1).length:Nat):Int))<|
  chk ((b13==false)=true->(b13==false)=true->((r12.2.2.1.getD n14 (default:Tq0)).1==x4)=true->((b13==false)&&(((r12.2.2.1.getD n14 (default:Tq0)).1==x4)==true))=true)<|
  chk ((b13==false)=true->(b13==false)=true->(((r12.2.2.1.getD n14 (default:Tq0)).1==x4)&&((r12.2.2.1.getD n14 (default:Tq0)).2.1==x6))=true->((b13==false)&&((((r12.2.2.1.getD n14 (default:Tq0)).1==x4)&&((r12.2.2.1.getD n14 (default:Tq0)).2.1==x6))==true))=true)<|
  chk (((n14:Int)+(1:Int))<=9223372036854775807)<|
  (oI x4 x6 r10 r12 K2 k) ((b13||((((r12.2.2.1.getD n14 (default:Tq0)).1==x4)&&((r12.2.2.1.getD n14 (default:Tq0)).2.1==x6))&&(((r12.2.2.1.getD n14 (default:Tq0)).2.2)==r10.1))),(n14+1))
  )else(
  K2 b13
  )
def lD (x1:List Y51) (x4 x5:Int) (K3:(List Ty0)->Option Bool):Nat->(Nat×List Ty0)->Option Bool
 |0,_=>none
 |k+1,(n16,l17)=>
  if((decide ((n16:Int)<x5))&&(decide ((n16:Int)<=(((x1).length:Nat):Int))))then(
  (f95 x1 ((12:Int)+x4) (n16:Int)).bind fun r18=>
  chk (-9223372036854775808<=((12:Int)+x4)/\((12:Int)+x4)<=9223372036854775807)<|
  if(!r18.2)then(
  some false
  )else(
  chk (((l17).length+1) *16<=140737488355328)<|
  chk (((n16:Int)+(1:Int))<=9223372036854775807)<|
  (lD x1 x4 x5 K3 k) ((n16+1),(l17++[r18.1]))
  )
  )else(
  K3 l17
  )
def iK (x4 x6:Int) (x8:aaA) (r21:Ty7×Ty5×Ty5) (K4:Unit->Option Bool):Nat->Nat->Option Bool
 |0,_=>none
 |k+1,n22=>
  if(decide ((n22:Int)<(((r21.2.2).length:Nat):Int)))then(
  chk ((n22:Int)<(((r21.2.2).length:Nat):Int))<|
  chk (n22<(r21.2.2).length)<|
  chk ((((r21.2.2.getD n22 (default:Tq0)).1==x4)==true)=true->0<=(n22:Int)/\(n22:Int)<(((r21.2.2).length:Nat):Int))<|
  chk ((((r21.2.2.getD n22 (default:Tq0)).1==x4)==true)=true->n22<(r21.2.2).length)<|
  if(((r21.2.2.getD n22 (default:Tq0)).1==x4)&&((r21.2.2.getD n22 (default:Tq0)).2.1==x6))then(
  chk ((n22:Int)<(((r21.2.2).length:Nat):Int))<|
  chk (n22<(r21.2.2).length)<|
  some (((r21.2.2.getD n22 (default:Tq0)).2.2)==x8)
  )else(
  chk (((n22:Int)+(1:Int))<=9223372036854775807)<|
  (iK x4 x6 x8 r21 K4 k) (n22+1)
  )
  )else(
  K4 ()
  )
abbrev vC (x2 x3 x4 x5 x6:Int) (x7 x8:aaA):List V:=[.i x2,.i x3,.i x4,.i x5,.i x6,.str x7,.str x8,.opq,.opq,.opq,.opq,.opq,.opq,.opq,.opq,.opq,.opq,.opq,.opq,.opq,.opq,.opq,.opq,.opq,.opq,.opq,.opq,.opq]
abbrev f67z1 (r12:Int×Int×Ty5×Int) (n14:Nat):=(r12.2.2.1.getD n14 (default:Tq0))
abbrev f67z2 (x2 x3 x4 x5 x6:Int) (x7 x8:aaA) (r12:Int×Int×Ty5×Int):aJ:=[(3,.cells 51 (vC x2 x3 x4 x5 x6 x7 x8)),(10,.cells 100 [.i r12.1,.i r12.2.1,vL 3 cC (default:Tq0) r12.2.2.1])]
abbrev aCC (r21:Ty7×Ty5×Ty5) (n22:Nat):=(r21.2.2.getD n22 (default:Tq0))
abbrev f67z4 (x2 x3 x4 x5 x6:Int) (x7 x8:aaA) (r21:Ty7×Ty5×Ty5):aJ:=[(3,.cells 51 (vC x2 x3 x4 x5 x6 x7 x8)),(6001,bL 98 3 cC (default:Tq0) r21.2.2)]
abbrev f67z5 (r12:Int×Int×Ty5×Int) (n14:Nat) (x4 x6:Int):=(((f67z1 r12 n14).1==x4)&&((f67z1 r12 n14).2.1==x6))
abbrev xX (x2 x3 x4 x5 x6:Int) (x7 x8:aaA):aJ:=[(3,.cells 51 (vC x2 x3 x4 x5 x6 x7 x8))]
abbrev f67z7 (n16:Nat) (x5:Int):=(decide ((n16:Int)<x5))
abbrev f67z8 (b13:Bool) (r12:Int×Int×Ty5×Int) (n14:Nat) (x4:Int):=((b13==false)&&(((f67z1 r12 n14).1==x4)==true))
abbrev xW (r21:Ty7×Ty5×Ty5) (n22:Nat) (x4:Int):=(((aCC r21 n22).1==x4)==true)
def f67 (x1:List Y51) (x2 x3 x4 x5 x6:Int) (x7 x8:aaA):Option Bool:=
 jn (fun(_:Unit)=>
 (f94 x1 x4 x6).bind fun r10=>
 (f95 x1 ((12:Int)+x4) x5).bind fun r11=>
 chk (-9223372036854775808<=((12:Int)+x4)/\((12:Int)+x4)<=9223372036854775807)<|
 if((!r10.2)||(!r11.2))then(
 some false
 )else(
 (f61 r11.1).bind fun r12=>
 if(r12.2.2.2 !=(0:Int))then(
 some false
 )else(
 jn (fun(b15:Bool)=>
 jn (fun(l19:List Ty0)=>
 if(!b15)then(
 some false
 )else(
 (f38 l19).bind fun r20=>
 (f37 r20.1 r20.2 r11.1).bind fun r21=>
 jn (fun(_:Unit)=>
 some false
 ) fun(K4:Unit->Option Bool)=>
 iK x4 x6 x8 r21 K4 aY 0
 )
 ) fun(K3:(List Ty0)->Option Bool)=>
 lD x1 x4 x5 K3 aY (0,[])
 ) fun(K2:Bool->Option Bool)=>
 oI x4 x6 r10 r12 K2 aY (false,0)
 )
 )
 ) fun(K1:Unit->Option Bool)=>
 oK x1 x4 x6 K1 aY 0
theorem f67_ok (x1:List Y51) (x2 x3 x4 x5 x6:Int) (x7 x8:aaA) (r:Bool) (h:f67 x1 x2 x3 x4 x5 x6 x7 x8=some r):aG Tryz.prog 67 [] [] [] [vL 28 sB (default:Y51) x1,.agg [.i x2,.i x3,.i x4,.i x5,.i x6,.str x7,.str x8,.opq,.opq,.opq,.opq,.opq,.opq,.opq,.opq,.opq,.opq,.opq,.opq,.opq,.opq,.opq,.opq,.opq,.opq,.opq,.opq,.opq]] (.bool r) []:=by
 unfold f67 at h;refine aG.body 0 _ _ Tryz.func67 rfl Tryz.ntmps67 rfl rfl ?_;refine aN [] [] [0,3] [3] trivial ?_;obtain⟨K1,hK1,h⟩:=aI h;refine aaR (fun(x:Unit)=>match x with|()=>⟨187,[(0,aO x1),(3,.ptr 3 0)],(xX x2 x3 x4 x5 x6 x7 x8),[],0⟩) (fun x=>K1 x=some r) ?_ ?_
 ·refine bC [] [] ⟨187,[(0,aO x1),(3,.ptr 3 0),(5,.i (0:Int))],(xX x2 x3 x4 x5 x6 x7 x8),[],0⟩ trivial ?_;refine aaJ (abG (α:=Nat×Nat) (fun x=>match x with|(_,n9)=>⟨187,[(0,aO x1),(3,.ptr 3 0),(5,.i (n9:Int))],(xX x2 x3 x4 x5 x6 x7 x8),[],0⟩) (fun x=>oK x1 x4 x6 K1 x.1 x.2=some r) (fun x=>x.1) (aY,0) LR h ?_)
  rintro⟨k0,n9⟩ h
  cases k0 with
  |zero=>exact nEx h
  |succ k0=>
  obtain⟨C0,hC0⟩:∃C,C=oK x1 x4 x6 K1 k0:=⟨_,rfl⟩;replace h:=(oK.eq_2 ..).symm.trans h
  try rw[<-hC0]at h
  refine aaE (aN [] [] [0,3,5,25] [3] trivial ?_);refine cK (decide ((n9:Int)<(lZ x1))) (fun hc1=> ?_) fun hc1=> ?_
  ·replace h:=aE hc1 h;refine aaG (tN (aaE (aaJ (aaE ?_))));obtain⟨ob0p,h⟩:=aB h;obtain⟨ob1,h⟩:=aB h;obtain⟨ob10,h⟩:=aB h;refine bB [] [] ⟨187,[(0,aO x1),(3,.ptr 3 0),(5,.i (n9:Int)),(53,.bool ((((x1.getD n9 aH).2.1==(2:Int))&&((x1.getD n9 aH).2.2.1==x4))&&((x1.getD n9 aH).2.2.2.2.1==x6)))],(xX x2 x3 x4 x5 x6 x7 x8),[],0⟩ (ac6 (iN ob0p) (aaK ob1 (an2 (idA ((((x1.getD n9 aH).2.1==(2:Int))==true)=true)) (idA ((((x1.getD n9 aH).2.1==(2:Int))==true)=true)))) (an1 (idA ((((x1.getD n9 aH).2.1==(2:Int))==true)=true))) (an1 (idA ((((x1.getD n9 aH).2.1==(2:Int))==true)=true))) (an1 (idA ((((x1.getD n9 aH).2.1==(2:Int))==true)=true))) (an2 (idA ((((x1.getD n9 aH).2.1==(2:Int))==true)=true)) (idA ((((x1.getD n9 aH).2.1==(2:Int))==true)=true))) (ac6 (bqA ((x1.getD n9 aH).2.1==(2:Int)) true) (aaK ob10 (an2 (idA (((((x1.getD n9 aH).2.1==(2:Int))&&((x1.getD n9 aH).2.2.1==x4))==true)=true)) (idA (((((x1.getD n9 aH).2.1==(2:Int))&&((x1.getD n9 aH).2.2.1==x4))==true)=true)))) (an1 (idA (((((x1.getD n9 aH).2.1==(2:Int))&&((x1.getD n9 aH).2.2.1==x4))==true)=true))) (an1 (idA (((((x1.getD n9 aH).2.1==(2:Int))&&((x1.getD n9 aH).2.2.1==x4))==true)=true))) (an1 (idA (((((x1.getD n9 aH).2.1==(2:Int))&&((x1.getD n9 aH).2.2.1==x4))==true)=true))) (an2 (idA (((((x1.getD n9 aH).2.1==(2:Int))&&((x1.getD n9 aH).2.2.1==x4))==true)=true)) (idA (((((x1.getD n9 aH).2.1==(2:Int))&&((x1.getD n9 aH).2.2.1==x4))==true)=true))) (an1 (bqA (((x1.getD n9 aH).2.1==(2:Int))&&((x1.getD n9 aH).2.2.1==x4)) true)))) ?_;refine tN (cK ((((x1.getD n9 aH).2.1==(2:Int))&&((x1.getD n9 aH).2.2.1==x4))&&((x1.getD n9 aH).2.2.2.2.1==x6)) (fun hc2=> ?_) fun hc2=> ?_)
   ·replace h:=aE hc2 h;refine aN [] [] [4] [] trivial ?_;obtain rfl:=aaD h;refine aaH (kR (tR (tR (kR (aR ?_)))));exact bK
   ·replace h:=aF hc2 h;refine aaG (kN (tN ?_));obtain⟨ob19p,h⟩:=aB h;refine bB [] [] ⟨187,[(0,aO x1),(3,.ptr 3 0),(5,.i (((n9+1):Nat):Int))],(xX x2 x3 x4 x5 x6 x7 x8),[],0⟩ (an1 (iP ob19p)) ?_;rw[hC0]at h;exact lN (_,(n9+1)) LR h (aaM _)
  ·replace h:=aF hc1 h;refine abJ (tE (tE (kS ?_)));exact jN () LR h
 ·rintro⟨⟩ h;replace h:=(congrFun hK1 _).symm.trans h;refine aaE ?_;obtain⟨r10,hr10,h⟩:=bind_ok h;refine aZ [] [(5,⟨[aO x1,.i x4,.i x6],[],[],[],.tup [.str r10.1,.bool r10.2],[],[],[]⟩)] [0,3,6,7] [3] (an1 (cpT (f94_ok _ _ _ _ hr10))) ?_;refine tN (aaE ?_);obtain⟨r11,hr11,h⟩:=bind_ok h;obtain⟨ob20,h⟩:=aB h;refine aZ [] [(6,⟨[aO x1,.i ((12:Int)+x4),.i x5],[],[],[],.tup [.str r11.1,.bool r11.2],[],[],[]⟩)] [0,3,6,7,8,9] [3] (an2 ob20 (cpT (f95_ok _ _ _ _ hr11))) ?_;refine tN (aaE (aaE (aZ [] [] [0,3,6,8,78] [3] (an2 (an1 (idA (((!r10.2)==false)=true))) (bqA (!r10.2) false)) ?_)));refine tN (cK ((!r10.2)||(!r11.2)) (fun hc3=> ?_) fun hc3=> ?_)
  ·replace h:=aE hc3 h;refine bC [] [] ⟨187,[(4,.bool false)],[],[],0⟩ trivial ?_;obtain rfl:=aaD h;refine aaH (tR ?_);exact bK
  ·replace h:=aF hc3 h;refine aaG (tN (aaE ?_));obtain⟨r12,hr12,h⟩:=bind_ok h;refine aZ [] [(1,⟨[.str r11.1],[],[],[],.tup [.agg [.i r12.1,.i r12.2.1,bH r12.2.2.1],.i r12.2.2.2],[],[],[]⟩)] [0,3,6,8,10,11] [3,10] (an2 (cpT (f61_ok _ _ hr12)) trivial) ?_;refine tN (aaE (aN [] [] [0,3,6,8,10,85] [3,10] trivial ?_));refine cK (r12.2.2.2 !=(0:Int)) (fun hc4=> ?_) fun hc4=> ?_
   ·replace h:=aE hc4 h;refine bC [] [] ⟨187,[(4,.bool false)],[],[],0⟩ trivial ?_;obtain rfl:=aaD h;refine aaH (tR ?_);exact bK
   ·replace h:=aF hc4 h;refine aaG (tN (aN [] [] [0,3,6,8,10,12] [3,10] trivial ?_));obtain⟨K2,hK2,h⟩:=aI h;refine aaR (α:=Bool) (fun(b15:Bool)=>⟨187,[(0,aO x1),(3,.ptr 3 0),(8,.str r11.1),(12,.bool b15)],(xX x2 x3 x4 x5 x6 x7 x8),[],0⟩) (fun x=>K2 x=some r) ?_ ?_
    ·refine bC [] [] ⟨187,[(0,aO x1),(3,.ptr 3 0),(6,.str r10.1),(8,.str r11.1),(10,.ptr 10 0),(12,.bool false),(13,.i (0:Int))],(f67z2 x2 x3 x4 x5 x6 x7 x8 r12),[],0⟩ trivial ?_;refine aaJ (abG (α:=Nat×(Bool×Nat)) (fun x=>match x with|(_,b13,n14)=>⟨187,[(0,aO x1),(3,.ptr 3 0),(6,.str r10.1),(8,.str r11.1),(10,.ptr 10 0),(12,.bool b13),(13,.i (n14:Int))],(f67z2 x2 x3 x4 x5 x6 x7 x8 r12),[],0⟩) (fun x=>oI x4 x6 r10 r12 K2 x.1 x.2=some r) (fun x=>x.1) (aY,false,0) LR h ?_)
     rintro⟨k1,b13,n14⟩ h
     cases k1 with
     |zero=>exact nEx h
     |succ k1=>
     obtain⟨C1,hC1⟩:∃C,C=oI x4 x6 r10 r12 K2 k1:=⟨_,rfl⟩;replace h:=(oI.eq_2 ..).symm.trans h
     try rw[<-hC1]at h
     refine aaE (aN [] [] [0,3,6,8,10,12,13,90] [3,10] trivial ?_);refine cK (decide ((n14:Int)<(lZ r12.2.2.1))) (fun hc5=> ?_) fun hc5=> ?_
     ·replace h:=aE hc5 h;refine aaG (tN (aaE (aaJ (aaE ?_))));obtain⟨ob23p,h⟩:=aB h;refine aZ [] [] [0,3,6,8,10,12,13,14] [3,10,14] (an2 (iN ob23p) trivial) ?_;refine tN ?_;obtain⟨ob33,h⟩:=aB h;obtain⟨ob39,h⟩:=aB h;refine bB [] [] ⟨187,[(0,aO x1),(3,.ptr 3 0),(6,.str r10.1),(8,.str r11.1),(10,.ptr 10 0),(12,.bool (b13||((f67z5 r12 n14 x4 x6)&&(((f67z1 r12 n14).2.2)==r10.1)))),(13,.i (n14:Int))],(f67z2 x2 x3 x4 x5 x6 x7 x8 r12),[],0⟩ (ac6 (an1 (idA ((b13==false)=true))) (an1 (idA ((b13==false)=true))) (an2 (idA ((b13==false)=true)) (idA ((b13==false)=true))) (an1 (idA ((b13==false)=true))) (an1 (idA ((f67z8 b13 r12 n14 x4)=true))) (an1 (idA ((f67z8 b13 r12 n14 x4)=true))) (ac6 (an2 (idA ((f67z8 b13 r12 n14 x4)=true)) (idA ((f67z8 b13 r12 n14 x4)=true))) (aaK ob33 (an1 (idA ((b13==false)=true)))) (an1 (idA ((b13==false)=true))) (an1 (idA (((b13==false)&&((f67z5 r12 n14 x4 x6)==true))=true))) (an2 (idA (((b13==false)&&((f67z5 r12 n14 x4 x6)==true))=true)) (idA (((b13==false)&&((f67z5 r12 n14 x4 x6)==true))=true))) (aaK ob39 (an1 (idA ((b13==false)=true)))) (an1 (bqA b13 false)))) ?_;refine kN (tN ?_);obtain⟨ob42p,h⟩:=aB h;refine aZ [] [] [0,3,6,8,10,12,13] [3,10] (an1 (iP ob42p)) ?_;rw[hC1]at h;exact lN (_,(b13||((f67z5 r12 n14 x4 x6)&&(((f67z1 r12 n14).2.2)==r10.1))),(n14+1)) LR h (aaM _)
     ·replace h:=aF hc5 h;refine abJ (tE (tE (kS ?_)));exact jN (b13) LR h
    ·rintro b15 h;replace h:=(congrFun hK2 _).symm.trans h;refine aN [] [] [0,3,8,12,15] [3] trivial ?_;obtain⟨K3,hK3,h⟩:=aI h;refine aaR (α:=List Ty0) (fun(l19:List Ty0)=>⟨187,[(3,.ptr 3 0),(8,.str r11.1),(12,.bool b15),(15,.own 5015)],[(3,.cells 51 (vC x2 x3 x4 x5 x6 x7 x8)),(5015,aU l19)],[],0⟩) (fun x=>K3 x=some r) ?_ ?_
     ·refine bC [] [] ⟨187,[(0,aO x1),(3,.ptr 3 0),(8,.str r11.1),(12,.bool b15),(15,.nils),(16,.i (0:Int))],(xX x2 x3 x4 x5 x6 x7 x8),[],0⟩ trivial ?_;refine aaJ (abG (α:=Nat×(Nat×List Ty0)) (fun x=>match x with|(_,n16,l17)=>⟨187,[(0,aO x1),(3,.ptr 3 0),(8,.str r11.1),(12,.bool b15),(15,.own 5015),(16,.i (n16:Int))],[(3,.cells 51 (vC x2 x3 x4 x5 x6 x7 x8)),(5015,aU l17)],[],0⟩) (fun x=>lD x1 x4 x5 K3 x.1 x.2=some r) (fun x=>x.1) (aY,0,[]) (aaI (aaI (adE 15 5015 9 1 (bY eS [] []) rfl rfl (aaW rfl)) (LR (s':=⟨187,[(0,aO x1),(3,.ptr 3 0),(8,.str r11.1),(12,.bool b15),(15,.own 5015),(16,.i (0:Int))],[(3,.cells 51 (vC x2 x3 x4 x5 x6 x7 x8)),(5015,aU [])],[],0⟩))) LR) h ?_)
      rintro⟨k2,n16,l17⟩ h
      cases k2 with
      |zero=>exact nEx h
      |succ k2=>
      obtain⟨C2,hC2⟩:∃C,C=lD x1 x4 x5 K3 k2:=⟨_,rfl⟩;replace h:=(lD.eq_2 ..).symm.trans h
      try rw[<-hC2]at h
      refine aaE (aaE (aZ [] [] [0,3,8,12,15,16,128] [3,5015] (an3 (an1 (idA (((f67z7 n16 x5)==true)=true))) (an2 (idA (((f67z7 n16 x5)==true)=true)) (idA (((f67z7 n16 x5)==true)=true))) (bqA (f67z7 n16 x5) true)) ?_));refine tN (cK ((f67z7 n16 x5)&&(decide ((n16:Int)<=(lZ x1)))) (fun hc6=> ?_) fun hc6=> ?_)
      ·replace h:=aE hc6 h;refine aaG (tN (aaE (aaJ (aaE ?_))));obtain⟨r18,hr18,h⟩:=bind_ok h;obtain⟨ob47,h⟩:=aB h;refine aZ [] [(5,⟨[aO x1,.i ((12:Int)+x4),.i (n16:Int)],[],[],[],.tup [.str r18.1,.bool r18.2],[],[],[]⟩)] [0,3,8,12,15,16,17,18] [3,5015] (an2 ob47 (cpT (f95_ok _ _ _ _ hr18))) ?_;refine tN (aaE (aN [] [] [0,3,8,12,15,16,17,141] [3,5015] trivial ?_));refine cK (!r18.2) (fun hc7=> ?_) fun hc7=> ?_
       ·replace h:=aE hc7 h;refine bC [] [] ⟨187,[(4,.bool false)],[],[],0⟩ trivial ?_;obtain rfl:=aaD h;refine aaH (tR (kR (tR (tR (kR (aR ?_))))));exact bK
       ·replace h:=aF hc7 h;refine aaG (tN ?_);obtain⟨ob48,h⟩:=aB h;refine bB [] [] ⟨187,[(0,aO x1),(3,.ptr 3 0),(8,.str r11.1),(12,.bool b15),(15,.own 5015),(16,.i (n16:Int))],[(3,.cells 51 (vC x2 x3 x4 x5 x6 x7 x8)),(5015,.rows 9 1 ((l17).length+1) (fH (l17).length (bY eS [] l17) (dE 1 [.str r18.1])))],[],0⟩ (an1 ob48) ?_;refine kN (tN (aaS (acO (s':=⟨187,[(0,aO x1),(3,.ptr 3 0),(8,.str r11.1),(12,.bool b15),(15,.own 5015),(16,.i (n16:Int))],[(3,.cells 51 (vC x2 x3 x4 x5 x6 x7 x8)),(5015,aU (l17++[r18.1]))],[],0⟩) rfl rfl ⟨.refl _,.refl _,.refl _,.refl _,.refl _,.refl _,trivial⟩ ⟨⟨_,rfl,.refl _⟩,⟨_,rfl,(acE (adF (acH _) (acM (enc:=eS) [r18.1] rfl rfl (fun _=>rfl))))⟩,trivial⟩) ?_));obtain⟨ob49p,h⟩:=aB h;refine aZ [] [] [0,3,8,12,15,16] [3,5015] (an1 (iP ob49p)) ?_;rw[hC2]at h;exact lN (_,(n16+1),(l17++[r18.1])) LR h (aaM _)
      ·replace h:=aF hc6 h;refine abJ (tE (tE (kS ?_)));exact jN (l17) LR h
     ·rintro l19 h;replace h:=(congrFun hK3 _).symm.trans h;refine aaE (bC [] [] ⟨187,[(3,.ptr 3 0),(8,.str r11.1),(15,.own 5015),(147,.bool (!b15))],[(3,.cells 51 (vC x2 x3 x4 x5 x6 x7 x8)),(5015,aU l19)],[],0⟩ trivial ?_);refine cK (!b15) (fun hc8=> ?_) fun hc8=> ?_
      ·replace h:=aE hc8 h;refine aN [] [] [4] [] trivial ?_;obtain rfl:=aaD h;refine aaH (tR ?_);exact bK
      ·replace h:=aF hc8 h;refine aaG (tN (aaE (aaS (aaI (adI 5015 rfl rfl) (LR (s':=⟨187,[(3,.ptr 3 0),(8,.str r11.1),(15,cQ l19),(147,.bool (!b15))],(xX x2 x3 x4 x5 x6 x7 x8),[],0⟩))) ?_)));obtain⟨r20,hr20,h⟩:=bind_ok h;obtain⟨r21,hr21,h⟩:=bind_ok h;refine bB [] [(1,⟨[cQ l19],[],[],[],.agg [bA r20.1,bH r20.2],[],[],[]⟩),(3,⟨[.agg [bA r20.1,bH r20.2],.str r11.1],[],[],[(6001,cD r21.2.2)],.tup [.agg [bA r21.1,bH r21.2.1],.own 6001],[6001],[],[]⟩)] ⟨187,[(3,.ptr 3 0),(20,.own 6001)],(f67z4 x2 x3 x4 x5 x6 x7 x8 r21),[],0⟩ (an3 (cpT (f38_ok _ _ hr20)) (cpT (aG.ren (aV 3000 6001) (aD 3000 6001) rfl (f37_ok _ _ _ _ hr21))) trivial) ?_;refine tN ?_;obtain⟨K4,hK4,h⟩:=aI h;refine aaR (fun(x:Unit)=>match x with|()=>⟨187,[],[],[],0⟩) (fun x=>K4 x=some r) ?_ ?_
       ·refine aN [] [] [3,20,21] [3,6001] trivial ?_;refine aaJ (abG (α:=Nat×Nat) (fun x=>match x with|(_,n22)=>⟨187,[(3,.ptr 3 0),(20,.own 6001),(21,.i (n22:Int))],(f67z4 x2 x3 x4 x5 x6 x7 x8 r21),[],0⟩) (fun x=>iK x4 x6 x8 r21 K4 x.1 x.2=some r) (fun x=>x.1) (aY,0) LR h ?_)
        rintro⟨k3,n22⟩ h
        cases k3 with
        |zero=>exact nEx h
        |succ k3=>
        obtain⟨C3,hC3⟩:∃C,C=iK x4 x6 x8 r21 K4 k3:=⟨_,rfl⟩;replace h:=(iK.eq_2 ..).symm.trans h
        try rw[<-hC3]at h
        refine aaE (aN [] [] [3,20,21,158] [3,6001] trivial ?_);refine cK (decide ((n22:Int)<(lZ r21.2.2))) (fun hc9=> ?_) fun hc9=> ?_
        ·replace h:=aE hc9 h;refine aaG (tN (aaE (aaJ (aaE ?_))));obtain⟨ob50p,h⟩:=aB h;obtain⟨ob51,ob52,h⟩:=ck2 h;obtain⟨ob56,h⟩:=aB h;have ob61:true=true->((aCC r21 n22).1==x4)=true->(xW r21 n22 x4)=true:=fun _ h=>beq_iff_eq.2 h;refine bB [] [] ⟨187,[(3,.ptr 3 0),(20,.own 6001),(21,.i (n22:Int)),(178,.bool (((aCC r21 n22).1==x4)&&((aCC r21 n22).2.1==x6)))],(f67z4 x2 x3 x4 x5 x6 x7 x8 r21),[],0⟩ (ac6 (iN ob50p) ob51 (aaK ob52 (an2 (idA ((xW r21 n22 x4)=true)) (idA ((xW r21 n22 x4)=true)))) (an1 (idA ((xW r21 n22 x4)=true))) (aaK ob56 (an1 (idA ((xW r21 n22 x4)=true)))) (an1 (idA ((xW r21 n22 x4)=true))) (an2 (an2 (idA ((xW r21 n22 x4)=true)) (idA ((xW r21 n22 x4)=true))) ob61)) ?_;refine tN (cK (((aCC r21 n22).1==x4)&&((aCC r21 n22).2.1==x6)) (fun hc10=> ?_) fun hc10=> ?_)
         ·replace h:=aE hc10 h;refine aaE ?_;obtain⟨ob62p,h⟩:=aB h;obtain⟨ob63,h⟩:=aB h;refine aZ [] [] [4] [] (an2 (iN ob62p) ob63) ?_;refine tN ?_;obtain rfl:=aaD h;refine aaH (kR (tR (tR (kR (aR ?_)))));exact bK
         ·replace h:=aF hc10 h;refine aaG (kN (tN ?_));obtain⟨ob64p,h⟩:=aB h;refine bB [] [] ⟨187,[(3,.ptr 3 0),(20,.own 6001),(21,.i (((n22+1):Nat):Int))],(f67z4 x2 x3 x4 x5 x6 x7 x8 r21),[],0⟩ (an1 (iP ob64p)) ?_;rw[hC3]at h;exact lN (_,(n22+1)) LR h (aaM _)
        ·replace h:=aF hc9 h;refine abJ (tE (tE (kS ?_)));exact jN () LR h
       ·rintro⟨⟩ h;replace h:=(congrFun hK4 _).symm.trans h;refine aN [] [] [4] [] trivial ?_;obtain rfl:=aaD h;refine aaH ?_;exact bK
def oM (x1:List Y51) (x5:Int) (x7:aaA) (r9:Int) (K2:Nat->Option Int):Nat->(Nat×Nat)->Option Int
 |0,_=>none
 |k+1,(n10,n11)=>
  if(decide ((n11:Int)<(((x1).length:Nat):Int)))then(
  jn (fun(n14:Nat)=>
  chk (((n11:Int)+(1:Int))<=9223372036854775807)<|
  (oM x1 x5 x7 r9 K2 k) (n14,(n11+1))
  ) fun(K3:Nat->Option Int)=>
  (f52 ((x1.getD n11 (default:Y51)).1) ((x1.getD n11 (default:Y51)).2.1) ((x1.getD n11 (default:Y51)).2.2.1) ((x1.getD n11 (default:Y51)).2.2.2.1) ((x1.getD n11 (default:Y51)).2.2.2.2.1) ((x1.getD n11 (default:Y51)).2.2.2.2.2.1) ((x1.getD n11 (default:Y51)).2.2.2.2.2.2)).bind fun r12=>
  chk ((n11:Int)<(((x1).length:Nat):Int))<|
  chk (((decide (r12>=(0:Int)))==true)=true->0<=(n11:Int)/\(n11:Int)<(((x1).length:Nat):Int))<|
  chk ((((decide (r12>=(0:Int)))&&((x1.getD n11 (default:Y51)).2.2.2.1==x5))==true)=true->0<=(n11:Int)/\(n11:Int)<(((x1).length:Nat):Int))<|
  if(((decide (r12>=(0:Int)))&&((x1.getD n11 (default:Y51)).2.2.2.1==x5))&&(!(((x1.getD n11 (default:Y51)).2.2.2.2.2.1)==x7)))then(
  some (1:Int)
  )else(
  (f52 ((x1.getD n11 (default:Y51)).1) ((x1.getD n11 (default:Y51)).2.1) ((x1.getD n11 (default:Y51)).2.2.1) ((x1.getD n11 (default:Y51)).2.2.2.1) ((x1.getD n11 (default:Y51)).2.2.2.2.1) ((x1.getD n11 (default:Y51)).2.2.2.2.2.1) ((x1.getD n11 (default:Y51)).2.2.2.2.2.2)).bind fun r13=>
  chk ((n11:Int)<(((x1).length:Nat):Int))<|
  if(r13==r9)then(
  chk (((n10:Int)+(1:Int))<=9223372036854775807)<|
  K3 (n10+1)
  )else(
  K3 n10
  )
  )
  )else(
  K2 n10
  )
abbrev f46z0 (x2 x3 x4 x5 x6:Int) (x7 x8:aaA):List V:=[.i x2,.i x3,.i x4,.i x5,.i x6,.str x7,.str x8,.opq,.opq,.opq,.opq,.opq,.opq,.opq,.opq,.opq,.opq,.opq,.opq,.opq,.opq,.opq,.opq,.opq,.opq,.opq,.opq,.opq]
abbrev f46z1 (x3 x4:Int):=(((x3==(2:Int))&&(decide (x4>=(0:Int))))&&(decide (x4<(6:Int))))
abbrev rG (r12:Int):=(decide (r12>=(0:Int)))
abbrev aAw (x2 x3 x4 x5 x6:Int) (x7 x8:aaA):aJ:=[(3,.cells 51 (f46z0 x2 x3 x4 x5 x6 x7 x8))]
abbrev f46z4 (x3 x4:Int):=(((x3==(2:Int))&&(decide (x4>=(0:Int))))==true)
abbrev yE (r12:Int):=((rG r12)==true)
abbrev f46z6 (x3:Int):=((x3==(3:Int))==true)
def f46 (x1:List Y51) (x2 x3 x4 x5 x6:Int) (x7 x8:aaA):Option Int:=
 jn (fun(_:Unit)=>
 eO ((((x3==(2:Int))&&(decide (x4>=(0:Int))))&&(decide (x4<(6:Int))))==true) (f67 x1 x2 x3 x4 x5 x6 x7 x8) fun r16=>
 if((((x3==(2:Int))&&(decide (x4>=(0:Int))))&&(decide (x4<(6:Int))))&&(!r16))then(
 some (3:Int)
 )else(
 some (0:Int)
 )
 ) fun(K1:Unit->Option Int)=>
 (f52 x2 x3 x4 x5 x6 x7 x8).bind fun r9=>
 if(decide (r9>=(0:Int)))then(
 jn (fun(n15:Nat)=>
 if((x3==(3:Int))&&(x5 !=(n15:Int)))then(
 some (2:Int)
 )else(
 K1 ()
 )
 ) fun(K2:Nat->Option Int)=>
 oM x1 x5 x7 r9 K2 aY (0,0)
 )else(
 K1 ()
 )
theorem f46_ok (x1:List Y51) (x2 x3 x4 x5 x6:Int) (x7 x8:aaA) (r:Int) (h:f46 x1 x2 x3 x4 x5 x6 x7 x8=some r):aG Tryz.prog 46 [] [] [] [vL 28 sB (default:Y51) x1,.agg [.i x2,.i x3,.i x4,.i x5,.i x6,.str x7,.str x8,.opq,.opq,.opq,.opq,.opq,.opq,.opq,.opq,.opq,.opq,.opq,.opq,.opq,.opq,.opq,.opq,.opq,.opq,.opq,.opq,.opq]] (.i r) []:=by
 unfold f46 at h;refine aG.body 0 _ _ Tryz.func46 rfl Tryz.ntmps46 rfl rfl ?_;refine aN [] [] [0,3] [3] trivial ?_;obtain⟨K1,hK1,h⟩:=aI h;refine aaR (fun(x:Unit)=>match x with|()=>⟨81,[(0,aO x1),(3,.ptr 3 0)],(aAw x2 x3 x4 x5 x6 x7 x8),[],0⟩) (fun x=>K1 x=some r) ?_ ?_
 ·refine aaE ?_;obtain⟨r9,hr9,h⟩:=bind_ok h;refine aZ [] [(1,⟨[.agg (f46z0 x2 x3 x4 x5 x6 x7 x8)],[],[],[],.i r9,[],[],[]⟩)] [0,3,5] [3] (an1 (cpT (aBx _ _ _ _ _ _ _ _ hr9))) ?_;refine tN (bC [] [] ⟨81,[(0,aO x1),(3,.ptr 3 0),(5,.i r9),(11,.bool (decide (r9>=(0:Int))))],(aAw x2 x3 x4 x5 x6 x7 x8),[],0⟩ trivial ?_);refine cK (decide (r9>=(0:Int))) (fun hc1=> ?_) fun hc1=> ?_
  ·replace h:=aE hc1 h;refine aN [] [] [0,3,5,6] [3] trivial ?_;obtain⟨K2,hK2,h⟩:=aI h;refine aaR (α:=Nat) (fun(n15:Nat)=>⟨81,[(0,aO x1),(3,.ptr 3 0),(6,.i (n15:Int))],(aAw x2 x3 x4 x5 x6 x7 x8),[],0⟩) (fun x=>K2 x=some r) ?_ ?_
   ·refine bC [] [] ⟨81,[(0,aO x1),(3,.ptr 3 0),(5,.i r9),(6,.i (0:Int)),(7,.i (0:Int))],(aAw x2 x3 x4 x5 x6 x7 x8),[],0⟩ trivial ?_;refine aaJ (abG (α:=Nat×(Nat×Nat)) (fun x=>match x with|(_,n10,n11)=>⟨81,[(0,aO x1),(3,.ptr 3 0),(5,.i r9),(6,.i (n10:Int)),(7,.i (n11:Int))],(aAw x2 x3 x4 x5 x6 x7 x8),[],0⟩) (fun x=>oM x1 x5 x7 r9 K2 x.1 x.2=some r) (fun x=>x.1) (aY,0,0) LR h ?_)
    rintro⟨k0,n10,n11⟩ h
    cases k0 with
    |zero=>exact nEx h
    |succ k0=>
    obtain⟨C0,hC0⟩:∃C,C=oM x1 x5 x7 r9 K2 k0:=⟨_,rfl⟩;replace h:=(oM.eq_2 ..).symm.trans h
    try rw[<-hC0]at h
    refine aaE (aN [] [] [0,3,5,6,7,15] [3] trivial ?_);refine cK (decide ((n11:Int)<(lZ x1))) (fun hc2=> ?_) fun hc2=> ?_
    ·replace h:=aE hc2 h;refine aaG (tN ?_);obtain⟨K3,hK3,h⟩:=aI h;refine aaR (α:=Nat) (fun(n14:Nat)=>⟨81,[(0,aO x1),(3,.ptr 3 0),(5,.i r9),(6,.i (n14:Int)),(7,.i (n11:Int))],(aAw x2 x3 x4 x5 x6 x7 x8),[],0⟩) (fun x=>K3 x=some r) ?_ ?_
     ·refine aaJ (aaE (aaE ?_));obtain⟨r12,hr12,h⟩:=bind_ok h;obtain⟨ob0p,h⟩:=aB h;obtain⟨ob1,h⟩:=aB h;have ob9:true=true->(rG r12)=true->(yE r12)=true:=fun _ h=>beq_iff_eq.2 h;obtain⟨ob10,h⟩:=aB h;refine aZ [] [(4,⟨[.agg (qpt (x1.getD n11 aH))],[],[],[],.i r12,[],[],[]⟩)] [0,3,5,6,7,43] [3] (ac6 (iN ob0p) (cpT (aBx _ _ _ _ _ _ _ _ hr12)) (aaK ob1 (an2 (idA ((yE r12)=true)) (idA ((yE r12)=true)))) (an1 (idA ((yE r12)=true))) (an1 (idA ((yE r12)=true))) (an1 (idA ((yE r12)=true))) (ac6 (an2 (idA ((yE r12)=true)) (idA ((yE r12)=true))) ob9 (aaK ob10 (an2 (idA ((((rG r12)&&((x1.getD n11 aH).2.2.2.1==x5))==true)=true)) (idA ((((rG r12)&&((x1.getD n11 aH).2.2.2.1==x5))==true)=true)))) (an1 (idA ((((rG r12)&&((x1.getD n11 aH).2.2.2.1==x5))==true)=true))) (an1 (idA ((((rG r12)&&((x1.getD n11 aH).2.2.2.1==x5))==true)=true))) (an1 (idA ((((rG r12)&&((x1.getD n11 aH).2.2.2.1==x5))==true)=true))) (an2 (an2 (idA ((((rG r12)&&((x1.getD n11 aH).2.2.2.1==x5))==true)=true)) (idA ((((rG r12)&&((x1.getD n11 aH).2.2.2.1==x5))==true)=true))) (bqA ((rG r12)&&((x1.getD n11 aH).2.2.2.1==x5)) true)))) ?_;refine tN (cK (((rG r12)&&((x1.getD n11 aH).2.2.2.1==x5))&&(!(((x1.getD n11 aH).2.2.2.2.2.1)==x7))) (fun hc3=> ?_) fun hc3=> ?_)
      ·replace h:=aE hc3 h;refine bC [] [] ⟨81,[(4,.i (1:Int))],[],[],0⟩ trivial ?_;obtain rfl:=aaD h;refine aaH (tR (kR (aR (tR (kR (aR (aR ?_)))))));exact bK
      ·replace h:=aF hc3 h;refine aaG (tN (aaE ?_));obtain⟨r13,hr13,h⟩:=bind_ok h;obtain⟨ob19p,h⟩:=aB h;refine aZ [] [(4,⟨[.agg (qpt (x1.getD n11 aH))],[],[],[],.i r13,[],[],[]⟩)] [0,3,5,6,7,50] [3] (an2 (iN ob19p) (cpT (aBx _ _ _ _ _ _ _ _ hr13))) ?_;refine tN (cK (r13==r9) (fun hc4=> ?_) fun hc4=> ?_)
       ·replace h:=aE hc4 h;obtain⟨ob20p,h⟩:=aB h;refine bB [] [] ⟨81,[(0,aO x1),(3,.ptr 3 0),(5,.i r9),(6,.i (((n10+1):Nat):Int)),(7,.i (n11:Int))],(aAw x2 x3 x4 x5 x6 x7 x8),[],0⟩ (an1 (iP ob20p)) ?_;refine kN ?_;exact jN ((n10+1)) LR h
       ·replace h:=aF hc4 h;refine aaG (kN ?_);exact jN (n10) LR h
     ·rintro n14 h;replace h:=(congrFun hK3 _).symm.trans h;obtain⟨ob21p,h⟩:=aB h;refine aZ [] [] [0,3,5,6,7] [3] (an1 (iP ob21p)) ?_;rw[hC0]at h;exact lN (_,n14,(n11+1)) LR h (aaM _)
    ·replace h:=aF hc2 h;refine abJ (tE (tE (kS ?_)));exact jN (n10) LR h
   ·rintro n15 h;replace h:=(congrFun hK2 _).symm.trans h;refine aaE ?_;have ob25:true=true->(x3==(3:Int))=true->(f46z6 x3)=true:=fun _ h=>beq_iff_eq.2 h;refine aZ [] [] [0,3,61] [3] (an3 (an1 (idA ((f46z6 x3)=true))) (an2 (idA ((f46z6 x3)=true)) (idA ((f46z6 x3)=true))) ob25) ?_;refine tN (cK ((x3==(3:Int))&&(x5 !=(n15:Int))) (fun hc5=> ?_) fun hc5=> ?_)
    ·replace h:=aE hc5 h;refine bC [] [] ⟨81,[(4,.i (2:Int))],[],[],0⟩ trivial ?_;obtain rfl:=aaD h;refine aaH (aR ?_);exact bK
    ·replace h:=aF hc5 h;refine aaG ?_;exact jN () LR h
  ·replace h:=aF hc1 h;refine aaG ?_;exact jN () LR h
 ·rintro⟨⟩ h;replace h:=(congrFun hK1 _).symm.trans h;refine aaE (aaE ?_);obtain⟨r16,hr16,h⟩:=bI h;have ob31:true=true->((x3==(2:Int))&&(decide (x4>=(0:Int))))=true->(f46z4 x3 x4)=true:=fun _ h=>beq_iff_eq.2 h;refine aZ [] [(16,⟨[aO x1,.agg (f46z0 x2 x3 x4 x5 x6 x7 x8)],[],[],[],.bool r16,[],[],[]⟩)] [80] [] (ac6 (an1 (idA (((x3==(2:Int))==true)=true))) (an1 (idA (((x3==(2:Int))==true)=true))) (bqA (x3==(2:Int)) true) (an1 (idA ((f46z4 x3 x4)=true))) (an1 (idA ((f46z4 x3 x4)=true))) ob31 (an3 (aaK (cpC fun hc=>(f67_ok _ _ _ _ _ _ _ _ _ (hr16 hc))) (an2 (idA (((f46z1 x3 x4)==true)=true)) (idA (((f46z1 x3 x4)==true)=true)))) (an1 (idA (((f46z1 x3 x4)==true)=true))) (bqA (f46z1 x3 x4) true))) ?_;refine tN (cK ((f46z1 x3 x4)&&(!r16)) (fun hc6=> ?_) fun hc6=> ?_)
  ·replace h:=aE hc6 h;refine bC [] [] ⟨81,[(4,.i (3:Int))],[],[],0⟩ trivial ?_;obtain rfl:=aaD h;refine aaH (tR ?_);exact bK
  ·replace h:=aF hc6 h;refine aaG (tN (aN [] [] [4] [] trivial ?_));obtain rfl:=aaD h;refine aaH ?_;exact bK
def oW (x1:List Y51) (K1:Unit->Option Tq6):Nat->Nat->Option Tq6
 |0,_=>none
 |k+1,n2=>
  if(decide ((n2:Int)<(((x1).length:Nat):Int)))then(
  (f46 (x1.take n2) ((x1.getD n2 (default:Y51)).1) ((x1.getD n2 (default:Y51)).2.1) ((x1.getD n2 (default:Y51)).2.2.1) ((x1.getD n2 (default:Y51)).2.2.2.1) ((x1.getD n2 (default:Y51)).2.2.2.2.1) ((x1.getD n2 (default:Y51)).2.2.2.2.2.1) ((x1.getD n2 (default:Y51)).2.2.2.2.2.2)).bind fun r3=>
  chk ((n2:Int)<=(((x1).length:Nat):Int))<|
  chk ((n2:Int)<(((x1).length:Nat):Int))<|
  if(decide (r3>(0:Int)))then(
  some ((n2:Int),r3,(0:Int))
  )else(
  chk (((n2:Int)+(1:Int))<=9223372036854775807)<|
  (oW x1 K1 k) (n2+1)
  )
  )else(
  K1 ()
  )
def f17 (x1:List Y51):Option Tq6:=
 jn (fun(_:Unit)=>
 some ((0:Int),(0:Int),(13:Int))
 ) fun(K1:Unit->Option Tq6)=>
 oW x1 K1 aY 0
theorem f17_ok (x1:List Y51) (r:Tq6) (h:f17 x1=some r):aG Tryz.prog 17 [] [] [] [vL 28 sB (default:Y51) x1] (.tup [.i r.1,.i r.2.1,.i r.2.2]) []:=by
 unfold f17 at h;refine aG.body 0 _ _ Tryz.func17 rfl Tryz.ntmps17 rfl rfl ?_;refine aN [] [] [0] [] trivial ?_;obtain⟨K1,hK1,h⟩:=aI h;refine aaR (fun(x:Unit)=>match x with|()=>⟨25,[],[],[],0⟩) (fun x=>K1 x=some r) ?_ ?_
 ·refine bC [] [] ⟨25,[(0,aO x1),(5,.i (0:Int))],[],[],0⟩ trivial ?_;refine aaJ (abG (α:=Nat×Nat) (fun x=>match x with|(_,n2)=>⟨25,[(0,aO x1),(5,.i (n2:Int))],[],[],0⟩) (fun x=>oW x1 K1 x.1 x.2=some r) (fun x=>x.1) (aY,0) LR h ?_)
  rintro⟨k0,n2⟩ h
  cases k0 with
  |zero=>exact nEx h
  |succ k0=>
  obtain⟨C0,hC0⟩:∃C,C=oW x1 K1 k0:=⟨_,rfl⟩;replace h:=(oW.eq_2 ..).symm.trans h
  try rw[<-hC0]at h
  refine aaE (aN [] [] [0,5,10] [] trivial ?_);refine cK (decide ((n2:Int)<(lZ x1))) (fun hc1=> ?_) fun hc1=> ?_
  ·replace h:=aE hc1 h;refine aaG (tN (aaE (aaJ (aaE ?_))));obtain⟨r3,hr3,h⟩:=bind_ok h;obtain⟨ob0p,h⟩:=aB h;obtain⟨ob1p,h⟩:=aB h;refine aZ [] [(7,⟨[aO (x1.take n2),.agg (qpt (x1.getD n2 aH))],[],[],[],.i r3,[],[],[]⟩)] [0,5,6] [] (an3 (iL ob0p) (iN ob1p) (cpL (c:=true) [] [] [.arr 28 n2 (bY sB aH x1),.agg (qpt (x1.getD n2 aH))] (fun _=>(f46_ok _ _ _ _ _ _ _ _ _ hr3)) (fun _=>⟨(VLe.takeL (by first|omega|(simp only[aaF,aaN,abB,abE,aaZ]at *;omega)|(simp;done)|(simp_all;done)|(simp_all;omega)|rfl)),.refl _,trivial⟩) (.inl rfl))) ?_;refine tN (bC [] [] ⟨25,[(0,aO x1),(5,.i (n2:Int)),(6,.i r3),(22,.bool (decide (r3>(0:Int))))],[],[],0⟩ trivial ?_);refine cK (decide (r3>(0:Int))) (fun hc2=> ?_) fun hc2=> ?_
   ·replace h:=aE hc2 h;refine aN [] [] [2,3,4] [] trivial ?_;obtain rfl:=aaD h;refine aaH (kR (tR (tR (kR (aR ?_)))));exact bK
   ·replace h:=aF hc2 h;refine aaG (kN (tN ?_));obtain⟨ob2p,h⟩:=aB h;refine bB [] [] ⟨25,[(0,aO x1),(5,.i (((n2+1):Nat):Int))],[],[],0⟩ (an1 (iP ob2p)) ?_;rw[hC0]at h;exact lN (_,(n2+1)) LR h (aaM _)
  ·replace h:=aF hc1 h;refine abJ (tE (tE (kS ?_)));exact jN () LR h
 ·rintro⟨⟩ h;replace h:=(congrFun hK1 _).symm.trans h;refine aN [] [] [2,3,4] [] trivial ?_;obtain rfl:=aaD h;refine aaH ?_;exact bK
def oP (x7:List Y51) (n9:Nat) (K2:(Nat×Nat)->Option Ty0):Nat->(Nat×Nat×Nat)->Option Ty0
 |0,_=>none
 |k+1,(n10,n11,n12)=>
  if(decide ((n12:Int)<(((x7).length:Nat):Int)))then(
  jn (fun((n14,n15):Nat×Nat)=>
  chk (((n12:Int)+(1:Int))<=9223372036854775807)<|
  (oP x7 n9 K2 k) (n14,n15,(n12+1))
  ) fun(K3:(Nat×Nat)->Option Ty0)=>
  jn (fun(n13:Nat)=>
  chk ((n12:Int)<(((x7).length:Nat):Int))<|
  chk (((((x7.getD n12 (default:Y51)).2.2.1==(n9:Int))&&(decide ((n9:Int)<(6:Int))))==true)=true->0<=(n12:Int)/\(n12:Int)<(((x7).length:Nat):Int))<|
  if((((x7.getD n12 (default:Y51)).2.2.1==(n9:Int))&&(decide ((n9:Int)<(6:Int))))&&((x7.getD n12 (default:Y51)).2.1==(2:Int)))then(
  chk (((n11:Int)+(1:Int))<=9223372036854775807)<|
  K3 (n13,(n11+1))
  )else(
  K3 (n13,n11)
  )
  ) fun(K4:Nat->Option Ty0)=>
  chk ((n12:Int)<(((x7).length:Nat):Int))<|
  chk (((((x7.getD n12 (default:Y51)).2.2.1==(n9:Int))&&(decide ((n9:Int)<(6:Int))))==true)=true->0<=(n12:Int)/\(n12:Int)<(((x7).length:Nat):Int))<|
  if((((x7.getD n12 (default:Y51)).2.2.1==(n9:Int))&&(decide ((n9:Int)<(6:Int))))&&((x7.getD n12 (default:Y51)).2.1==(3:Int)))then(
  chk (((n10:Int)+(1:Int))<=9223372036854775807)<|
  K4 (n10+1)
  )else(
  K4 n10
  )
  )else(
  K2 (n10,n11)
  )
def oQ (x6:List Ty4) (x7:List Y51) (K1:Ty0->Option Ty0):Nat->(aaA×Nat)->Option Ty0
 |0,_=>none
 |k+1,(s8,n9)=>
  if(decide ((n9:Int)<(((x6).length:Nat):Int)))then(
  jn (fun((n16,n17):Nat×Nat)=>
  (f58 (n16:Int)).bind fun r18=>
  (f58 (n17:Int)).bind fun r19=>
  chk ((n9:Int)<(((x6).length:Nat):Int))<|
  chk (s8.length+((x6.getD n9 (default:aaA×Bool×cU)).1).length<=9223372036854775807)<|
  chk ((s8++((x6.getD n9 (default:aaA×Bool×cU)).1)).length+([58,32]:aaA).length<=9223372036854775807)<|
  chk (((s8++((x6.getD n9 (default:aaA×Bool×cU)).1))++([58,32]:aaA)).length+r18.length<=9223372036854775807)<|
  chk ((((s8++((x6.getD n9 (default:aaA×Bool×cU)).1))++([58,32]:aaA))++r18).length+aAO.length<=9223372036854775807)<|
  chk (((((s8++((x6.getD n9 (default:aaA×Bool×cU)).1))++([58,32]:aaA))++r18)++aAO).length+r19.length<=9223372036854775807)<|
  chk ((((((s8++((x6.getD n9 (default:aaA×Bool×cU)).1))++([58,32]:aaA))++r18)++aAO)++r19).length+cs12.length<=9223372036854775807)<|
  chk (((n9:Int)+(1:Int))<=9223372036854775807)<|
  (oQ x6 x7 K1 k) (((((((s8++((x6.getD n9 (default:aaA×Bool×cU)).1))++([58,32]:aaA))++r18)++aAO)++r19)++cs12),(n9+1))
  ) fun(K2:(Nat×Nat)->Option Ty0)=>
  oP x7 n9 K2 aY (0,0,0)
  )else(
  K1 s8
  )
abbrev gE :=cU
abbrev lT (n9:Nat):=(decide ((n9:Int)<(6:Int)))
abbrev f31z2 :=([102,111,114,107]:aaA)
abbrev f31z3 :=([103,97,112]:aaA)
def f31 (x1:List Ty0) (x2:List Tq7) (x3:BitVec 16) (x4:List Ty1) (x5:List Int) (x6:List Ty4) (x7:List Y51):Option Ty0:=
 jn (fun(s20:aaA)=>
 (f17 x7).bind fun r21=>
 if(r21.2.2 !=(0:Int))then(
 chk (s20.length+([111,107,10]:aaA).length<=9223372036854775807)<|
 some (s20++([111,107,10]:aaA))
 )else(
 (f58 r21.1).bind fun r22=>
 chk (-9223372036854775808<=(r21.2.1-(1:Int))/\(r21.2.1-(1:Int))<=9223372036854775807)<|
 chk (0<=(r21.2.1-(1:Int))/\(r21.2.1-(1:Int))<(3:Int))<|
 chk ((((r21.2.1-(1:Int))).toNat)<3)<|
 chk (s20.length+(([([102,111,114,107]:aaA),([103,97,112]:aaA),cs13]:List Ty0).getD (((r21.2.1-(1:Int))).toNat) []).length<=9223372036854775807)<|
 chk ((s20++(([([102,111,114,107]:aaA),([103,97,112]:aaA),cs13]:List Ty0).getD (((r21.2.1-(1:Int))).toNat) [])).length+([32]:aaA).length<=9223372036854775807)<|
 chk (((s20++(([([102,111,114,107]:aaA),([103,97,112]:aaA),cs13]:List Ty0).getD (((r21.2.1-(1:Int))).toNat) []))++([32]:aaA)).length+r22.length<=9223372036854775807)<|
 chk ((((s20++(([([102,111,114,107]:aaA),([103,97,112]:aaA),cs13]:List Ty0).getD (((r21.2.1-(1:Int))).toNat) []))++([32]:aaA))++r22).length+([10]:aaA).length<=9223372036854775807)<|
 some ((((s20++(([([102,111,114,107]:aaA),([103,97,112]:aaA),cs13]:List Ty0).getD (((r21.2.1-(1:Int))).toNat) []))++([32]:aaA))++r22)++([10]:aaA))
 )
 ) fun(K1:Ty0->Option Ty0)=>
 oQ x6 x7 K1 aY ([],0)
theorem f31_ok (x1:List Ty0) (x2:List Tq7) (x3:BitVec 16) (x4:List Ty1) (x5:List Int) (x6:List Ty4) (x7:List Y51) (r:aaA) (h:f31 x1 x2 x3 x4 x5 x6 x7=some r):aG Tryz.prog 31 [(1,pT)] [] [] [.agg [vL 1 eS [] x1,vL 2 eSW (default:Tq7) x2,.b16 x3,vL 6 dL (default:aaA×Int×BitVec 16×aaB×aaB×cU) x4,vL 1 eI 0 x5,vL 3 aX (default:aaA×Bool×cU) x6],vL 28 sB (default:Y51) x7] (.str r) []:=by
 unfold f31 at h;refine aG.body 0 _ _ Tryz.func31 rfl Tryz.ntmps31 rfl rfl ?_;refine aN [] [] [1,2,1000001] [2] trivial ?_;refine bC [] [] ⟨107,[(1,aO x7),(2,.ptr 2 0),(5,.str []),(1000001,pT)],[(2,.cells 37 [cQ x1,dI x2,.b16 x3,vL 6 dL (default:aaA×Int×BitVec 16×aaB×aaB×(gE)) x4,fB x5,vL 3 aX (default:aaA×Bool×(gE)) x6])],[],0⟩ trivial ?_;obtain⟨K1,hK1,h⟩:=aI h;refine aaR (α:=aaA) (fun(s20:aaA)=>⟨107,[(1,aO x7),(5,.str s20),(1000001,pT)],[],[],0⟩) (fun x=>K1 x=some r) ?_ ?_
 ·refine aN [] [] [1,2,5,6,1000001] [2] trivial ?_;refine aaJ (abG (α:=Nat×(aaA×Nat)) (fun x=>match x with|(_,s8,n9)=>⟨107,[(1,aO x7),(2,.ptr 2 0),(5,.str s8),(6,.i (n9:Int)),(1000001,pT)],[(2,.cells 37 [cQ x1,dI x2,.b16 x3,vL 6 dL (default:aaA×Int×BitVec 16×aaB×aaB×(gE)) x4,fB x5,vL 3 aX (default:aaA×Bool×(gE)) x6])],[],0⟩) (fun x=>oQ x6 x7 K1 x.1 x.2=some r) (fun x=>x.1) (aY,[],0) LR h ?_)
  rintro⟨k0,s8,n9⟩ h
  cases k0 with
  |zero=>exact nEx h
  |succ k0=>
  obtain⟨C0,hC0⟩:∃C,C=oQ x6 x7 K1 k0:=⟨_,rfl⟩;replace h:=(oQ.eq_2 ..).symm.trans h
  try rw[<-hC0]at h
  refine aaE (aN [] [] [1,2,5,6,17,1000001] [2] trivial ?_);refine cK (decide ((n9:Int)<(lZ x6))) (fun hc1=> ?_) fun hc1=> ?_
  ·replace h:=aE hc1 h;refine aaG (tN (aaE (aaJ (bC [] [] ⟨107,[(1,aO x7),(2,.ptr 2 0),(5,.str s8),(6,.i (n9:Int)),(7,.i (0:Int)),(8,.i (0:Int)),(1000001,pT)],[(2,.cells 37 [cQ x1,dI x2,.b16 x3,vL 6 dL (default:aaA×Int×BitVec 16×aaB×aaB×(gE)) x4,fB x5,vL 3 aX (default:aaA×Bool×(gE)) x6])],[],0⟩ trivial ?_))));obtain⟨K2,hK2,h⟩:=aI h;refine aaR (fun(x:Nat×Nat)=>match x with|(n16,n17)=>⟨107,[(1,aO x7),(2,.ptr 2 0),(5,.str s8),(6,.i (n9:Int)),(7,.i (n16:Int)),(8,.i (n17:Int)),(1000001,pT)],[(2,.cells 37 [cQ x1,dI x2,.b16 x3,vL 6 dL (default:aaA×Int×BitVec 16×aaB×aaB×(gE)) x4,fB x5,vL 3 aX (default:aaA×Bool×(gE)) x6])],[],0⟩) (fun x=>K2 x=some r) ?_ ?_
   ·refine aN [] [] [1,2,5,6,7,8,9,1000001] [2] trivial ?_;refine aaJ (abG (α:=Nat×(Nat×Nat×Nat)) (fun x=>match x with|(_,n10,n11,n12)=>⟨107,[(1,aO x7),(2,.ptr 2 0),(5,.str s8),(6,.i (n9:Int)),(7,.i (n10:Int)),(8,.i (n11:Int)),(9,.i (n12:Int)),(1000001,pT)],[(2,.cells 37 [cQ x1,dI x2,.b16 x3,vL 6 dL (default:aaA×Int×BitVec 16×aaB×aaB×(gE)) x4,fB x5,vL 3 aX (default:aaA×Bool×(gE)) x6])],[],0⟩) (fun x=>oP x7 n9 K2 x.1 x.2=some r) (fun x=>x.1) (aY,0,0,0) LR h ?_)
    rintro⟨k1,n10,n11,n12⟩ h
    cases k1 with
    |zero=>exact nEx h
    |succ k1=>
    obtain⟨C1,hC1⟩:∃C,C=oP x7 n9 K2 k1:=⟨_,rfl⟩;replace h:=(oP.eq_2 ..).symm.trans h
    try rw[<-hC1]at h
    refine aaE (aN [] [] [1,2,5,6,7,8,9,23,1000001] [2] trivial ?_);refine cK (decide ((n12:Int)<(lZ x7))) (fun hc2=> ?_) fun hc2=> ?_
    ·replace h:=aE hc2 h;refine aaG (tN ?_);obtain⟨K3,hK3,h⟩:=aI h;refine aaR (fun(x:Nat×Nat)=>match x with|(n14,n15)=>⟨107,[(1,aO x7),(2,.ptr 2 0),(5,.str s8),(6,.i (n9:Int)),(7,.i (n14:Int)),(8,.i (n15:Int)),(9,.i (n12:Int)),(1000001,pT)],[(2,.cells 37 [cQ x1,dI x2,.b16 x3,vL 6 dL (default:aaA×Int×BitVec 16×aaB×aaB×(gE)) x4,fB x5,vL 3 aX (default:aaA×Bool×(gE)) x6])],[],0⟩) (fun x=>K3 x=some r) ?_ ?_
     ·refine aaJ ?_;obtain⟨K4,hK4,h⟩:=aI h;refine aaR (α:=Nat) (fun(n13:Nat)=>⟨107,[(1,aO x7),(2,.ptr 2 0),(5,.str s8),(6,.i (n9:Int)),(7,.i (n13:Int)),(8,.i (n11:Int)),(9,.i (n12:Int)),(1000001,pT)],[(2,.cells 37 [cQ x1,dI x2,.b16 x3,vL 6 dL (default:aaA×Int×BitVec 16×aaB×aaB×(gE)) x4,fB x5,vL 3 aX (default:aaA×Bool×(gE)) x6])],[],0⟩) (fun x=>K4 x=some r) ?_ ?_
      ·refine aaE ?_;obtain⟨ob0p,h⟩:=aB h;obtain⟨ob3,h⟩:=aB h;refine bB [] [] ⟨107,[(1,aO x7),(2,.ptr 2 0),(5,.str s8),(6,.i (n9:Int)),(7,.i (n10:Int)),(8,.i (n11:Int)),(9,.i (n12:Int)),(44,.bool ((((x7.getD n12 aH).2.2.1==(n9:Int))&&(lT n9))&&((x7.getD n12 aH).2.1==(3:Int)))),(1000001,pT)],[(2,.cells 37 [cQ x1,dI x2,.b16 x3,vL 6 dL (default:aaA×Int×BitVec 16×aaB×aaB×(gE)) x4,fB x5,vL 3 aX (default:aaA×Bool×(gE)) x6])],[],0⟩ (ac6 (iN ob0p) (an1 (idA ((((x7.getD n12 aH).2.2.1==(n9:Int))==true)=true))) (bqA ((x7.getD n12 aH).2.2.1==(n9:Int)) true) (aaK ob3 (an2 (idA (((((x7.getD n12 aH).2.2.1==(n9:Int))&&(lT n9))==true)=true)) (idA (((((x7.getD n12 aH).2.2.1==(n9:Int))&&(lT n9))==true)=true)))) (an1 (idA (((((x7.getD n12 aH).2.2.1==(n9:Int))&&(lT n9))==true)=true))) (an1 (idA (((((x7.getD n12 aH).2.2.1==(n9:Int))&&(lT n9))==true)=true))) (an2 (an1 (idA (((((x7.getD n12 aH).2.2.1==(n9:Int))&&(lT n9))==true)=true))) (bqA (((x7.getD n12 aH).2.2.1==(n9:Int))&&(lT n9)) true))) ?_;refine tN (cK ((((x7.getD n12 aH).2.2.1==(n9:Int))&&(lT n9))&&((x7.getD n12 aH).2.1==(3:Int))) (fun hc3=> ?_) fun hc3=> ?_)
       ·replace h:=aE hc3 h;obtain⟨ob10p,h⟩:=aB h;refine aZ [] [] [1,2,5,6,7,8,9,1000001] [2] (an1 (iP ob10p)) ?_;exact jN ((n10+1)) LR h
       ·replace h:=aF hc3 h;refine aaG ?_;exact jN (n10) LR h
      ·rintro n13 h;replace h:=(congrFun hK4 _).symm.trans h;refine aaE ?_;obtain⟨ob11p,h⟩:=aB h;obtain⟨ob14,h⟩:=aB h;refine aZ [] [] [1,2,5,6,7,8,9,65,1000001] [2] (ac6 (iN ob11p) (an1 (idA ((((x7.getD n12 aH).2.2.1==(n9:Int))==true)=true))) (bqA ((x7.getD n12 aH).2.2.1==(n9:Int)) true) (aaK ob14 (an2 (idA (((((x7.getD n12 aH).2.2.1==(n9:Int))&&(lT n9))==true)=true)) (idA (((((x7.getD n12 aH).2.2.1==(n9:Int))&&(lT n9))==true)=true)))) (an1 (idA (((((x7.getD n12 aH).2.2.1==(n9:Int))&&(lT n9))==true)=true))) (an1 (idA (((((x7.getD n12 aH).2.2.1==(n9:Int))&&(lT n9))==true)=true))) (an2 (an1 (idA (((((x7.getD n12 aH).2.2.1==(n9:Int))&&(lT n9))==true)=true))) (bqA (((x7.getD n12 aH).2.2.1==(n9:Int))&&(lT n9)) true))) ?_;refine tN (cK ((((x7.getD n12 aH).2.2.1==(n9:Int))&&(lT n9))&&((x7.getD n12 aH).2.1==(2:Int))) (fun hc4=> ?_) fun hc4=> ?_)
       ·replace h:=aE hc4 h;obtain⟨ob21p,h⟩:=aB h;refine bB [] [] ⟨107,[(1,aO x7),(2,.ptr 2 0),(5,.str s8),(6,.i (n9:Int)),(7,.i (n13:Int)),(8,.i (((n11+1):Nat):Int)),(9,.i (n12:Int)),(1000001,pT)],[(2,.cells 37 [cQ x1,dI x2,.b16 x3,vL 6 dL (default:aaA×Int×BitVec 16×aaB×aaB×(gE)) x4,fB x5,vL 3 aX (default:aaA×Bool×(gE)) x6])],[],0⟩ (an1 (iP ob21p)) ?_;refine kN ?_;exact jN (n13,(n11+1)) LR h
       ·replace h:=aF hc4 h;refine aaG (kN ?_);exact jN (n13,n11) LR h
     ·rintro⟨n14,n15⟩ h;replace h:=(congrFun hK3 _).symm.trans h;obtain⟨ob22p,h⟩:=aB h;refine aZ [] [] [1,2,5,6,7,8,9,1000001] [2] (an1 (iP ob22p)) ?_;rw[hC1]at h;exact lN (_,n14,n15,(n12+1)) LR h (aaM _)
    ·replace h:=aF hc2 h;refine abJ (tE (tE (kS ?_)));exact jN (n10,n11) LR h
   ·rintro⟨n16,n17⟩ h;replace h:=(congrFun hK2 _).symm.trans h;obtain⟨r18,hr18,h⟩:=bind_ok h;obtain⟨r19,hr19,h⟩:=bind_ok h;obtain⟨ob23p,h⟩:=aB h;obtain⟨ob24,ob25,ob26,ob27,ob28,h⟩:=ck5 h;obtain⟨ob29,h⟩:=aB h;refine aZ [] [(10,⟨[.i (n16:Int)],[],[],[],.str r18,[],[],[1]⟩),(14,⟨[.i (n17:Int)],[],[],[],.str r19,[],[],[1]⟩)] [1,2,5,6,1000001] [2] (ac6 (iN ob23p) ob24 ob25 (cpT (iO _ _ hr18)) ob26 ob27 (an3 (cpT (iO _ _ hr19)) ob28 ob29)) ?_;refine kN (tN ?_);obtain⟨ob30p,h⟩:=aB h;refine bB [] [] ⟨107,[(1,aO x7),(2,.ptr 2 0),(5,.str ((((((s8++((x6.getD n9 (default:aaA×Bool×(gE))).1))++([58,32]:aaA))++r18)++aAO)++r19)++cs12)),(6,.i (((n9+1):Nat):Int)),(1000001,pT)],[(2,.cells 37 [cQ x1,dI x2,.b16 x3,vL 6 dL (default:aaA×Int×BitVec 16×aaB×aaB×(gE)) x4,fB x5,vL 3 aX (default:aaA×Bool×(gE)) x6])],[],0⟩ (an1 (iP ob30p)) ?_;rw[hC0]at h;exact lN (_,((((((s8++((x6.getD n9 (default:aaA×Bool×(gE))).1))++([58,32]:aaA))++r18)++aAO)++r19)++cs12),(n9+1)) LR h (aaM _)
  ·replace h:=aF hc1 h;refine abJ (tE (tE (kS ?_)));exact jN (s8) LR h
 ·rintro s20 h;replace h:=(congrFun hK1 _).symm.trans h;refine aaE ?_;obtain⟨r21,hr21,h⟩:=bind_ok h;refine aZ [] [(1,⟨[aO x7],[],[],[],.tup [.i r21.1,.i r21.2.1,.i r21.2.2],[],[],[]⟩)] [5,10,11,12,1000001] [] (an1 (cpT (f17_ok _ _ hr21))) ?_;refine tN (aaE (aN [] [] [5,10,11,92,1000001] [] trivial ?_));refine cK (r21.2.2 !=(0:Int)) (fun hc5=> ?_) fun hc5=> ?_
  ·replace h:=aE hc5 h;refine aaE ?_;obtain⟨ob31,h⟩:=aB h;refine bB [] [] ⟨107,[(4,.str (s20++([111,107,10]:aaA)))],[],[],0⟩ (an1 ob31) ?_;refine tN ?_;obtain rfl:=aaD h;refine aaH (tR ?_);exact bK
  ·replace h:=aF hc5 h;refine aaG (tN (aaE ?_));obtain⟨r22,hr22,h⟩:=bind_ok h;obtain⟨ob32,ob33,ob34,ob35,ob36,h⟩:=ck5 h;obtain⟨ob37,ob38,h⟩:=ck2 h;refine aZ [] [(5,⟨[],[],[],[],.str (([(f31z2),(f31z3),cs13]:List Ty0).getD (((r21.2.1-(1:Int))).toNat) []),[],[0],[]⟩),(9,⟨[.i r21.1],[],[],[],.str r22,[],[],[1]⟩)] [4] [] (ac6 ob32 ob33 (aaK ob34 (show((dE 1 [.str (f31z2),.str (f31z3),.str cs13]) (((r21.2.1-(1:Int))).toNat) 0:V)= .str (([(f31z2),(f31z3),cs13]:List Ty0).getD (((r21.2.1-(1:Int))).toNat) [])from(aBc eS [] 1 ([(f31z2),(f31z3),cs13]:List Ty0) (fun _=>rfl) (show(((r21.2.1-(1:Int))).toNat)<3 from by assumption) (j:=0) (by decide)))) ob35 ob36 (cpT (iO _ _ hr22)) (an2 ob37 ob38)) ?_;refine tN ?_;obtain rfl:=aaD h;refine aaH ?_;exact bK
abbrev uX :=cU
abbrev f9z1 (r10:aaA×Int×BitVec 16×aaB×aaB×cU×Int):=((r10.2.2.2.2.2.2==(0:Int))==true)
abbrev f9z2 (x1 x2 x3:Int) (x4:List Ty3):List V:=[.int .u8 x1,.int .u8 x2,.int .u8 x3,vL 6 eT129 (default:Int×Int×Int×aaB×aaB×(uX)) x4]
def f9 (x1 x2 x3:Int) (x4:List Ty3) (x5:List Y51):Option Bool:=
 (f11).bind fun r6=>
 eO ((!r6)==false) (f16 x5) fun r7=>
 if((!r6)||(!r7))then(
 (f11).bind fun r8=>
 some r8
 )else(
 (f28 x1 x2 x3 x4).bind fun r9=>
 (f29 r9.1 r9.2.2.1 r9.2.1 r9.2.2.2.1 r9.2.2.2.2.1 r9.2.2.2.2.2 (0:Int) false).bind fun r10=>
 eO ((r10.2.2.2.2.2.2==(0:Int))==true) (f30 r9.1 r9.2.2.1 r9.2.1 r9.2.2.2.1 r9.2.2.2.2.1 r9.2.2.2.2.2 x5) fun r11=>
 eO ((r10.2.2.2.2.2.2==(0:Int))==true) (f31 r9.1 r9.2.2.1 r9.2.1 r9.2.2.2.1 r9.2.2.2.2.1 r9.2.2.2.2.2 x5) fun r12=>
 some ((r10.2.2.2.2.2.2==(0:Int))&&(r11==r12))
 )
theorem f9_ok (x1 x2 x3:Int) (x4:List Ty3) (x5:List Y51) (r:Bool) (h:f9 x1 x2 x3 x4 x5=some r):aG Tryz.prog 9 [(0,.elem 4 1 T0F 0 0),(1,pT),(2,bT),(3,bT)] [] [] [.agg [.int .u8 x1,.int .u8 x2,.int .u8 x3,vL 6 eT129 (default:Int×Int×Int×aaB×aaB×cU) x4],vL 28 sB (default:Y51) x5] (.bool r) []:=by
 unfold f9 at h;refine aG.body 0 _ _ Tryz.func9 rfl Tryz.ntmps9 rfl rfl ?_;refine aN [] [] [1,2,1000000,1000001,1000002,1000003] [2] trivial ?_;refine aaE (aaE ?_);obtain⟨r6,hr6,h⟩:=bind_ok h;obtain⟨r7,hr7,h⟩:=bI h;refine aZ [] [(0,⟨[],[],[],[],.bool r6,[],[],[1,2,3]⟩),(4,⟨[aO x5],[],[],[],.bool r7,[],[],[]⟩)] [1,2,14,1000000,1000001,1000002,1000003] [2] (an4 (cpT (f11_ok _ hr6)) (aaK (cpC fun hc=>(f16_ok _ _ (hr7 hc))) (an1 (idA (((!r6)==false)=true)))) (an1 (idA (((!r6)==false)=true))) (bqA (!r6) false)) ?_;refine tN (cK ((!r6)||(!r7)) (fun hc1=> ?_) fun hc1=> ?_)
 ·replace h:=aE hc1 h;refine aaE ?_;obtain⟨r8,hr8,h⟩:=bind_ok h;refine bB [] [(0,⟨[],[],[],[],.bool r8,[],[],[1,2,3]⟩)] ⟨35,[(4,.bool r8)],[],[],0⟩ (an1 (cpT (f11_ok _ hr8))) ?_;refine tN ?_;obtain rfl:=aaD h;refine aaH (tR ?_);exact bK
 ·replace h:=aF hc1 h;refine aaG (tN (aaE ?_));obtain⟨r9,hr9,h⟩:=bind_ok h;refine bB [] [(1,⟨[.agg (f9z2 x1 x2 x3 x4)],[],[],[(6001,bR r9.2.2.1),(6002,bL 73 6 dL (default:aaA×Int×BitVec 16×aaB×aaB×(uX)) r9.2.2.2.1),(6003,cG r9.2.2.2.2.1),(6004,bL 132 3 aX (default:aaA×Bool×(uX)) r9.2.2.2.2.2)],.agg [cQ r9.1,.own 6001,.b16 r9.2.1,.own 6002,.own 6003,.own 6004],[6001,6002,6003,6004],[],[]⟩)] ⟨35,[(1,aO x5),(5,.ptr 5 0),(1000000,.elem 4 1 T0F 0 0),(1000001,pT),(1000002,bT),(1000003,bT)],[(5,.cells 37 [cQ r9.1,.own 6001,.b16 r9.2.1,.own 6002,.own 6003,.own 6004]),(6001,bR r9.2.2.1),(6002,bL 73 6 dL (default:aaA×Int×BitVec 16×aaB×aaB×(uX)) r9.2.2.2.1),(6003,cG r9.2.2.2.2.1),(6004,bL 132 3 aX (default:aaA×Bool×(uX)) r9.2.2.2.2.2)],[],0⟩ (an2 (cpT (aG.ren (aV 3003 6004) (aD 3003 6004) rfl (aG.ren (aV 3002 6003) (aD 3002 6003) rfl (aG.ren (aV 3001 6002) (aD 3001 6002) rfl (aG.ren (aV 3000 6001) (aD 3000 6001) rfl (f28_ok _ _ _ _ _ hr9)))))) trivial) ?_;refine tN (aaE (aaS (aaI (adI 6001 rfl rfl) (LR (s':=⟨35,[(1,aO x5),(5,.ptr 5 0),(1000000,.elem 4 1 T0F 0 0),(1000001,pT),(1000002,bT),(1000003,bT)],[(5,.cells 37 [cQ r9.1,dI r9.2.2.1,.b16 r9.2.1,.own 6002,.own 6003,.own 6004]),(6002,bL 73 6 dL (default:aaA×Int×BitVec 16×aaB×aaB×(uX)) r9.2.2.2.1),(6003,cG r9.2.2.2.2.1),(6004,bL 132 3 aX (default:aaA×Bool×(uX)) r9.2.2.2.2.2)],[],0⟩))) ?_));refine aaS (aaI (adI 6002 rfl rfl) (LR (s':=⟨35,[(1,aO x5),(5,.ptr 5 0),(1000000,.elem 4 1 T0F 0 0),(1000001,pT),(1000002,bT),(1000003,bT)],[(5,.cells 37 [cQ r9.1,dI r9.2.2.1,.b16 r9.2.1,vL 6 dL (default:aaA×Int×BitVec 16×aaB×aaB×(uX)) r9.2.2.2.1,.own 6003,.own 6004]),(6003,cG r9.2.2.2.2.1),(6004,bL 132 3 aX (default:aaA×Bool×(uX)) r9.2.2.2.2.2)],[],0⟩))) ?_;refine aaS (aaI (adI 6003 rfl rfl) (LR (s':=⟨35,[(1,aO x5),(5,.ptr 5 0),(1000000,.elem 4 1 T0F 0 0),(1000001,pT),(1000002,bT),(1000003,bT)],[(5,.cells 37 [cQ r9.1,dI r9.2.2.1,.b16 r9.2.1,vL 6 dL (default:aaA×Int×BitVec 16×aaB×aaB×(uX)) r9.2.2.2.1,fB r9.2.2.2.2.1,.own 6004]),(6004,bL 132 3 aX (default:aaA×Bool×(uX)) r9.2.2.2.2.2)],[],0⟩))) ?_;refine aaS (aaI (adI 6004 rfl rfl) (LR (s':=⟨35,[(1,aO x5),(5,.ptr 5 0),(1000000,.elem 4 1 T0F 0 0),(1000001,pT),(1000002,bT),(1000003,bT)],[(5,.cells 37 [cQ r9.1,dI r9.2.2.1,.b16 r9.2.1,vL 6 dL (default:aaA×Int×BitVec 16×aaB×aaB×(uX)) r9.2.2.2.1,fB r9.2.2.2.2.1,vL 3 aX (default:aaA×Bool×(uX)) r9.2.2.2.2.2])],[],0⟩))) ?_;obtain⟨r10,hr10,h⟩:=bind_ok h;refine aZ [] [(2,⟨[.agg [cQ r9.1,dI r9.2.2.1,.b16 r9.2.1,vL 6 dL (default:aaA×Int×BitVec 16×aaB×aaB×(uX)) r9.2.2.2.1,fB r9.2.2.2.2.1,vL 3 aX (default:aaA×Bool×(uX)) r9.2.2.2.2.2],.agg [.i (0:Int),.bool false]],[],[],[],.tup [.agg [.str r10.1,.i r10.2.1,.b16 r10.2.2.1,gR r10.2.2.2.1,gR r10.2.2.2.2.1,dN r10.2.2.2.2.2.1],.i r10.2.2.2.2.2.2],[],[],[]⟩)] [1,5,7,1000000,1000001,1000002,1000003] [5] (an2 (cpT (f29_ok _ _ _ _ _ _ _ _ _ hr10)) trivial) ?_;refine tN (aaE ?_);obtain⟨r11,hr11,h⟩:=bI h;obtain⟨r12,hr12,h⟩:=bI h;have ob9:true=true->(r10.2.2.2.2.2.2==(0:Int))=true->(f9z1 r10)=true:=fun _ h=>beq_iff_eq.2 h;refine bB [] [(5,⟨[.agg [cQ r9.1,dI r9.2.2.1,.b16 r9.2.1,vL 6 dL (default:aaA×Int×BitVec 16×aaB×aaB×(uX)) r9.2.2.2.1,fB r9.2.2.2.2.1,vL 3 aX (default:aaA×Bool×(uX)) r9.2.2.2.2.2],aO x5],[],[],[],.str r11,[],[],[0,1,2,3]⟩),(8,⟨[.agg [cQ r9.1,dI r9.2.2.1,.b16 r9.2.1,vL 6 dL (default:aaA×Int×BitVec 16×aaB×aaB×(uX)) r9.2.2.2.1,fB r9.2.2.2.2.1,vL 3 aX (default:aaA×Bool×(uX)) r9.2.2.2.2.2],aO x5],[],[],[],.str r12,[],[],[1]⟩)] ⟨35,[(4,.bool ((r10.2.2.2.2.2.2==(0:Int))&&(r11==r12)))],[],[],0⟩ (an4 (aaK (cpC fun hc=>(f30_ok _ _ _ _ _ _ _ _ (hr11 hc))) (an2 (idA ((f9z1 r10)=true)) (idA ((f9z1 r10)=true)))) (aaK (cpC fun hc=>(f31_ok _ _ _ _ _ _ _ _ (hr12 hc))) (an2 (idA ((f9z1 r10)=true)) (idA ((f9z1 r10)=true)))) (an2 (idA ((f9z1 r10)=true)) (idA ((f9z1 r10)=true))) ob9) ?_;refine tN ?_;obtain rfl:=aaD h;refine aaH ?_;exact bK
end Go.Abs
namespace Go.Abs
abbrev abF:=@List.drop_eq_nil_of_le
abbrev afJ:=@List.drop_eq_getElem_cons
theorem aA {p:Prop} [Decidable p] {α:Type} {x:Option α} (h:p):chk p x=x:=if_pos h
theorem aM {p:Prop} [Decidable p] {α:Type} {x y:α} (h:p):(if decide p=true then x else y)=x:=if_pos (abN h)
theorem aK {p:Prop} [Decidable p] {α:Type} {x y:α} (h:¬p):(if decide p=true then x else y)=y:=if_neg (by simpa using h)
theorem bG {α β:Type} (K:α->Option β) (x:(α->Option β)->Option β):jn K x=x K:=rfl
theorem eH {α β:Type} [Inhabited α] {x:Option α} {k:α->Option β}:eO true x k=x.bind k:=rfl
theorem eX {α β:Type} [Inhabited α] {x:Option α} {k:α->Option β}:eO false x k=k default:=rfl
theorem aC {α β:Type} (a:α) (f:α->Option β):(some a).bind f=f a:=rfl
theorem abc_eq {α:Type} [DecidableEq α] {q:Prop} [Decidable q] {x y:Option α} (h:q->x=y):abc q x y=y:=by
 unfold abc both;split
 ·rename_i hq;rw[h hq];simp
 ·rfl
theorem fuel_lt {n:Nat} (h:n<=18446744073709551615):n<aY:=by unfold aY;omega
theorem getD_drop {α:Type} (x:List α) (n:Nat) (d:α) (h:n<x.length):x.drop n=x.getD n d::x.drop (n+1):=by
 rw[afJ h];simp[aaC,h]
theorem uU {α S R:Type} (L:Nat->Nat×S->Option R) (x:List α) (d:α) (Inv:Nat->S->Prop) (g:S->α->S) (K:S->Option R)
  (h:∀k n s,n<x.length->Inv n s->L (k+1) (n,s)=L k (n+1,g s (x.getD n d)))
  (hI:∀n s,n<x.length->Inv n s->Inv (n+1) (g s (x.getD n d)))
  (he:∀k s,Inv x.length s->L (k+1) (x.length,s)=K s):∀c k n s,n+c=x.length->c<k->Inv n s->L k (n,s)=K ((x.drop n).foldl g s)
 |0,k,n,s,hn,hk,hi=>by
  obtain⟨k,rfl⟩:∃q,k=q+1:=⟨k-1,by omega⟩
  obtain rfl:n=x.length:=by omega
  rw[he k s hi,abF (aaY _)];rfl
 |c+1,k,n,s,hn,hk,hi=>by
  obtain⟨k,rfl⟩:∃q,k=q+1:=⟨k-1,by omega⟩
  have hlt:n<x.length:=by omega
  rw[h k n s hlt hi,getD_drop x n d hlt]
  exact uU L x d Inv g K h hI he c k (n+1) _ (by omega) (by omega) (hI n s hlt hi)
theorem foldl_inv {α S:Type} (Inv:Nat->S->Prop) (g:S->α->S) (d:α) (x:List α) (hI:∀n s,n<x.length->Inv n s->Inv (n+1) (g s (x.getD n d))) (s:S) (h0:Inv 0 s):Inv x.length (x.foldl g s):=by
 suffices H:∀c n s,n+c=x.length->Inv n s->Inv x.length ((x.drop n).foldl g s) by simpa using H x.length 0 s (by omega) h0
 intro c
 induction c with
 |zero=>
  intro n s hn hi;obtain rfl:n=x.length:=by omega
  rw[abF (aaY _)];exact hi
 |succ c ih=>
  intro n s hn hi;have hlt:n<x.length:=by omega
  rw[getD_drop x n d hlt];exact ih (n+1) _ (by omega) (hI n s hlt hi)
theorem uW {α R:Type} (L:Nat->Nat->Option R) (x:List α) (d:α) (p:α->Bool) (r:Nat->Option R) (K:Option R)
  (h:∀k n,n<x.length->L (k+1) n=if p (x.getD n d)=true then r n else L k (n+1))
  (he:∀k,L (k+1) x.length=K):∀c k n,n+c=x.length->c<k->
   (∃m,n<=m/\m<x.length/\p (x.getD m d)=true/\L k n=r m/\(x.drop n).any p=true)\/(L k n=K/\(x.drop n).any p=false)
 |0,k,n,hn,hk=>by
  obtain⟨k,rfl⟩:∃q,k=q+1:=⟨k-1,by omega⟩
  obtain rfl:n=x.length:=by omega
  exact .inr ⟨he k,by rw[abF (aaY _)];rfl⟩
 |c+1,k,n,hn,hk=>by
  obtain⟨k,rfl⟩:∃q,k=q+1:=⟨k-1,by omega⟩
  have hlt:n<x.length:=by omega
  rw[h k n hlt,getD_drop x n d hlt]
  by_cases hp:p (x.getD n d)=true
  ·rw[if_pos hp];exact .inl ⟨n,aaY _,hlt,hp,rfl,by rw[adH,hp];rfl⟩
  ·rw[if_neg hp]
   have hp':p (x.getD n d)=false:=by simpa using hp
   rw[adH,hp',adG]
   rcases uW L x d p r K h he c k (n+1) (by omega) (by omega)with⟨m,h1,h2⟩|h2
   ·exact .inl ⟨m,by omega,h2⟩
   ·exact .inr h2
theorem aB1 {α R:Type} (L:Nat->Nat->Option R) (x:List α) (d:α) (p:α->Bool) (r:Option R) (K:Option R)
  (h:∀k n,n<x.length->L (k+1) n=if p (x.getD n d)=true then r else L k (n+1))
  (he:∀k,L (k+1) x.length=K) (k:Nat) (hk:x.length<k):L k 0=if x.any p=true then r else K:=by
 rcases uW L x d p (fun _=>r) K h he x.length k 0 (by omega) hk with⟨m,_,_,_,h1,h2⟩|⟨h1,h2⟩
 ·rw[h1,if_pos (by simpa using h2)]
 ·rw[h1,if_neg (by simpa using h2)]
end Go.Abs
