/- Part 25 of the proof: X54A, Pl. -/
import Derived.Test.YtfkhgbcggabkjaaGreatDoorMonpreZ24
namespace Go.Abs
open Go Go.Proofs
set_option maxRecDepth 100000
set_option maxHeartbeats 4000000
theorem f12_ok (x1:List Tq3) (r:List Y51) (h:f12 x1=some r):aH Tryz.prog 12 [] [] [] [vL 4 cO (default:Tq3) x1] (.own 3000) [(3000,bL 51 28 aAx (default:Y51) r)]:=by
 unfold f12 at h;refine aH.body 0 _ _ Tryz.func12 rfl Tryz.ntmps12 rfl rfl ?_;refine bJ [] [] [0] [] trivial ?_;refine bJ [] [] [0,3] [] trivial ?_;refine bJ [] [] [0,3,4] [] trivial ?_;refine aU [] [] ⟨220,[(0,bE x1),(3,.nils),(4,.nils),(5,.own 21)],[(21,.rows 3 1 2 (dH 1 [.i (0:Int),.i (0:Int)]))],[],0⟩ trivial ?_;refine AWp.le (Le.mk (s':=⟨220,[(0,bE x1),(3,.nils),(4,.nils),(5,.own 21)],[(21,aQ [(0:Int),(0:Int)])],[],0⟩) rfl rfl ⟨.refl _,.refl _,.refl _,.refl _,trivial⟩ ⟨⟨_,rfl,(BLe.of (RL.lst (enc:=eI) [(0:Int),(0:Int)] rfl rfl (fun _=>rfl)))⟩,trivial⟩) ?_;refine aU [] [] ⟨220,[(0,bE x1),(3,.nils),(4,.nils),(5,.own 21),(6,.own 22)],[(21,aQ [(0:Int),(0:Int)]),(22,.rows 88 3 0 (dH 3 []))],[],0⟩ trivial ?_;refine AWp.le (Le.mk (s':=⟨220,[(0,bE x1),(3,.nils),(4,.nils),(5,.own 21),(6,.own 22)],[(21,aQ [(0:Int),(0:Int)]),(22,aJ [])],[],0⟩) rfl rfl ⟨.refl _,.refl _,.refl _,.refl _,.refl _,trivial⟩ ⟨⟨_,rfl,.refl _⟩,⟨_,rfl,(BLe.of (RL.lst (enc:=bW) [] rfl rfl (fun _=>rfl)))⟩,trivial⟩) ?_;refine AWp.seq ?_;have ob0:0≤(4:Int)∧(4:Int)≤(4:Int)∧(8:Int) *(4:Int)≤281474976710656∧(4:Int)≤9223372036854775807:=by first|decide|omega|simp|(intro h;cases h)
 refine aZ [] [] ⟨220,[(0,bE x1),(3,.nils),(4,.nils),(5,.own 21),(6,.own 22),(7,.own 23)],[(21,aQ [(0:Int),(0:Int)]),(22,aJ []),(23,.rows 3 1 4 (repF [.i (0:Int)]))],[],0⟩ (an1 ob0) ?_;refine tN ?_;refine AWp.le (Le.mk (s':=⟨220,[(0,bE x1),(3,.nils),(4,.nils),(5,.own 21),(6,.own 22),(7,.own 23)],(f12z23),[],0⟩) rfl rfl ⟨.refl _,.refl _,.refl _,.refl _,.refl _,.refl _,trivial⟩ ⟨⟨_,rfl,.refl _⟩,⟨_,rfl,.refl _⟩,⟨_,rfl,(BLe.of (RL.rep ((0:Int):Int) rfl))⟩,trivial⟩) ?_;obtain⟨K1,hK1,h⟩:=aS h;refine AWp.join (α:=List Y51) (fun(l42:List Y51)=>⟨220,[(3,.own 5003)],[(5003,aI l42)],[],0⟩) (fun x=>K1 x=some r) ?_ ?_
 ·
  refine aU [] [] ⟨220,[(0,bE x1),(3,.nils),(4,.nils),(5,.own 21),(6,.own 22),(7,.own 23),(8,.i (0:Int))],(f12z23),[],0⟩ trivial ?_;refine AWp.block ?_;refine AWp.loopL (α:=Nat×(Nat×List Int×(vN)×List Int×List Y51×List Ty0)) (fun x=>match x with|(_,n2,l3,l4,l5,l6,l7)=>⟨220,(f12z24 x1 n2),[(21,aQ l3),(22,aJ l4),(23,aQ l5),(5003,aI l6),(5004,aG l7)],[],0⟩) (fun x=>eN x1 K1 x.1 x.2=some r) (fun x=>x.1) (bG,0,[(0:Int),(0:Int)],[],(aAh),[],[]) (Le.trans (Le.trans (Le.nilOwn 3 5003 51 28 (cD aAx aL []) rfl rfl (Nat.le_of_ble_eq_true rfl)) (LR (s':=⟨220,[(0,bE x1),(3,.own 5003),(4,.nils),(5,.own 21),(6,.own 22),(7,.own 23),(8,.i (0:Int))],[(21,aQ [(0:Int),(0:Int)]),(22,aJ []),(23,aQ (aAh)),(5003,aI [])],[],0⟩))) (Le.trans (Le.trans (Le.nilOwn 4 5004 9 1 (cD eS [] []) rfl rfl (Nat.le_of_ble_eq_true rfl)) (LR (s':=⟨220,[(0,bE x1),(3,.own 5003),(4,.own 5004),(5,.own 21),(6,.own 22),(7,.own 23),(8,.i (0:Int))],[(21,aQ [(0:Int),(0:Int)]),(22,aJ []),(23,aQ (aAh)),(5003,aI []),(5004,aG [])],[],0⟩))) (LR (s':=⟨220,[(0,bE x1),(3,.own 5003),(4,.own 5004),(5,.own 21),(6,.own 22),(7,.own 23),(8,.i (0:Int))],[(21,aQ [(0:Int),(0:Int)]),(22,aJ []),(23,aQ (aAh)),(5003,aI []),(5004,aG [])],[],0⟩)))) h ?_
  rintro⟨k0,n2,l3,l4,l5,l6,l7⟩ h
  cases k0 with
  |zero=>exact nomatch (show none=some r from h)
  |succ k0=>
  obtain⟨C0,hC0⟩:∃C,C=eN x1 K1 k0:=⟨_,rfl⟩;replace h:=(eN.eq_2 ..).symm.trans h
  try rw[←hC0]at h
  refine AWp.seq (AWp.seq ?_);have ob1:=idA (((decide ((n2:Int)<(lZ x1)))==true)=true);have ob2:=bqA (decide ((n2:Int)<(lZ x1))) true;refine aZ [] [] ⟨220,[(0,bE x1),(3,.own 5003),(4,.own 5004),(5,.own 21),(6,.own 22),(7,.own 23),(8,.i (n2:Int)),(31,.bool ((decide ((n2:Int)<(lZ x1)))&&(decide ((n2:Int)<(50:Int)))))],[(21,aQ l3),(22,aJ l4),(23,aQ l5),(5003,aI l6),(5004,aG l7)],[],0⟩ (an2 (an1 ob1) ob2) ?_;refine tN ?_;refine AWp.cond (b:=((decide ((n2:Int)<(lZ x1)))&&(decide ((n2:Int)<(50:Int))))) (by kernel_rfl) (fun hc1=> ?_) (fun hc1=> ?_)
  ·
   replace h:=aE hc1 h;refine AWp.skip (tN (AWp.seq (AWp.block (AWp.seq ?_))));obtain⟨ob3p,h⟩:=aB h;have ob3:0≤(n2:Int)∧(n2:Int)<(((x1).length:Nat):Int):=⟨by omega,ob3p⟩;refine cA [] [] [0,3,4,5,6,7,8,9] [9,21,22,23,5003,5004] (an2 ob3 trivial) ?_;refine tN (AWp.seq ?_);obtain⟨ob4,ob5,h⟩:=ck2 h;refine cA [] [] [0,3,4,5,6,7,8,9,10] [9,21,22,23,5003,5004] (an2 ob4 ob5) ?_;refine tN ?_;refine aU [] [] ⟨220,(f12z17 x1 n2),[(9,.cells 85 (cN x1 n2)),(11,.cells 51 (fI n2)),(21,aQ l3),(22,aJ l4),(23,aQ l5),(5003,aI l6),(5004,aG l7)],[],0⟩ (an1 trivial) ?_;obtain⟨K2,hK2,h⟩:=aS h;refine AWp.join (fun(x:Nat×Int×Int×Int×List UInt8×List UInt8×List Int×(vN)×List Int×List Ty0)=>match x with|(n9,i10,i11,i12,s13,s14,l15,l16,l17,l18)=>⟨220,(aAi x1 n2),[(9,.cells 85 (cN x1 n2)),(11,.cells 51 [.i (n2:Int),.i (n9:Int),.i i10,.i i11,.i i12,.str s13,.str s14,.i (0:Int),.i (0:Int),.i (0:Int),.i (0:Int),.i (0:Int),.str [],.i (0:Int),.i (0:Int),.i (0:Int),.i (0:Int),.i (0:Int),.str [],.str [],.nils,.nils,.i (0:Int),.str [],.nils,.nils,.nils,.nils]),(21,aQ l15),(22,aJ l16),(23,aQ l17),(5003,aI l6),(5004,aG l18)],[],0⟩) (fun x=>K2 x=some r) ?_ ?_
   ·
    refine AWp.seq ?_;obtain⟨ob6,h⟩:=aB h;refine cA [] [] [0,3,4,5,6,7,8,9,10,11,46] [9,11,21,22,23,5003,5004] (an1 ob6) ?_;refine tN (AWp.block ?_);refine bJ [] [] [0,3,4,5,6,7,8,9,10,11,46,109] [9,11,21,22,23,5003,5004] trivial ?_;refine AWp.cond (b:=(((aX x1 n2).1%(5:Int))==(0:Int))) (by kernel_rfl) (fun hc2=> ?_) (fun hc2=> ?_)
    ·
     replace h:=aE hc2 h;refine AWp.seq ?_;obtain⟨ob7,h⟩:=aB h;refine cA [] [] [0,3,4,5,6,7,8,9,11,12] [9,11,21,22,23,5003,5004] (an1 ob7) ?_;refine tN (AWp.seq ?_);obtain⟨ob8,ob9,ob10,ob11,ob12,h⟩:=ck5 h;refine aZ [] [] ⟨220,(f12z15 x1 n2),[(9,.cells 85 (cN x1 n2)),(11,.cells 51 (fI n2)),(21,.rows 3 1 (l3).length (aBn (cD eI 0 l3) (((((aX x1 n2).2.1%(4:Int))%(2:Int))).toNat) 0 [.i ((l3.getD (((((aX x1 n2).2.1%(4:Int))%(2:Int))).toNat) 0)+(1:Int))])),(22,aJ l4),(23,aQ l5),(5003,aI l6),(5004,aG l7)],[],0⟩ (an5 ob8 ob9 ob10 ob11 ob12) ?_;refine tN ?_;refine AWp.le (Le.mk (s':=⟨220,(f12z15 x1 n2),[(9,.cells 85 (cN x1 n2)),(11,.cells 51 (fI n2)),(21,aQ (l3.set (((((aX x1 n2).2.1%(4:Int))%(2:Int))).toNat) ((l3.getD (((((aX x1 n2).2.1%(4:Int))%(2:Int))).toNat) 0)+(1:Int)))),(22,aJ l4),(23,aQ l5),(5003,aI l6),(5004,aG l7)],[],0⟩) rfl rfl ⟨.refl _,.refl _,.refl _,.refl _,.refl _,.refl _,.refl _,.refl _,.refl _,.refl _,trivial⟩ ⟨⟨_,rfl,.refl _⟩,⟨_,rfl,.refl _⟩,⟨_,rfl,(BLe.of (RL.set ((l3.getD (((((aX x1 n2).2.1%(4:Int))%(2:Int))).toNat) 0)+(1:Int)) (RL.self _) (by intro j hj;match j,hj with|0,_=>rfl)))⟩,⟨_,rfl,.refl _⟩,⟨_,rfl,.refl _⟩,⟨_,rfl,.refl _⟩,⟨_,rfl,.refl _⟩,trivial⟩) ?_;refine AWp.seq ?_;obtain⟨r8,hr8,h⟩:=bind_ok h;obtain⟨ob13,ob14,ob15,h⟩:=ck3 h;refine cA [] [(8,⟨[.i (aX x1 n2).2.2.1],[],[],[],.str r8,[],[],[]⟩)] [0,3,4,5,6,7,8,9,11,12] [9,11,21,22,23,5003,5004] (ac6 ob13 ob14 ob15 (cpT (f36_ok _ _ hr8)) trivial trivial (an2 trivial trivial)) ?_;refine tN ?_;obtain⟨ob16,ob17,ob18,h⟩:=ck3 h;refine aZ [] [] ⟨220,(aAi x1 n2),[(9,.cells 85 (cN x1 n2)),(11,.cells 51 [.i (n2:Int),.i (1:Int),.i (((aX x1 n2).2.1%(4:Int))%(2:Int)),.i (0:Int),.i ((l3.set (((((aX x1 n2).2.1%(4:Int))%(2:Int))).toNat) ((l3.getD (((((aX x1 n2).2.1%(4:Int))%(2:Int))).toNat) 0)+(1:Int))).getD (((((aX x1 n2).2.1%(4:Int))%(2:Int))).toNat) 0),.str r8,.str [],.i (0:Int),.i (0:Int),.i (0:Int),.i (0:Int),.i (0:Int),.str [],.i (0:Int),.i (0:Int),.i (0:Int),.i (0:Int),.i (0:Int),.str [],.str [],.nils,.nils,.i (0:Int),.str [],.nils,.nils,.nils,.nils]),(21,aQ (l3.set (((((aX x1 n2).2.1%(4:Int))%(2:Int))).toNat) ((l3.getD (((((aX x1 n2).2.1%(4:Int))%(2:Int))).toNat) 0)+(1:Int)))),(22,.rows 88 3 ((l4).length+1) (gF (l4).length (cD bW bB l4) (dH 3 [.i (((aX x1 n2).2.1%(4:Int))%(2:Int)),.i ((l3.set (((((aX x1 n2).2.1%(4:Int))%(2:Int))).toNat) ((l3.getD (((((aX x1 n2).2.1%(4:Int))%(2:Int))).toNat) 0)+(1:Int))).getD (((((aX x1 n2).2.1%(4:Int))%(2:Int))).toNat) 0),.str r8]))),(23,aQ l5),(5003,aI l6),(5004,aG l7)],[],0⟩ (an3 ob16 ob17 ob18) ?_;refine kN ?_;exact jN (1,(((aX x1 n2).2.1%(4:Int))%(2:Int)),(0:Int),((l3.set (((((aX x1 n2).2.1%(4:Int))%(2:Int))).toNat) ((l3.getD (((((aX x1 n2).2.1%(4:Int))%(2:Int))).toNat) 0)+(1:Int))).getD (((((aX x1 n2).2.1%(4:Int))%(2:Int))).toNat) 0),r8,[],(l3.set (((((aX x1 n2).2.1%(4:Int))%(2:Int))).toNat) ((l3.getD (((((aX x1 n2).2.1%(4:Int))%(2:Int))).toNat) 0)+(1:Int))),(l4++[((((aX x1 n2).2.1%(4:Int))%(2:Int)),((l3.set (((((aX x1 n2).2.1%(4:Int))%(2:Int))).toNat) ((l3.getD (((((aX x1 n2).2.1%(4:Int))%(2:Int))).toNat) 0)+(1:Int))).getD (((((aX x1 n2).2.1%(4:Int))%(2:Int))).toNat) 0),r8)]),l5,l7) (Le.trans (Le.mk (s':=⟨220,(aAi x1 n2),[(9,.cells 85 (cN x1 n2)),(11,.cells 51 [.i (n2:Int),.i (1:Int),.i (((aX x1 n2).2.1%(4:Int))%(2:Int)),.i (0:Int),.i ((l3.set (((((aX x1 n2).2.1%(4:Int))%(2:Int))).toNat) ((l3.getD (((((aX x1 n2).2.1%(4:Int))%(2:Int))).toNat) 0)+(1:Int))).getD (((((aX x1 n2).2.1%(4:Int))%(2:Int))).toNat) 0),.str r8,.str [],.i (0:Int),.i (0:Int),.i (0:Int),.i (0:Int),.i (0:Int),.str [],.i (0:Int),.i (0:Int),.i (0:Int),.i (0:Int),.i (0:Int),.str [],.str [],.nils,.nils,.i (0:Int),.str [],.nils,.nils,.nils,.nils]),(21,aQ (l3.set (((((aX x1 n2).2.1%(4:Int))%(2:Int))).toNat) ((l3.getD (((((aX x1 n2).2.1%(4:Int))%(2:Int))).toNat) 0)+(1:Int)))),(22,aJ (l4++[((((aX x1 n2).2.1%(4:Int))%(2:Int)),((l3.set (((((aX x1 n2).2.1%(4:Int))%(2:Int))).toNat) ((l3.getD (((((aX x1 n2).2.1%(4:Int))%(2:Int))).toNat) 0)+(1:Int))).getD (((((aX x1 n2).2.1%(4:Int))%(2:Int))).toNat) 0),r8)])),(23,aQ l5),(5003,aI l6),(5004,aG l7)],[],0⟩) rfl rfl ⟨.refl _,.refl _,.refl _,.refl _,.refl _,.refl _,.refl _,.refl _,.refl _,trivial⟩ ⟨⟨_,rfl,.refl _⟩,⟨_,rfl,.refl _⟩,⟨_,rfl,.refl _⟩,⟨_,rfl,(BLe.of (RL.app (RL.self _) (RL.lst (enc:=bW) [((((aX x1 n2).2.1%(4:Int))%(2:Int)),((l3.set (((((aX x1 n2).2.1%(4:Int))%(2:Int))).toNat) ((l3.getD (((((aX x1 n2).2.1%(4:Int))%(2:Int))).toNat) 0)+(1:Int))).getD (((((aX x1 n2).2.1%(4:Int))%(2:Int))).toNat) 0),r8)] rfl rfl (fun _=>rfl))))⟩,⟨_,rfl,.refl _⟩,⟨_,rfl,.refl _⟩,⟨_,rfl,.refl _⟩,trivial⟩) LR) h
    ·
     replace h:=aF hc2 h;refine aU [] [] ⟨220,[(0,bE x1),(3,.own 5003),(4,.own 5004),(5,.own 21),(6,.own 22),(7,.own 23),(8,.i (n2:Int)),(9,.ptr 9 0),(10,.i ((aX x1 n2).2.1%(4:Int))),(11,.ptr 11 0),(143,.bool (((aX x1 n2).1%(5:Int))==(4:Int)))],[(9,.cells 85 (cN x1 n2)),(11,.cells 51 (fI n2)),(21,aQ l3),(22,aJ l4),(23,aQ l5),(5003,aI l6),(5004,aG l7)],[],0⟩ trivial ?_;refine AWp.cond (b:=(((aX x1 n2).1%(5:Int))==(4:Int))) (by kernel_rfl) (fun hc3=> ?_) (fun hc3=> ?_)
     ·
      replace h:=aE hc3 h;refine AWp.seq ?_;obtain⟨ob19,h⟩:=aB h;refine cA [] [] [0,3,4,5,6,7,8,9,11,13] [9,11,21,22,23,5003,5004] (an1 ob19) ?_;refine tN (AWp.seq ?_);obtain⟨ob20,ob21,ob22,ob23,ob24,h⟩:=ck5 h;refine cA [] [] [0,3,4,5,6,7,8,9,11,13] [9,11,21,22,23,5003,5004] (an6 ob20 ob21 ob22 ob23 ob24 trivial) ?_;refine tN ?_;refine aU [] [] ⟨220,[(0,bE x1),(3,.own 5003),(4,.own 5004),(5,.own 21),(6,.own 22),(7,.own 23),(8,.i (n2:Int)),(9,.ptr 9 0),(11,.ptr 11 0),(13,.i (((aX x1 n2).2.1%(4:Int))%(2:Int))),(14,.i (0:Int))],[(9,.cells 85 (cN x1 n2)),(11,.cells 51 (f12z10 n2 x1 l3)),(21,aQ l3),(22,aJ l4),(23,aQ l5),(5003,aI l6),(5004,aG l7)],[],0⟩ trivial ?_;refine AWp.block ?_;refine AWp.loopL (α:=Nat×(Nat×Nat×List UInt8×List Ty0)) (fun x=>match x with|(_,n19,n20,s21,l22)=>⟨220,(f12z19 x1 n2 n19),[(9,.cells 85 (cN x1 n2)),(11,.cells 51 (f12z4 n2 x1 n20 l3 s21)),(21,aQ l3),(22,aJ l4),(23,aQ l5),(5003,aI l6),(5004,aG l22)],[],0⟩) (fun x=>kY x1 n2 l3 l4 l5 K2 x.1 x.2=some r) (fun x=>x.1) (bG,0,0,[],l7) (LR (s':=⟨220,[(0,bE x1),(3,.own 5003),(4,.own 5004),(5,.own 21),(6,.own 22),(7,.own 23),(8,.i (n2:Int)),(9,.ptr 9 0),(11,.ptr 11 0),(13,.i (((aX x1 n2).2.1%(4:Int))%(2:Int))),(14,.i (0:Int))],[(9,.cells 85 (cN x1 n2)),(11,.cells 51 (f12z10 n2 x1 l3)),(21,aQ l3),(22,aJ l4),(23,aQ l5),(5003,aI l6),(5004,aG l7)],[],0⟩)) h ?_
      rintro⟨k1,n19,n20,s21,l22⟩ h
      cases k1 with
      |zero=>exact nomatch (show none=some r from h)
      |succ k1=>
      obtain⟨C1,hC1⟩:∃C,C=kY x1 n2 l3 l4 l5 K2 k1:=⟨_,rfl⟩;replace h:=(kY.eq_2 ..).symm.trans h
      try rw[←hC1]at h
      refine AWp.seq (AWp.seq ?_);obtain⟨ob25,ob26,ob27,h⟩:=ck3 h;refine aZ [] [] ⟨220,[(0,bE x1),(3,.own 5003),(4,.own 5004),(5,.own 21),(6,.own 22),(7,.own 23),(8,.i (n2:Int)),(9,.ptr 9 0),(11,.ptr 11 0),(13,.i (((aX x1 n2).2.1%(4:Int))%(2:Int))),(14,.i (n19:Int)),(166,.bool (decide ((n19:Int)<(l5.getD ((((2:Int)+(((aX x1 n2).2.1%(4:Int))%(2:Int)))).toNat) 0))))],[(9,.cells 85 (cN x1 n2)),(11,.cells 51 (f12z4 n2 x1 n20 l3 s21)),(21,aQ l3),(22,aJ l4),(23,aQ l5),(5003,aI l6),(5004,aG l22)],[],0⟩ (an3 ob25 ob26 ob27) ?_;refine tN ?_;refine AWp.cond (b:=(decide ((n19:Int)<(l5.getD ((((2:Int)+(((aX x1 n2).2.1%(4:Int))%(2:Int)))).toNat) 0)))) (by kernel_rfl) (fun hc4=> ?_) (fun hc4=> ?_)
      ·
       replace h:=aE hc4 h;refine AWp.skip (tN ?_);obtain⟨K3,hK3,h⟩:=aS h;refine AWp.join (fun(x:Nat×List UInt8)=>match x with|(n30,s31)=>⟨220,(f12z19 x1 n2 n19),[(9,.cells 85 (cN x1 n2)),(11,.cells 51 (f12z12 n2 x1 n30 l3 s31)),(21,aQ l3),(22,aJ l4),(23,aQ l5),(5003,aI l6),(5004,aG l22)],[],0⟩) (fun x=>K3 x=some r) ?_ ?_
       ·
        refine AWp.block (AWp.seq ?_);obtain⟨r23,hr23,h⟩:=bind_ok h;obtain⟨r24,hr24,h⟩:=bind_ok h;obtain⟨ob28p,h⟩:=aB h;have ob28:0≤(n19:Int)∧(n19:Int)≤(((l22).length:Nat):Int):=⟨by omega,ob28p⟩;obtain⟨ob29p,h⟩:=aB h;have ob29:0≤(n19:Int)∧(n19:Int)<(((l22).length:Nat):Int):=⟨by omega,ob29p⟩;obtain⟨ob30,h⟩:=aB h;refine cA [] [(3,⟨[.osl 5004 1 0 n19],[5004],[5004],[(5004,aG l22)],.agg [aV r23.1,aT r23.2],[],[5004],[]⟩),(8,⟨[.agg [aV r23.1,aT r23.2],.str (l22.getD n19 [])],[],[],[(6001,bH r24.2.2)],.tup [.agg [aV r24.1,aT r24.2.1],.own 6001],[6001],[],[]⟩)] [0,3,4,5,6,7,8,9,11,13,14,16] [9,11,21,22,23,5003,5004,6001] (an6 ob28 (cpR (cpT (aH.ren (bA 2000 5004) (aD 2000 5004) rfl (f38_ok _ _ _ hr23))) [(5004,aG l22)]) ob29 ob30 (cpT (aH.ren (bA 3000 6001) (aD 3000 6001) rfl (f37_ok _ _ _ _ hr24))) trivial) ?_;refine tN ?_;refine aU [] [] ⟨220,[(0,bE x1),(3,.own 5003),(4,.own 5004),(5,.own 21),(6,.own 22),(7,.own 23),(8,.i (n2:Int)),(9,.ptr 9 0),(11,.ptr 11 0),(13,.i (((aX x1 n2).2.1%(4:Int))%(2:Int))),(14,.i (n19:Int)),(16,.own 6001),(17,.i (0:Int))],[(9,.cells 85 (cN x1 n2)),(11,.cells 51 (f12z4 n2 x1 n20 l3 s21)),(21,aQ l3),(22,aJ l4),(23,aQ l5),(5003,aI l6),(5004,aG l22),(6001,bH r24.2.2)],[],0⟩ trivial ?_;refine AWp.block ?_;refine AWp.loopL (α:=Nat×(Nat×Nat×List UInt8)) (fun x=>match x with|(_,n25,n26,s27)=>⟨220,(f12z9 x1 n2 n19 n25),[(9,.cells 85 (cN x1 n2)),(11,.cells 51 (f12z6 n2 x1 n26 l3 s27)),(21,aQ l3),(22,aJ l4),(23,aQ l5),(5003,aI l6),(5004,aG l22),(6001,bH r24.2.2)],[],0⟩) (fun x=>gD x1 n2 l3 n19 K3 r24 x.1 x.2=some r) (fun x=>x.1) (bG,0,n20,s21) (LR (s':=⟨220,[(0,bE x1),(3,.own 5003),(4,.own 5004),(5,.own 21),(6,.own 22),(7,.own 23),(8,.i (n2:Int)),(9,.ptr 9 0),(11,.ptr 11 0),(13,.i (((aX x1 n2).2.1%(4:Int))%(2:Int))),(14,.i (n19:Int)),(16,.own 6001),(17,.i (0:Int))],[(9,.cells 85 (cN x1 n2)),(11,.cells 51 (f12z4 n2 x1 n20 l3 s21)),(21,aQ l3),(22,aJ l4),(23,aQ l5),(5003,aI l6),(5004,aG l22),(6001,bH r24.2.2)],[],0⟩)) h ?_
        rintro⟨k2,n25,n26,s27⟩ h
        cases k2 with
        |zero=>exact nomatch (show none=some r from h)
        |succ k2=>
        obtain⟨C2,hC2⟩:∃C,C=gD x1 n2 l3 n19 K3 r24 k2:=⟨_,rfl⟩;replace h:=(gD.eq_2 ..).symm.trans h
        try rw[←hC2]at h
        refine AWp.seq ?_;refine aU [] [] ⟨220,[(0,bE x1),(3,.own 5003),(4,.own 5004),(5,.own 21),(6,.own 22),(7,.own 23),(8,.i (n2:Int)),(9,.ptr 9 0),(11,.ptr 11 0),(13,.i (((aX x1 n2).2.1%(4:Int))%(2:Int))),(14,.i (n19:Int)),(16,.own 6001),(17,.i (n25:Int)),(184,.bool (decide ((n25:Int)<(lZ r24.2.2))))],[(9,.cells 85 (cN x1 n2)),(11,.cells 51 (f12z6 n2 x1 n26 l3 s27)),(21,aQ l3),(22,aJ l4),(23,aQ l5),(5003,aI l6),(5004,aG l22),(6001,bH r24.2.2)],[],0⟩ trivial ?_;refine AWp.cond (b:=(decide ((n25:Int)<(lZ r24.2.2)))) (by kernel_rfl) (fun hc5=> ?_) (fun hc5=> ?_)
        ·
         replace h:=aE hc5 h;refine AWp.skip (tN ?_);obtain⟨K4,hK4,h⟩:=aS h;refine AWp.join (fun(x:Nat×List UInt8)=>match x with|(n28,s29)=>⟨220,(f12z9 x1 n2 n19 n25),[(9,.cells 85 (cN x1 n2)),(11,.cells 51 (f12z13 n2 x1 n28 l3 s29)),(21,aQ l3),(22,aJ l4),(23,aQ l5),(5003,aI l6),(5004,aG l22),(6001,bH r24.2.2)],[],0⟩) (fun x=>K4 x=some r) ?_ ?_
         ·
          refine AWp.block (AWp.seq ?_);obtain⟨ob31p,h⟩:=aB h;have ob31:0≤(n25:Int)∧(n25:Int)<(((r24.2.2).length:Nat):Int):=⟨by omega,ob31p⟩;obtain⟨ob32,ob33,h⟩:=ck2 h;have ob34:=idA ((((fO r24 n25).1==(((aX x1 n2).2.1%(4:Int))%(2:Int)))==true)=true);have ob35:=idA ((((fO r24 n25).1==(((aX x1 n2).2.1%(4:Int))%(2:Int)))==true)=true);have ob36:=idA ((((fO r24 n25).1==(((aX x1 n2).2.1%(4:Int))%(2:Int)))==true)=true);obtain⟨ob37,h⟩:=aB h;have ob38:=idA ((((fO r24 n25).1==(((aX x1 n2).2.1%(4:Int))%(2:Int)))==true)=true);have ob39:=idA ((((fO r24 n25).1==(((aX x1 n2).2.1%(4:Int))%(2:Int)))==true)=true);have ob40:=idA ((((fO r24 n25).1==(((aX x1 n2).2.1%(4:Int))%(2:Int)))==true)=true);have ob41:=idA ((((fO r24 n25).1==(((aX x1 n2).2.1%(4:Int))%(2:Int)))==true)=true);have ob42:=bqA ((fO r24 n25).1==(((aX x1 n2).2.1%(4:Int))%(2:Int))) true;refine aZ [] [] ⟨220,[(0,bE x1),(3,.own 5003),(4,.own 5004),(5,.own 21),(6,.own 22),(7,.own 23),(8,.i (n2:Int)),(9,.ptr 9 0),(11,.ptr 11 0),(13,.i (((aX x1 n2).2.1%(4:Int))%(2:Int))),(14,.i (n19:Int)),(16,.own 6001),(17,.i (n25:Int)),(203,.bool (((fO r24 n25).1==(((aX x1 n2).2.1%(4:Int))%(2:Int)))&&((fO r24 n25).2.1==((1:Int)+((aX x1 n2).2.2.1%(max (1:Int) (l3.getD (((((aX x1 n2).2.1%(4:Int))%(2:Int))).toNat) 0)))))))],[(9,.cells 85 (cN x1 n2)),(11,.cells 51 (f12z6 n2 x1 n26 l3 s27)),(21,aQ l3),(22,aJ l4),(23,aQ l5),(5003,aI l6),(5004,aG l22),(6001,bH r24.2.2)],[],0⟩ (ac6 ob31 ob32 (And.intro ob33 (an2 ob34 ob35)) (an1 ob36) (And.intro ob37 (an1 ob38)) (an1 ob39) (an2 (an2 ob40 ob41) ob42)) ?_;refine tN ?_;refine AWp.cond (b:=(((fO r24 n25).1==(((aX x1 n2).2.1%(4:Int))%(2:Int)))&&((fO r24 n25).2.1==((1:Int)+((aX x1 n2).2.2.1%(max (1:Int) (l3.getD (((((aX x1 n2).2.1%(4:Int))%(2:Int))).toNat) 0))))))) (by kernel_rfl) (fun hc6=> ?_) (fun hc6=> ?_)
          ·
           replace h:=aE hc6 h;obtain⟨ob43p,h⟩:=aB h;have ob43:0≤(n25:Int)∧(n25:Int)<(((r24.2.2).length:Nat):Int):=⟨by omega,ob43p⟩;obtain⟨ob44,h⟩:=aB h;refine aZ [] [] ⟨220,(f12z9 x1 n2 n19 n25),[(9,.cells 85 (cN x1 n2)),(11,.cells 51 [.i (n2:Int),.i (2:Int),.i (((aX x1 n2).2.1%(4:Int))%(2:Int)),.i (n19:Int),.i ((1:Int)+((aX x1 n2).2.2.1%(max (1:Int) (l3.getD (((((aX x1 n2).2.1%(4:Int))%(2:Int))).toNat) 0)))),.str [],.str (fO r24 n25).2.2,.i (0:Int),.i (0:Int),.i (0:Int),.i (0:Int),.i (0:Int),.str [],.i (0:Int),.i (0:Int),.i (0:Int),.i (0:Int),.i (0:Int),.str [],.str [],.nils,.nils,.i (0:Int),.str [],.nils,.nils,.nils,.nils]),(21,aQ l3),(22,aJ l4),(23,aQ l5),(5003,aI l6),(5004,aG l22),(6001,bH r24.2.2)],[],0⟩ (an4 ob43 ob44 trivial trivial) ?_;refine kN ?_;have eq45:(r24.2.2.getD n25 bB).2.2=((r24.2.2.getD n25 bB).2.2):=by first|omega|(simp only[List.length_append,List.length_cons,List.length_nil,List.length_take,List.length_drop]at *;omega)|(simp;done)|(simp_all;done)|(simp_all;omega)|rfl
           exact jN (n19,(fO r24 n25).2.2) (Le.mk rfl rfl ⟨.refl _,.refl _,.refl _,.refl _,.refl _,.refl _,.refl _,.refl _,.refl _,.refl _,.refl _,.refl _,.refl _,trivial⟩ ⟨⟨_,rfl,.refl _⟩,⟨_,rfl,(.cellsL ⟨.refl _,.refl _,.refl _,.refl _,.refl _,.refl _,(.str eq45),.refl _,.refl _,.refl _,.refl _,.refl _,.refl _,.refl _,.refl _,.refl _,.refl _,.refl _,.refl _,.refl _,.refl _,.refl _,.refl _,.refl _,.refl _,.refl _,.refl _,.refl _,trivial⟩)⟩,⟨_,rfl,.refl _⟩,⟨_,rfl,.refl _⟩,⟨_,rfl,.refl _⟩,⟨_,rfl,.refl _⟩,⟨_,rfl,.refl _⟩,⟨_,rfl,.refl _⟩,trivial⟩) h
          ·
           replace h:=aF hc6 h;refine AWp.skip (kN ?_);exact jN (n26,s27) LR h
         ·
          rintro⟨n28,s29⟩ h;replace h:=(congrFun hK4 _).symm.trans h;obtain⟨ob46p,h⟩:=aB h;have ob46: -9223372036854775808≤((n25:Int)+(1:Int))∧((n25:Int)+(1:Int))≤9223372036854775807:=⟨by omega,ob46p⟩;refine aZ [] [] ⟨220,[(0,bE x1),(3,.own 5003),(4,.own 5004),(5,.own 21),(6,.own 22),(7,.own 23),(8,.i (n2:Int)),(9,.ptr 9 0),(11,.ptr 11 0),(13,.i (((aX x1 n2).2.1%(4:Int))%(2:Int))),(14,.i (n19:Int)),(16,.own 6001),(17,.i (((n25+1):Nat):Int))],[(9,.cells 85 (cN x1 n2)),(11,.cells 51 (f12z13 n2 x1 n28 l3 s29)),(21,aQ l3),(22,aJ l4),(23,aQ l5),(5003,aI l6),(5004,aG l22),(6001,bH r24.2.2)],[],0⟩ (an1 ob46) ?_;rw[hC2]at h;exact lN (_,(n25+1),n28,s29) LR h (Nat.lt_succ_self _)
        ·
         replace h:=aF hc5 h;refine AWp.exit (tE (tE (kS (kN ?_))));exact jN (n26,s27) LR h
       ·
        rintro⟨n30,s31⟩ h;replace h:=(congrFun hK3 _).symm.trans h;obtain⟨ob47p,h⟩:=aB h;have ob47: -9223372036854775808≤((n19:Int)+(1:Int))∧((n19:Int)+(1:Int))≤9223372036854775807:=⟨by omega,ob47p⟩;refine aZ [] [] ⟨220,[(0,bE x1),(3,.own 5003),(4,.own 5004),(5,.own 21),(6,.own 22),(7,.own 23),(8,.i (n2:Int)),(9,.ptr 9 0),(11,.ptr 11 0),(13,.i (((aX x1 n2).2.1%(4:Int))%(2:Int))),(14,.i (((n19+1):Nat):Int))],[(9,.cells 85 (cN x1 n2)),(11,.cells 51 (f12z12 n2 x1 n30 l3 s31)),(21,aQ l3),(22,aJ l4),(23,aQ l5),(5003,aI l6),(5004,aG l22)],[],0⟩ (an1 ob47) ?_;rw[hC1]at h;exact lN (_,(n19+1),n30,s31,l22) LR h (Nat.lt_succ_self _)
      ·
       replace h:=aF hc4 h;refine AWp.exit (tE (tE (kS (kN ?_))));exact jN (2,(((aX x1 n2).2.1%(4:Int))%(2:Int)),(n20:Int),((1:Int)+((aX x1 n2).2.2.1%(max (1:Int) (l3.getD (((((aX x1 n2).2.1%(4:Int))%(2:Int))).toNat) 0)))),[],s21,l3,l4,l5,l22) LR h
     ·
      replace h:=aF hc3 h;obtain⟨K5,hK5,h⟩:=aS h;refine AWp.join (fun(x:(vN)×List Ty0)=>match x with|(l37,l38)=>⟨220,(f12z7 x1 n2),[(9,.cells 85 (cN x1 n2)),(11,.cells 51 (fI n2)),(21,aQ l3),(22,aJ l37),(23,aQ l5),(80,aG l38),(5003,aI l6)],[],0⟩) (fun x=>K5 x=some r) ?_ ?_
      ·
       refine AWp.seq ?_;obtain⟨ob48,ob49,h⟩:=ck2 h;refine aZ [] [] ⟨220,[(0,bE x1),(3,.own 5003),(4,.own 5004),(5,.own 21),(6,.own 22),(7,.own 23),(8,.i (n2:Int)),(9,.ptr 9 0),(10,.i ((aX x1 n2).2.1%(4:Int))),(11,.ptr 11 0),(53,.bool ((l5.getD ((((aX x1 n2).2.1%(4:Int))).toNat) 0)==(lZ l7)))],[(9,.cells 85 (cN x1 n2)),(11,.cells 51 (fI n2)),(21,aQ l3),(22,aJ l4),(23,aQ l5),(5003,aI l6),(5004,aG l7)],[],0⟩ (an2 ob48 ob49) ?_;refine tN ?_;refine AWp.cond (b:=((l5.getD ((((aX x1 n2).2.1%(4:Int))).toNat) 0)==(lZ l7))) (by kernel_rfl) (fun hc7=> ?_) (fun hc7=> ?_)
       ·
        replace h:=aE hc7 h;refine aU [] [] ⟨220,(vK x1 n2),[(9,.cells 85 (cN x1 n2)),(11,.cells 51 (fI n2)),(18,.cells 100 (f12z27)),(21,aQ l3),(22,aJ l4),(23,aQ l5),(5003,aI l6),(5004,aG l7)],[],0⟩ (an1 trivial) ?_;obtain⟨K6,hK6,h⟩:=aS h;refine AWp.join (fun(x:Nat×Nat×(vN)×(vN))=>match x with|(n32,n33,l34,l35)=>⟨220,(vK x1 n2),[(9,.cells 85 (cN x1 n2)),(11,.cells 51 (fI n2)),(18,.cells 100 [.i (n32:Int),.i (n33:Int),.own 7302]),(21,aQ l3),(22,aJ l34),(23,aQ l5),(5003,aI l6),(5004,aG l7),(7302,aJ l35)],[],0⟩) (fun x=>K6 x=some r) ?_ ?_
        ·
         refine AWp.seq ?_;obtain⟨ob50,h⟩:=aB h;refine cA [] [] [0,3,4,5,6,7,8,9,10,11,18,58] [9,11,18,21,22,23,5003,5004] (an1 ob50) ?_;refine tN ?_;refine AWp.cond (b:=(((aX x1 n2).2.2.1%(4:Int))==(3:Int))) (by kernel_rfl) (fun hc8=> ?_) (fun hc8=> ?_)
         ·
          replace h:=aE hc8 h;refine aZ [] [] ⟨220,(vK x1 n2),[(9,.cells 85 (cN x1 n2)),(11,.cells 51 (fI n2)),(18,.cells 100 [.i (2:Int),.i (1:Int),.nils]),(21,aQ l3),(22,aJ l4),(23,aQ l5),(5003,aI l6),(5004,aG l7)],[],0⟩ (an1 trivial) ?_;exact jN (2,1,l4,[]) (Le.trans (Le.trans (Le.nilOwnC 18 2 7302 88 3 (cD bW bB []) rfl rfl rfl) (LR (s':=⟨220,(vK x1 n2),[(9,.cells 85 (cN x1 n2)),(11,.cells 51 (fI n2)),(18,.cells 100 [.i (2:Int),.i (1:Int),.own 7302]),(21,aQ l3),(22,aJ l4),(23,aQ l5),(5003,aI l6),(5004,aG l7),(7302,aJ [])],[],0⟩))) LR) h
         ·
          replace h:=aF hc8 h;refine aU [] [] ⟨220,(f12z18 x1 n2 l4),[(9,.cells 85 (cN x1 n2)),(11,.cells 51 (fI n2)),(18,.cells 100 (f12z27)),(21,aQ l3),(22,aJ l4),(23,aQ l5),(5003,aI l6),(5004,aG l7)],[],0⟩ trivial ?_;refine AWp.cond (b:=(decide ((lZ l4)>(0:Int)))) (by kernel_rfl) (fun hc9=> ?_) (fun hc9=> ?_)
          ·
           replace h:=aE hc9 h;refine AWp.seq ?_;obtain⟨ob51p,h⟩:=aB h;have ob51:0≤(0:Int)∧(0:Int)<(((l4).length:Nat):Int):=⟨by omega,ob51p⟩;obtain⟨ob52,h⟩:=aB h;refine aZ [] [] ⟨220,(vK x1 n2),[(9,.cells 85 (cN x1 n2)),(11,.cells 51 (fI n2)),(18,.cells 100 (qS)),(21,aQ l3),(22,aJ l4),(23,aQ l5),(66,.rows 88 3 1 (dH 3 [.i (eG l4).1,.i (eG l4).2.1,.str (eG l4).2.2])),(5003,aI l6),(5004,aG l7)],[],0⟩ (an3 ob51 ob52 trivial) ?_;refine tN ?_;refine AWp.le (Le.mk (s':=⟨220,(vK x1 n2),[(9,.cells 85 (cN x1 n2)),(11,.cells 51 (fI n2)),(18,.cells 100 (qS)),(21,aQ l3),(22,aJ l4),(23,aQ l5),(66,aJ [((eG l4).1,(eG l4).2.1,(eG l4).2.2)]),(5003,aI l6),(5004,aG l7)],[],0⟩) rfl rfl ⟨.refl _,.refl _,.refl _,.refl _,.refl _,.refl _,.refl _,.refl _,.refl _,.refl _,.refl _,trivial⟩ ⟨⟨_,rfl,.refl _⟩,⟨_,rfl,.refl _⟩,⟨_,rfl,.refl _⟩,⟨_,rfl,.refl _⟩,⟨_,rfl,.refl _⟩,⟨_,rfl,.refl _⟩,⟨_,rfl,(BLe.of (RL.lst (enc:=bW) [((eG l4).1,(eG l4).2.1,(eG l4).2.2)] rfl rfl (fun _=>rfl)))⟩,⟨_,rfl,.refl _⟩,⟨_,rfl,.refl _⟩,trivial⟩) ?_;refine AWp.le (Le.trans (Le.freeze 22 rfl rfl) (LR (s':=⟨220,[(0,bE x1),(3,.own 5003),(4,.own 5004),(5,.own 21),(6,aT l4),(7,.own 23),(8,.i (n2:Int)),(9,.ptr 9 0),(10,.i ((aX x1 n2).2.1%(4:Int))),(11,.ptr 11 0),(18,.ptr 18 0)],[(9,.cells 85 (cN x1 n2)),(11,.cells 51 (fI n2)),(18,.cells 100 (qS)),(21,aQ l3),(23,aQ l5),(66,aJ [((eG l4).1,(eG l4).2.1,(eG l4).2.2)]),(5003,aI l6),(5004,aG l7)],[],0⟩))) ?_;obtain⟨ob53p,h⟩:=aB h;have ob53:0≤(1:Int)∧(1:Int)≤(((l4).length:Nat):Int):=⟨by omega,ob53p⟩;obtain⟨ob54,h⟩:=aB h;refine aZ [] [] ⟨220,(f12z20 x1 n2),[(9,.cells 85 (cN x1 n2)),(11,.cells 51 (fI n2)),(18,.cells 100 (qS)),(21,aQ l3),(23,aQ l5),(66,aJ [((eG l4).1,(eG l4).2.1,(eG l4).2.2)]),(68,.rows 88 3 (0+((l4).length-1)) (gF 0 (dH 3 []) (fun i j=>(cD bW bB l4) (i+1) j))),(5003,aI l6),(5004,aG l7)],[],0⟩ (an2 ob53 ob54) ?_;exact jN (1,0,([]++(l4.drop 1)),[((eG l4).1,(eG l4).2.1,(eG l4).2.2)]) (Le.trans (Le.mk (s':=⟨220,(f12z20 x1 n2),[(9,.cells 85 (cN x1 n2)),(11,.cells 51 (fI n2)),(18,.cells 100 (qS)),(21,aQ l3),(23,aQ l5),(66,aJ [((eG l4).1,(eG l4).2.1,(eG l4).2.2)]),(68,aJ ([]++(l4.drop 1))),(5003,aI l6),(5004,aG l7)],[],0⟩) rfl rfl ⟨.refl _,.refl _,.refl _,.refl _,.refl _,.refl _,.refl _,.refl _,.refl _,.refl _,.refl _,trivial⟩ ⟨⟨_,rfl,.refl _⟩,⟨_,rfl,.refl _⟩,⟨_,rfl,.refl _⟩,⟨_,rfl,.refl _⟩,⟨_,rfl,.refl _⟩,⟨_,rfl,.refl _⟩,⟨_,rfl,(BLe.of (RL.app (RL.lst (enc:=bW) [] rfl rfl (fun _=>rfl)) RL.dropL))⟩,⟨_,rfl,.refl _⟩,⟨_,rfl,.refl _⟩,trivial⟩) (Le.trans (Le.trans (Le.ren (bA 68 22) (aD 68 22) rfl) (LR (s':=⟨220,(vK x1 n2),[(9,.cells 85 (cN x1 n2)),(11,.cells 51 (fI n2)),(18,.cells 100 (qS)),(21,aQ l3),(23,aQ l5),(66,aJ [((eG l4).1,(eG l4).2.1,(eG l4).2.2)]),(22,aJ ([]++(l4.drop 1))),(5003,aI l6),(5004,aG l7)],[],0⟩))) (Le.trans (Le.trans (Le.ren (bA 66 7302) (aD 66 7302) rfl) (LR (s':=⟨220,(vK x1 n2),[(9,.cells 85 (cN x1 n2)),(11,.cells 51 (fI n2)),(18,.cells 100 (f12z26)),(21,aQ l3),(23,aQ l5),(7302,aJ [((eG l4).1,(eG l4).2.1,(eG l4).2.2)]),(22,aJ ([]++(l4.drop 1))),(5003,aI l6),(5004,aG l7)],[],0⟩))) LR))) h
          ·
           replace h:=aF hc9 h;refine AWp.skip ?_;exact jN (1,0,l4,[]) (Le.trans (Le.trans (Le.nilOwnC 18 2 7302 88 3 (cD bW bB []) rfl rfl rfl) (LR (s':=⟨220,(f12z18 x1 n2 l4),[(9,.cells 85 (cN x1 n2)),(11,.cells 51 (fI n2)),(18,.cells 100 (f12z26)),(21,aQ l3),(22,aJ l4),(23,aQ l5),(5003,aI l6),(5004,aG l7),(7302,aJ [])],[],0⟩))) LR) h
        ·
         rintro⟨n32,n33,l34,l35⟩ h;replace h:=(congrFun hK6 _).symm.trans h;refine AWp.seq ?_;obtain⟨r36,hr36,h⟩:=bind_ok h;refine cA [] [(1,⟨[.agg [.i (n32:Int),.i (n33:Int),aT l35]],[],[],[],.tup [.str r36.1,.i r36.2],[],[7302],[]⟩)] [0,3,4,5,6,7,8,9,10,11,19] [9,11,21,22,23,5003,5004] (an1 (cpL (c:=true) [(7302,aJ l35)] [7302] [.agg [.i (n32:Int),.i (n33:Int),.own 7302]] (fun _=>(f39_ok _ _ _ _ hr36)) (fun _=>⟨.refl _,trivial⟩) (.inr ⟨rfl,trivial⟩))) ?_;refine tN ?_;obtain⟨ob55,h⟩:=aB h;refine aZ [] [] ⟨220,(f12z17 x1 n2),[(9,.cells 85 (cN x1 n2)),(11,.cells 51 (fI n2)),(21,aQ l3),(22,aJ l34),(23,aQ l5),(5003,aI l6),(5004,.rows 9 1 ((l7).length+1) (gF (l7).length (cD eS [] l7) (dH 1 [.str r36.1])))],[],0⟩ (an1 ob55) ?_;exact jN (l34,(l7++[r36.1])) (Le.trans (Le.mk (s':=⟨220,(f12z17 x1 n2),[(9,.cells 85 (cN x1 n2)),(11,.cells 51 (fI n2)),(21,aQ l3),(22,aJ l34),(23,aQ l5),(5003,aI l6),(5004,aG (l7++[r36.1]))],[],0⟩) rfl rfl ⟨.refl _,.refl _,.refl _,.refl _,.refl _,.refl _,.refl _,.refl _,.refl _,.refl _,trivial⟩ ⟨⟨_,rfl,.refl _⟩,⟨_,rfl,.refl _⟩,⟨_,rfl,.refl _⟩,⟨_,rfl,.refl _⟩,⟨_,rfl,.refl _⟩,⟨_,rfl,.refl _⟩,⟨_,rfl,(BLe.of (RL.app (RL.self _) (RL.lst (enc:=eS) [r36.1] rfl rfl (fun _=>rfl))))⟩,trivial⟩) (Le.trans (Le.trans (Le.ren (bA 5004 80) (aD 5004 80) rfl) (LR (s':=⟨220,(f12z7 x1 n2),[(9,.cells 85 (cN x1 n2)),(11,.cells 51 (fI n2)),(21,aQ l3),(22,aJ l34),(23,aQ l5),(5003,aI l6),(80,aG (l7++[r36.1]))],[],0⟩))) LR)) h
       ·
        replace h:=aF hc7 h;refine AWp.skip ?_;exact jN (l4,l7) (Le.trans (Le.trans (Le.ren (bA 5004 80) (aD 5004 80) rfl) (LR (s':=⟨220,[(0,bE x1),(3,.own 5003),(4,.own 80),(5,.own 21),(6,.own 22),(7,.own 23),(8,.i (n2:Int)),(9,.ptr 9 0),(10,.i ((aX x1 n2).2.1%(4:Int))),(11,.ptr 11 0),(53,.bool ((l5.getD ((((aX x1 n2).2.1%(4:Int))).toNat) 0)==(lZ l7)))],[(9,.cells 85 (cN x1 n2)),(11,.cells 51 (fI n2)),(21,aQ l3),(22,aJ l4),(23,aQ l5),(5003,aI l6),(80,aG l7)],[],0⟩))) LR) h
      ·
       rintro⟨l37,l38⟩ h;replace h:=(congrFun hK5 _).symm.trans h;refine AWp.seq ?_;obtain⟨ob56,ob57,ob58,ob59,ob60,h⟩:=ck5 h;obtain⟨ob61,h⟩:=aB h;refine aZ [] [] ⟨220,(f12z7 x1 n2),[(9,.cells 85 (cN x1 n2)),(11,.cells 51 (f12z14 n2 x1 l5 l38)),(21,aQ l3),(22,aJ l37),(23,aQ l5),(80,aG l38),(5003,aI l6)],[],0⟩ (ac6 ob56 ob57 ob58 ob59 ob60 ob61 (an4 trivial trivial trivial trivial)) ?_;refine tN ?_;obtain⟨K7,hK7,h⟩:=aS h;refine AWp.join (fun(x:Nat×Int)=>match x with|(n39,i40)=>⟨220,(f12z7 x1 n2),[(9,.cells 85 (cN x1 n2)),(11,.cells 51 (f12z5 n2 n39 i40 l5 x1 l38)),(21,aQ l3),(22,aJ l37),(23,aQ l5),(80,aG l38),(5003,aI l6)],[],0⟩) (fun x=>K7 x=some r) ?_ ?_
       ·
        refine aU [] [] ⟨220,[(0,bE x1),(3,.own 5003),(4,.own 80),(5,.own 21),(6,.own 22),(7,.own 23),(8,.i (n2:Int)),(9,.ptr 9 0),(10,.i ((aX x1 n2).2.1%(4:Int))),(11,.ptr 11 0),(98,.bool (decide (((aX x1 n2).2.1%(4:Int))≥(2:Int))))],[(9,.cells 85 (cN x1 n2)),(11,.cells 51 (f12z14 n2 x1 l5 l38)),(21,aQ l3),(22,aJ l37),(23,aQ l5),(80,aG l38),(5003,aI l6)],[],0⟩ trivial ?_;refine AWp.cond (b:=(decide (((aX x1 n2).2.1%(4:Int))≥(2:Int)))) (by kernel_rfl) (fun hc10=> ?_) (fun hc10=> ?_)
        ·
         replace h:=aE hc10 h;obtain⟨ob62,h⟩:=aB h;refine aZ [] [] ⟨220,(f12z7 x1 n2),[(9,.cells 85 (cN x1 n2)),(11,.cells 51 [.i (n2:Int),.i (3:Int),.i (((aX x1 n2).2.1%(4:Int))-(2:Int)),.i (l5.getD ((((aX x1 n2).2.1%(4:Int))).toNat) 0),.i (0:Int),.str (l38.getD (((l5.getD ((((aX x1 n2).2.1%(4:Int))).toNat) 0)).toNat) []),.str [],.i (0:Int),.i (0:Int),.i (0:Int),.i (0:Int),.i (0:Int),.str [],.i (0:Int),.i (0:Int),.i (0:Int),.i (0:Int),.i (0:Int),.str [],.str [],.nils,.nils,.i (0:Int),.str [],.nils,.nils,.nils,.nils]),(21,aQ l3),(22,aJ l37),(23,aQ l5),(80,aG l38),(5003,aI l6)],[],0⟩ (an3 ob62 trivial trivial) ?_;exact jN (3,(((aX x1 n2).2.1%(4:Int))-(2:Int))) LR h
        ·
         replace h:=aF hc10 h;refine AWp.skip ?_;exact jN (4,((aX x1 n2).2.1%(4:Int))) LR h
       ·
        rintro⟨n39,i40⟩ h;replace h:=(congrFun hK7 _).symm.trans h;obtain⟨ob63,ob64,ob65,ob66,ob67,h⟩:=ck5 h;refine aZ [] [] ⟨220,(f12z22 x1 n2),[(9,.cells 85 (cN x1 n2)),(11,.cells 51 (f12z5 n2 n39 i40 l5 x1 l38)),(21,aQ l3),(22,aJ l37),(23,.rows 3 1 (l5).length (aBn (cD eI 0 l5) ((((aX x1 n2).2.1%(4:Int))).toNat) 0 [.i ((l5.getD ((((aX x1 n2).2.1%(4:Int))).toNat) 0)+(1:Int))])),(80,aG l38),(5003,aI l6)],[],0⟩ (an5 ob63 ob64 ob65 ob66 ob67) ?_;refine kN ?_;exact jN (n39,i40,(l5.getD ((((aX x1 n2).2.1%(4:Int))).toNat) 0),(0:Int),(l38.getD (((l5.getD ((((aX x1 n2).2.1%(4:Int))).toNat) 0)).toNat) []),[],l3,l37,(l5.set ((((aX x1 n2).2.1%(4:Int))).toNat) ((l5.getD ((((aX x1 n2).2.1%(4:Int))).toNat) 0)+(1:Int))),l38) (Le.trans (Le.mk (s':=⟨220,(f12z22 x1 n2),[(9,.cells 85 (cN x1 n2)),(11,.cells 51 (f12z5 n2 n39 i40 l5 x1 l38)),(21,aQ l3),(22,aJ l37),(23,aQ (l5.set ((((aX x1 n2).2.1%(4:Int))).toNat) ((l5.getD ((((aX x1 n2).2.1%(4:Int))).toNat) 0)+(1:Int)))),(80,aG l38),(5003,aI l6)],[],0⟩) rfl rfl ⟨.refl _,.refl _,.refl _,.refl _,.refl _,.refl _,.refl _,.refl _,.refl _,trivial⟩ ⟨⟨_,rfl,.refl _⟩,⟨_,rfl,.refl _⟩,⟨_,rfl,.refl _⟩,⟨_,rfl,.refl _⟩,⟨_,rfl,(BLe.of (RL.set ((l5.getD ((((aX x1 n2).2.1%(4:Int))).toNat) 0)+(1:Int)) (RL.self _) (by intro j hj;match j,hj with|0,_=>rfl)))⟩,⟨_,rfl,.refl _⟩,⟨_,rfl,.refl _⟩,trivial⟩) (Le.trans (Le.trans (Le.ren (bA 80 5004) (aD 80 5004) rfl) (LR (s':=⟨220,(aAi x1 n2),[(9,.cells 85 (cN x1 n2)),(11,.cells 51 (f12z5 n2 n39 i40 l5 x1 l38)),(21,aQ l3),(22,aJ l37),(23,aQ (l5.set ((((aX x1 n2).2.1%(4:Int))).toNat) ((l5.getD ((((aX x1 n2).2.1%(4:Int))).toNat) 0)+(1:Int)))),(5004,aG l38),(5003,aI l6)],[],0⟩))) LR)) h
   ·
    rintro⟨n9,i10,i11,i12,s13,s14,l15,l16,l17,l18⟩ h;replace h:=(congrFun hK2 _).symm.trans h;obtain⟨r41,hr41,h⟩:=bind_ok h;obtain⟨ob68,h⟩:=aB h;refine aZ [] [(4,⟨[.agg [.i (n2:Int),.i (n9:Int),.i i10,.i i11,.i i12,.str s13,.str s14,.opq,.opq,.opq,.opq,.opq,.opq,.opq,.opq,.opq,.opq,.opq,.opq,.opq,.opq,.opq,.opq,.opq,.opq,.opq,.opq,.opq],.int .u8 (aX x1 n2).2.2.2],[],[],[],.agg (qpt r41),[],[],[]⟩)] ⟨220,(f12z24 x1 n2),[(21,aQ l15),(22,aJ l16),(23,aQ l17),(5003,.rows 51 28 ((l6).length+1) (gF (l6).length (cD aAx aL l6) (dH 28 (qpt r41)))),(5004,aG l18)],[],0⟩ (an2 (cpL (c:=true) [] [] [.agg [.i (n2:Int),.i (n9:Int),.i i10,.i i11,.i i12,.str s13,.str s14,.i (0:Int),.i (0:Int),.i (0:Int),.i (0:Int),.i (0:Int),.str [],.i (0:Int),.i (0:Int),.i (0:Int),.i (0:Int),.i (0:Int),.str [],.str [],.nils,.nils,.i (0:Int),.str [],.nils,.nils,.nils,.nils],.int .u8 (aX x1 n2).2.2.2] (fun _=>(f40_ok _ _ _ _ _ _ _ _ _ hr41)) (fun _=>⟨(.aggs ⟨.refl _,.refl _,.refl _,.refl _,.refl _,.refl _,.refl _,(VLe.opq rfl),(VLe.opq rfl),(VLe.opq rfl),(VLe.opq rfl),(VLe.opq rfl),(VLe.opq rfl),(VLe.opq rfl),(VLe.opq rfl),(VLe.opq rfl),(VLe.opq rfl),(VLe.opq rfl),(VLe.opq rfl),(VLe.opq rfl),(VLe.opq rfl),(VLe.opq rfl),(VLe.opq rfl),(VLe.opq rfl),(VLe.opq rfl),(VLe.opq rfl),(VLe.opq rfl),(VLe.opq rfl),trivial⟩),.refl _,trivial⟩) (.inl rfl)) ob68) ?_;refine kN (tN ?_);refine AWp.le (Le.mk (s':=⟨220,(f12z24 x1 n2),[(21,aQ l15),(22,aJ l16),(23,aQ l17),(5003,aI (l6++[((r41.1,r41.2.1,r41.2.2.1,r41.2.2.2.1,r41.2.2.2.2.1,r41.2.2.2.2.2.1,r41.2.2.2.2.2.2):Y51)])),(5004,aG l18)],[],0⟩) rfl rfl ⟨.refl _,.refl _,.refl _,.refl _,.refl _,.refl _,.refl _,trivial⟩ ⟨⟨_,rfl,.refl _⟩,⟨_,rfl,.refl _⟩,⟨_,rfl,.refl _⟩,⟨_,rfl,(BLe.of (RL.app (RL.self _) (RL.lstV (enc:=aAx) [((r41.1,r41.2.1,r41.2.2.1,r41.2.2.2.1,r41.2.2.2.2.1,r41.2.2.2.2.2.1,r41.2.2.2.2.2.2):Y51)] rfl ⟨.refl _,.refl _,.refl _,.refl _,.refl _,.refl _,.refl _,.refl _,.refl _,.refl _,.refl _,.refl _,.refl _,.refl _,.refl _,.refl _,.refl _,.refl _,.refl _,.refl _,.refl _,.refl _,.refl _,.refl _,.refl _,.refl _,.refl _,.refl _,trivial⟩ (fun _=>rfl))))⟩,⟨_,rfl,.refl _⟩,trivial⟩) ?_;obtain⟨ob69p,h⟩:=aB h;have ob69: -9223372036854775808≤((n2:Int)+(1:Int))∧((n2:Int)+(1:Int))≤9223372036854775807:=⟨by omega,ob69p⟩;refine aZ [] [] ⟨220,[(0,bE x1),(3,.own 5003),(4,.own 5004),(5,.own 21),(6,.own 22),(7,.own 23),(8,.i (((n2+1):Nat):Int))],[(21,aQ l15),(22,aJ l16),(23,aQ l17),(5003,aI (l6++[((r41.1,r41.2.1,r41.2.2.1,r41.2.2.2.1,r41.2.2.2.2.1,r41.2.2.2.2.2.1,r41.2.2.2.2.2.2):Y51)])),(5004,aG l18)],[],0⟩ (an1 ob69) ?_;rw[hC0]at h;exact lN (_,(n2+1),l15,l16,l17,(l6++[((r41.1,r41.2.1,r41.2.2.1,r41.2.2.2.1,r41.2.2.2.2.1,r41.2.2.2.2.2.1,r41.2.2.2.2.2.2):Y51)]),l18) LR h (Nat.lt_succ_self _)
  ·
   replace h:=aF hc1 h;refine AWp.exit (tE (tE (kS ?_)));exact jN (l6) LR h
 ·
  rintro l42 h;replace h:=(congrFun hK1 _).symm.trans h;refine aU [] [] ⟨220,[(2,.own 5003)],[(5003,aI l42)],[],0⟩ trivial ?_;refine AWp.le (Le.trans (Le.ren (bA 5003 3000) (aD 5003 3000) rfl) (LR (s':=⟨220,[(2,.own 3000)],[(3000,aI l42)],[],0⟩))) ?_;have hret:=Option.some.inj h;subst hret;refine AWp.le (LR (s':=⟨220,[(2,.own 3000)],[(3000,aI l42)],[],0⟩)) ?_;refine AWp.ret ?_;exact bR _ rfl ⟨rfl,rfl⟩ rfl
def f3 (x1:List Tq3) (x2:Int):Option Bool:=
 (f11).bind fun(r3:Bool)=>
 if(!r3)then(
 some false
 )else(
 (f12 x1).bind fun(r4:List Y51)=>
 chk (-9223372036854775808≤x2∧x2≤9223372036854775807)<|
 chk (((((r4).length:Nat):Int)+(1:Int))≤9223372036854775807)<|
 chk (0≤x2∧1≤((((r4).length+1):Nat):Int))<|
 (f13 [] [] (BitVec.ofInt 16 0) [] [] [] (r4.take (((x2%((((r4).length+1):Nat):Int))).toNat))).bind fun(r5:Tq6)=>
 chk (0≤(x2%((((r4).length+1):Nat):Int))∧(x2%((((r4).length+1):Nat):Int))≤(((r4).length:Nat):Int))<|
 (f13 [] [] (BitVec.ofInt 16 0) [] [] [] r4).bind fun(r6:Tq6)=>
 if(r5.2.2==(0:Int))then(
 some (((r6.2.2==(0:Int))&&(r5.1==r6.1))&&(r5.2.1==r6.2.1))
 )else(
 chk ((((r5.2.2==(13:Int))==true)&&((r6.2.2==(13:Int))==false))=true→(((r5.2.2==(13:Int))==true)&&((r6.2.2==(13:Int))==false))=true→(r6.2.2==(0:Int))=true→((((r5.2.2==(13:Int))==true)&&((r6.2.2==(13:Int))==false))&&((r6.2.2==(0:Int))==true))=true)<|
 chk (((r5.2.2==(13:Int))==true)=true→((r5.2.2==(13:Int))==true)=true→(r6.2.2==(13:Int))=false→(((r5.2.2==(13:Int))==true)&&((r6.2.2==(13:Int))==false))=true)<|
 some ((r5.2.2==(13:Int))&&((r6.2.2==(13:Int))||((r6.2.2==(0:Int))&&(decide (r6.1≥(x2%((((r4).length+1):Nat):Int)))))))
 )
 )
def vA (r3:List Y51) (n7:Nat) (K2:(List Ty0)→Option Bool):Nat→(Nat×List Ty0)→Option Bool
 |0,_=>none
 |k+1,(n8,l9)=>
  if(decide ((n8:Int)<(((r3).length:Nat):Int)))then(
  jn (fun(l10:List Ty0)=>
  chk (((n8:Int)+(1:Int))≤9223372036854775807)<|
  (vA r3 n7 K2 k) ((n8+1),l10)
  ) fun(K3:(List Ty0)→Option Bool)=>
  chk ((n8:Int)<(((r3).length:Nat):Int))<|
  chk (n8<(r3).length)<|
  if(((r3.getD n8 (default:Y51)).2.1==(3:Int))&&((r3.getD n8 (default:Y51)).2.2.1==(n7:Int)))then(
  chk (((l9).length+1) *16≤140737488355328)<|
  K3 (l9++[(r3.getD n8 (default:Y51)).2.2.2.2.2.1])
  )else(
  K3 l9
  )
  )else(
  K2 l9
  )
def vB (r3:List Y51) (K1:Unit→Option Bool):Nat→(List Ty0×Nat)→Option Bool
 |0,_=>none
 |k+1,(l6,n7)=>
  if(decide ((n7:Int)<(6:Int)))then(
  jn (fun(l11:List Ty0)=>
  (f15 (l11.take (((min (((l11).length:Nat):Int) (((l6).length:Nat):Int))).toNat)) (l6.take (((min (((l11).length:Nat):Int) (((l6).length:Nat):Int))).toNat))).bind fun(r12:Bool)=>
  chk (0≤(min (((l11).length:Nat):Int) (((l6).length:Nat):Int))∧(min (((l11).length:Nat):Int) (((l6).length:Nat):Int))≤(((l11).length:Nat):Int))<|
  chk (0≤(min (((l11).length:Nat):Int) (((l6).length:Nat):Int))∧(min (((l11).length:Nat):Int) (((l6).length:Nat):Int))≤(((l6).length:Nat):Int))<|
  if(!r12)then(
  some false
  )else(
  chk (((n7:Int)+(1:Int))≤9223372036854775807)<|
  (vB r3 K1 k) (l6,(n7+1))
  )
  ) fun(K2:(List Ty0)→Option Bool)=>
  vA r3 n7 K2 bG (0,[])
  )else(
  K1 ()
  )
abbrev f4z0 (l6:List Ty0) (n7:Nat) (r3:List Y51) (n8:Nat):List (Nat×V):=[(3,.own 6001),(7,vL 1 eS [] l6),(8,.int .i64 (n7:Int)),(9,.own 5009),(30,.int .i64 (n7:Int)),(33,.own 6001),(34,.int .i64 (((r3).length:Nat):Int)),(35,.int .i64 (n8:Int)),(1000001,.tab .u64 Lib.pow10Tab),(1000002,bF),(1000003,bF)]
abbrev f4z1 (l6:List Ty0) (n7:Nat) (r3:List Y51) (n8:Nat):List (Nat×V):=[(3,.own 6001),(7,vL 1 eS [] l6),(8,.int .i64 (n7:Int)),(9,.own 52),(30,.int .i64 (n7:Int)),(33,.own 6001),(34,.int .i64 (((r3).length:Nat):Int)),(35,.int .i64 (n8:Int)),(1000001,.tab .u64 Lib.pow10Tab),(1000002,bF),(1000003,bF)]
def f4 (x1:List Tq3):Option Bool:=
 (f11).bind fun(r2:Bool)=>
 if(!r2)then(
 some false
 )else(
 (f12 x1).bind fun(r3:List Y51)=>
 (f13 [] [] (BitVec.ofInt 16 0) [] [] [] r3).bind fun(r4:Tq6)=>
 if(r4.2.2 !=(13:Int))then(
 some (r4.2.2==(0:Int))
 )else(
 (f14 r3).bind fun(r5:List Ty0)=>
 jn (fun(_:Unit)=>
 some true
 ) fun(K1:Unit→Option Bool)=>
 vB r3 K1 bG (r5,0)
 )
 )
theorem f4_ok (x1:List Tq3) (r:Bool) (h:f4 x1=some r):aH Tryz.prog 4 [(1,.tab .u64 Lib.pow10Tab),(2,bF),(3,bF)] [] [] [vL 4 cO (default:Tq3) x1] (.bool r) []:=by
 unfold f4 at h;refine aH.body 0 _ _ Tryz.func4 rfl Tryz.ntmps4 rfl rfl ?_;refine bJ [] [] [0,1000001,1000002,1000003] [] trivial ?_;refine AWp.seq (AWp.seq ?_);obtain⟨r2,hr2,h⟩:=bind_ok h;refine cA [] [(0,⟨[],[],[],[],.bool r2,[],[],[1,2,3]⟩)] [0,14,1000001,1000002,1000003] [] (an1 (cpT (f11_ok _ hr2))) ?_;refine tN ?_;refine AWp.cond (b:=(!r2)) (by kernel_rfl) (fun hc1=> ?_) (fun hc1=> ?_)
 ·
  replace h:=aE hc1 h;refine aU [] [] ⟨68,[(2,.bool false)],[],[],0⟩ trivial ?_;have hret:=Option.some.inj h;subst hret;refine AWp.ret (tR ?_);exact bR _ rfl ⟨rfl,rfl⟩ rfl
 ·
  replace h:=aF hc1 h;refine AWp.skip (tN (AWp.seq ?_));obtain⟨r3,hr3,h⟩:=bind_ok h;refine cA [] [(1,⟨[bE x1],[],[],[(6001,aI r3)],.own 6001,[6001],[],[]⟩)] [3,1000001,1000002,1000003] [6001] (an1 (cpT (aH.ren (bA 3000 6001) (aD 3000 6001) rfl (f12_ok _ _ hr3)))) ?_;refine tN (AWp.seq (AWp.seq ?_));obtain⟨r4,hr4,h⟩:=bind_ok h;refine cA [] [(2,⟨[.agg [cS [],q1aSW [],.b16 (kK 0),q1aT73 [],kL [],q1aSBLWWJ []],bC r3],[],[],[],.tup [.i r4.1,.i r4.2.1,.i r4.2.2],[],[6001],[1,2,3]⟩)] [3,6,1000001,1000002,1000003] [6001] (an1 (cpL (c:=true) [(6001,aI r3)] [6001] [.agg [.nils,.nils,.b16 (kK 0),.nils,.nils,.nils],.own 6001] (fun _=>(vJ _ _ _ _ _ _ _ _ hr4)) (fun _=>⟨(.aggs ⟨.nilL,.nilL,.refl _,.nilL,.nilL,.nilL,trivial⟩),.refl _,trivial⟩) (.inr ⟨rfl,trivial⟩))) ?_;refine tN ?_;refine bJ [] [] [3,6,25,1000001,1000002,1000003] [6001] trivial ?_;refine AWp.cond (b:=(r4.2.2 !=(13:Int))) (by kernel_rfl) (fun hc2=> ?_) (fun hc2=> ?_)
  ·
   replace h:=aE hc2 h;refine aU [] [] ⟨68,[(2,.bool (r4.2.2==(0:Int)))],[],[],0⟩ trivial ?_;have hret:=Option.some.inj h;subst hret;refine AWp.ret (tR ?_);exact bR _ rfl ⟨rfl,rfl⟩ rfl
  ·
   replace h:=aF hc2 h;refine AWp.skip (tN (AWp.seq ?_));obtain⟨r5,hr5,h⟩:=bind_ok h;refine aZ [] [(1,⟨[bC r3],[],[],[(6002,aG r5)],.own 6002,[6002],[6001],[]⟩)] ⟨68,[(3,.own 6001),(7,.own 6002),(1000001,.tab .u64 Lib.pow10Tab),(1000002,bF),(1000003,bF)],[(6001,aI r3),(6002,aG r5)],[],0⟩ (an1 (cpL (c:=true) [(6001,aI r3)] [6001] [.own 6001] (fun _=>(aH.ren (bA 3000 6002) (aD 3000 6002) rfl (f14_ok _ _ hr5))) (fun _=>⟨.refl _,trivial⟩) (.inr ⟨rfl,⟨(fun _ _ _ _=>eS_flat _ _),trivial⟩⟩))) ?_;refine tN ?_;obtain⟨K1,hK1,h⟩:=aS h;refine AWp.join (fun(x:Unit)=>match x with|()=>⟨68,[(1000001,.tab .u64 Lib.pow10Tab),(1000002,bF),(1000003,bF)],[],[],0⟩) (fun x=>K1 x=some r) ?_ ?_
   ·
    refine aU [] [] ⟨68,[(3,.own 6001),(7,.own 6002),(30,.i (0:Int)),(1000001,.tab .u64 Lib.pow10Tab),(1000002,bF),(1000003,bF)],[(6001,aI r3),(6002,aG r5)],[],0⟩ trivial ?_;refine AWp.block ?_;refine AWp.loopL (α:=Nat×(List Ty0×Nat)) (fun x=>match x with|(_,l6,n7)=>⟨68,[(3,.own 6001),(7,cS l6),(30,.i (n7:Int)),(1000001,.tab .u64 Lib.pow10Tab),(1000002,bF),(1000003,bF)],[(6001,aI r3)],[],0⟩) (fun x=>vB r3 K1 x.1 x.2=some r) (fun x=>x.1) (bG,r5,0) (Le.trans (Le.trans (Le.freeze 6002 rfl rfl) (LR (s':=⟨68,[(3,.own 6001),(7,cS r5),(30,.i (0:Int)),(1000001,.tab .u64 Lib.pow10Tab),(1000002,bF),(1000003,bF)],[(6001,aI r3)],[],0⟩))) (LR (s':=⟨68,[(3,.own 6001),(7,cS r5),(30,.i (0:Int)),(1000001,.tab .u64 Lib.pow10Tab),(1000002,bF),(1000003,bF)],[(6001,aI r3)],[],0⟩))) h ?_
    rintro⟨k0,l6,n7⟩ h
    cases k0 with
    |zero=>exact nomatch (show none=some r from h)
    |succ k0=>
    obtain⟨C0,hC0⟩:∃C,C=vB r3 K1 k0:=⟨_,rfl⟩;replace h:=(vB.eq_2 ..).symm.trans h
    try rw[←hC0]at h
    refine aU [] [] ⟨68,[(3,.own 6001),(7,cS l6),(30,.i (n7:Int)),(31,.bool (decide ((n7:Int)<(6:Int)))),(1000001,.tab .u64 Lib.pow10Tab),(1000002,bF),(1000003,bF)],[(6001,aI r3)],[],0⟩ trivial ?_;refine AWp.seq ?_;refine AWp.cond (b:=(decide ((n7:Int)<(6:Int)))) (by kernel_rfl) (fun hc3=> ?_) (fun hc3=> ?_)
    ·
     replace h:=aE hc3 h;refine AWp.skip (tN (AWp.seq (AWp.block ?_)));refine bJ [] [] [3,7,8,30,1000001,1000002,1000003] [6001] trivial ?_;refine aU [] [] ⟨68,[(3,.own 6001),(7,cS l6),(8,.i (n7:Int)),(9,.nils),(30,.i (n7:Int)),(1000001,.tab .u64 Lib.pow10Tab),(1000002,bF),(1000003,bF)],[(6001,aI r3)],[],0⟩ trivial ?_;obtain⟨K2,hK2,h⟩:=aS h;refine AWp.join (α:=List Ty0) (fun(l11:List Ty0)=>⟨68,[(3,.own 6001),(7,cS l6),(9,.own 5009),(30,.i (n7:Int)),(1000001,.tab .u64 Lib.pow10Tab),(1000002,bF),(1000003,bF)],[(5009,aG l11),(6001,aI r3)],[],0⟩) (fun x=>K2 x=some r) ?_ ?_
     ·
      refine aU [] [] ⟨68,[(3,.own 6001),(7,cS l6),(8,.i (n7:Int)),(9,.nils),(30,.i (n7:Int)),(33,.own 6001),(34,.i (lZ r3)),(35,.i (0:Int)),(1000001,.tab .u64 Lib.pow10Tab),(1000002,bF),(1000003,bF)],[(6001,aI r3)],[],0⟩ trivial ?_;refine AWp.block ?_;refine AWp.loopL (α:=Nat×(Nat×List Ty0)) (fun x=>match x with|(_,n8,l9)=>⟨68,(f4z0 l6 n7 r3 n8),[(5009,aG l9),(6001,aI r3)],[],0⟩) (fun x=>vA r3 n7 K2 x.1 x.2=some r) (fun x=>x.1) (bG,0,[]) (Le.trans (Le.trans (Le.nilOwn 9 5009 9 1 (cD eS [] []) rfl rfl (Nat.le_of_ble_eq_true rfl)) (LR (s':=⟨68,[(3,.own 6001),(7,cS l6),(8,.i (n7:Int)),(9,.own 5009),(30,.i (n7:Int)),(33,.own 6001),(34,.i (lZ r3)),(35,.i (0:Int)),(1000001,.tab .u64 Lib.pow10Tab),(1000002,bF),(1000003,bF)],[(6001,aI r3),(5009,aG [])],[],0⟩))) (LR (s':=⟨68,[(3,.own 6001),(7,cS l6),(8,.i (n7:Int)),(9,.own 5009),(30,.i (n7:Int)),(33,.own 6001),(34,.i (lZ r3)),(35,.i (0:Int)),(1000001,.tab .u64 Lib.pow10Tab),(1000002,bF),(1000003,bF)],[(5009,aG []),(6001,aI r3)],[],0⟩))) h ?_
      rintro⟨k1,n8,l9⟩ h
      cases k1 with
      |zero=>exact nomatch (show none=some r from h)
      |succ k1=>
      obtain⟨C1,hC1⟩:∃C,C=vA r3 n7 K2 k1:=⟨_,rfl⟩;replace h:=(vA.eq_2 ..).symm.trans h
      try rw[←hC1]at h
      refine aU [] [] ⟨68,[(3,.own 6001),(7,cS l6),(8,.i (n7:Int)),(9,.own 5009),(30,.i (n7:Int)),(33,.own 6001),(34,.i (lZ r3)),(35,.i (n8:Int)),(36,.bool (decide ((n8:Int)<(lZ r3)))),(1000001,.tab .u64 Lib.pow10Tab),(1000002,bF),(1000003,bF)],[(5009,aG l9),(6001,aI r3)],[],0⟩ trivial ?_;refine AWp.seq ?_;refine AWp.cond (b:=(decide ((n8:Int)<(lZ r3)))) (by kernel_rfl) (fun hc4=> ?_) (fun hc4=> ?_)
      ·
       replace h:=aE hc4 h;refine AWp.skip (tN ?_);obtain⟨K3,hK3,h⟩:=aS h;refine AWp.join (α:=List Ty0) (fun(l10:List Ty0)=>⟨68,(f4z1 l6 n7 r3 n8),[(52,aG l10),(6001,aI r3)],[],0⟩) (fun x=>K3 x=some r) ?_ ?_
       ·
        refine AWp.block (AWp.seq ?_);obtain⟨ob0p,h⟩:=aB h;have ob0:0≤(n8:Int)∧(n8:Int)<(((r3).length:Nat):Int):=⟨by omega,ob0p⟩;obtain⟨ob1,h⟩:=aB h;refine cA [] [] [3,7,8,9,11,30,33,34,35,1000001,1000002,1000003] [11,5009,6001] (an3 ob0 ob1 trivial) ?_;refine tN (AWp.seq ?_);have ob2:=idA ((((r3.getD n8 aL).2.1==(3:Int))==true)=true);have ob3:=idA ((((r3.getD n8 aL).2.1==(3:Int))==true)=true);have ob4:=idA ((((r3.getD n8 aL).2.1==(3:Int))==true)=true);have ob5:=bqA ((r3.getD n8 aL).2.1==(3:Int)) true;refine aZ [] [] ⟨68,[(3,.own 6001),(7,cS l6),(8,.i (n7:Int)),(9,.own 5009),(11,.ptr 11 0),(30,.i (n7:Int)),(33,.own 6001),(34,.i (lZ r3)),(35,.i (n8:Int)),(47,.bool (((r3.getD n8 aL).2.1==(3:Int))&&((r3.getD n8 aL).2.2.1==(n7:Int)))),(1000001,.tab .u64 Lib.pow10Tab),(1000002,bF),(1000003,bF)],[(11,.cells 51 (qpt (r3.getD n8 aL))),(5009,aG l9),(6001,aI r3)],[],0⟩ (an3 (an1 ob2) (an2 ob3 ob4) ob5) ?_;refine tN ?_;refine AWp.cond (b:=(((r3.getD n8 aL).2.1==(3:Int))&&((r3.getD n8 aL).2.2.1==(n7:Int)))) (by kernel_rfl) (fun hc5=> ?_) (fun hc5=> ?_)
        ·
         replace h:=aE hc5 h;obtain⟨ob6,h⟩:=aB h;refine aZ [] [] ⟨68,(f4z0 l6 n7 r3 n8),[(5009,.rows 9 1 ((l9).length+1) (gF (l9).length (cD eS [] l9) (dH 1 [.str (r3.getD n8 aL).2.2.2.2.2.1]))),(6001,aI r3)],[],0⟩ (an1 ob6) ?_;refine kN ?_;exact jN ((l9++[(r3.getD n8 aL).2.2.2.2.2.1])) (Le.trans (Le.mk (s':=⟨68,(f4z0 l6 n7 r3 n8),[(5009,aG (l9++[(r3.getD n8 aL).2.2.2.2.2.1])),(6001,aI r3)],[],0⟩) rfl rfl ⟨.refl _,.refl _,.refl _,.refl _,.refl _,.refl _,.refl _,.refl _,.refl _,.refl _,.refl _,trivial⟩ ⟨⟨_,rfl,(BLe.of (RL.app (RL.self _) (RL.lst (enc:=eS) [(r3.getD n8 aL).2.2.2.2.2.1] rfl rfl (fun _=>rfl))))⟩,⟨_,rfl,.refl _⟩,trivial⟩) (Le.trans (Le.trans (Le.ren (bA 5009 52) (aD 5009 52) rfl) (LR (s':=⟨68,(f4z1 l6 n7 r3 n8),[(52,aG (l9++[(r3.getD n8 aL).2.2.2.2.2.1])),(6001,aI r3)],[],0⟩))) LR)) h
        ·
         replace h:=aF hc5 h;refine AWp.skip (kN ?_);exact jN (l9) (Le.trans (Le.trans (Le.ren (bA 5009 52) (aD 5009 52) rfl) (LR (s':=⟨68,[(3,.own 6001),(7,cS l6),(8,.i (n7:Int)),(9,.own 52),(11,.ptr 11 0),(30,.i (n7:Int)),(33,.own 6001),(34,.i (lZ r3)),(35,.i (n8:Int)),(47,.bool (((r3.getD n8 aL).2.1==(3:Int))&&((r3.getD n8 aL).2.2.1==(n7:Int)))),(1000001,.tab .u64 Lib.pow10Tab),(1000002,bF),(1000003,bF)],[(11,.cells 51 (qpt (r3.getD n8 aL))),(52,aG l9),(6001,aI r3)],[],0⟩))) LR) h
       ·
        rintro l10 h;replace h:=(congrFun hK3 _).symm.trans h;obtain⟨ob7p,h⟩:=aB h;have ob7: -9223372036854775808≤((n8:Int)+(1:Int))∧((n8:Int)+(1:Int))≤9223372036854775807:=⟨by omega,ob7p⟩;refine aZ [] [] ⟨68,[(3,.own 6001),(7,cS l6),(8,.i (n7:Int)),(9,.own 52),(30,.i (n7:Int)),(33,.own 6001),(34,.i (lZ r3)),(35,.i (((n8+1):Nat):Int)),(1000001,.tab .u64 Lib.pow10Tab),(1000002,bF),(1000003,bF)],[(52,aG l10),(6001,aI r3)],[],0⟩ (an1 ob7) ?_;rw[hC1]at h;exact lN (_,(n8+1),l10) (Le.trans (Le.trans (Le.ren (bA 52 5009) (aD 52 5009) rfl) (LR (s':=⟨68,[(3,.own 6001),(7,cS l6),(8,.i (n7:Int)),(9,.own 5009),(30,.i (n7:Int)),(33,.own 6001),(34,.i (lZ r3)),(35,.i (((n8+1):Nat):Int)),(1000001,.tab .u64 Lib.pow10Tab),(1000002,bF),(1000003,bF)],[(5009,aG l10),(6001,aI r3)],[],0⟩))) LR) h (Nat.lt_succ_self _)
      ·
       replace h:=aF hc4 h;refine AWp.exit (tE (tE (kS ?_)));exact jN (l9) LR h
     ·
      rintro l11 h;replace h:=(congrFun hK2 _).symm.trans h;refine aU [] [] ⟨68,[(3,.own 6001),(7,cS l6),(9,.own 5009),(12,.i (min (lZ l11) (lZ l6))),(30,.i (n7:Int)),(1000001,.tab .u64 Lib.pow10Tab),(1000002,bF),(1000003,bF)],[(5009,aG l11),(6001,aI r3)],[],0⟩ trivial ?_;refine AWp.seq ?_;refine AWp.le (Le.trans (Le.freeze 5009 rfl rfl) (LR (s':=⟨68,[(3,.own 6001),(7,cS l6),(9,cS l11),(12,.i (min (lZ l11) (lZ l6))),(30,.i (n7:Int)),(1000001,.tab .u64 Lib.pow10Tab),(1000002,bF),(1000003,bF)],[(6001,aI r3)],[],0⟩))) ?_;obtain⟨r12,hr12,h⟩:=bind_ok h;obtain⟨ob8,ob9,h⟩:=ck2 h;refine aZ [] [(6,⟨[cS (l11.take (((min (lZ l11) (lZ l6))).toNat)),cS (l6.take (((min (lZ l11) (lZ l6))).toNat))],[],[],[],.bool r12,[],[],[]⟩)] ⟨68,[(3,.own 6001),(7,cS l6),(30,.i (n7:Int)),(66,.bool (!r12)),(1000001,.tab .u64 Lib.pow10Tab),(1000002,bF),(1000003,bF)],[(6001,aI r3)],[],0⟩ (an3 ob8 ob9 (cpL (c:=true) [] [] [.arr 1 (((min (lZ l11) (lZ l6))).toNat) (cD eS [] l11),.arr 1 (((min (lZ l11) (lZ l6))).toNat) (cD eS [] l6)] (fun _=>(f15_ok _ _ _ hr12)) (fun _=>⟨(VLe.takeL (by first|omega|(simp only[List.length_append,List.length_cons,List.length_nil,List.length_take,List.length_drop]at *;omega)|(simp;done)|(simp_all;done)|(simp_all;omega)|rfl)),(VLe.takeL (by first|omega|(simp only[List.length_append,List.length_cons,List.length_nil,List.length_take,List.length_drop]at *;omega)|(simp;done)|(simp_all;done)|(simp_all;omega)|rfl)),trivial⟩) (.inl rfl))) ?_;refine tN ?_;refine AWp.cond (b:=(!r12)) (by kernel_rfl) (fun hc6=> ?_) (fun hc6=> ?_)
      ·
       replace h:=aE hc6 h;refine aU [] [] ⟨68,[(2,.bool false)],[],[],0⟩ trivial ?_;have hret:=Option.some.inj h;subst hret;refine AWp.ret (kR (tR (tR (kR (aY ?_)))));exact bR _ rfl ⟨rfl,rfl⟩ rfl
      ·
       replace h:=aF hc6 h;refine AWp.skip (kN (tN ?_));obtain⟨ob10p,h⟩:=aB h;have ob10: -9223372036854775808≤((n7:Int)+(1:Int))∧((n7:Int)+(1:Int))≤9223372036854775807:=⟨by omega,ob10p⟩;refine aZ [] [] ⟨68,[(3,.own 6001),(7,cS l6),(30,.i (((n7+1):Nat):Int)),(1000001,.tab .u64 Lib.pow10Tab),(1000002,bF),(1000003,bF)],[(6001,aI r3)],[],0⟩ (an1 ob10) ?_;rw[hC0]at h;exact lN (_,l6,(n7+1)) LR h (Nat.lt_succ_self _)
    ·
     replace h:=aF hc3 h;refine AWp.exit (tE (tE (kS ?_)));exact jN () LR h
   ·
    rintro⟨⟩ h;replace h:=(congrFun hK1 _).symm.trans h;refine aU [] [] ⟨68,[(2,.bool true)],[],[],0⟩ trivial ?_;have hret:=Option.some.inj h;subst hret;refine AWp.ret ?_;exact bR _ rfl ⟨rfl,rfl⟩ rfl
end Go.Abs
namespace Go.Abs
theorem aA {p:Prop} [Decidable p] {α:Type} {x:Option α} (h:p):chk p x=x:=if_pos h
theorem aR {p:Prop} [Decidable p] {α:Type} {x y:α} (h:p):(if decide p=true then x else y)=x:=if_pos (decide_eq_true h)
theorem aO {p:Prop} [Decidable p] {α:Type} {x y:α} (h:¬p):(if decide p=true then x else y)=y:=if_neg (by simpa using h)
theorem bV {α β:Type} (K:α→Option β) (x:(α→Option β)→Option β):jn K x=x K:=rfl
theorem jH {α β:Type} [Inhabited α] {x:Option α} {k:α→Option β}:gW true x k=x.bind k:=rfl
theorem nY {α β:Type} [Inhabited α] {x:Option α} {k:α→Option β}:gW false x k=k default:=rfl
theorem aC {α β:Type} (a:α) (f:α→Option β):(some a).bind f=f a:=rfl
theorem abc_eq {α:Type} [DecidableEq α] {q:Prop} [Decidable q] {x y:Option α} (h:q→x=y):abc q x y=y:=by
 unfold abc both;split
 ·rename_i hq;rw[h hq];simp
 ·rfl
theorem fuel_lt {n:Nat} (h:n≤18446744073709551615):n<bG:=by unfold bG;omega
theorem getD_drop {α:Type} (x:List α) (n:Nat) (d:α) (h:n<x.length):x.drop n=x.getD n d::x.drop (n+1):=by
 rw[List.drop_eq_getElem_cons h];simp[List.getD_eq_getElem?_getD,h]
theorem rW {α S R:Type} (L:Nat→Nat×S→Option R) (x:List α) (d:α) (Inv:Nat→S→Prop) (g:S→α→S) (K:S→Option R)
  (h:∀k n s,n<x.length→Inv n s→L (k+1) (n,s)=L k (n+1,g s (x.getD n d)))
  (hI:∀n s,n<x.length→Inv n s→Inv (n+1) (g s (x.getD n d)))
  (he:∀k s,Inv x.length s→L (k+1) (x.length,s)=K s):∀c k n s,n+c=x.length→c<k→Inv n s→L k (n,s)=K ((x.drop n).foldl g s)
 |0,k,n,s,hn,hk,hi=>by
  obtain⟨k,rfl⟩:∃q,k=q+1:=⟨k-1,by omega⟩
  obtain rfl:n=x.length:=by omega
  rw[he k s hi,List.drop_eq_nil_of_le (Nat.le_refl _)];rfl
 |c+1,k,n,s,hn,hk,hi=>by
  obtain⟨k,rfl⟩:∃q,k=q+1:=⟨k-1,by omega⟩
  have hlt:n<x.length:=by omega
  rw[h k n s hlt hi,getD_drop x n d hlt]
  exact rW L x d Inv g K h hI he c k (n+1) _ (by omega) (by omega) (hI n s hlt hi)
theorem foldl_inv {α S:Type} (Inv:Nat→S→Prop) (g:S→α→S) (d:α) (x:List α) (hI:∀n s,n<x.length→Inv n s→Inv (n+1) (g s (x.getD n d))) (s:S) (h0:Inv 0 s):Inv x.length (x.foldl g s):=by
 suffices H:∀c n s,n+c=x.length→Inv n s→Inv x.length ((x.drop n).foldl g s) by simpa using H x.length 0 s (by omega) h0
 intro c
 induction c with
 |zero=>
  intro n s hn hi;obtain rfl:n=x.length:=by omega
  rw[List.drop_eq_nil_of_le (Nat.le_refl _)];exact hi
 |succ c ih=>
  intro n s hn hi;have hlt:n<x.length:=by omega
  rw[getD_drop x n d hlt];exact ih (n+1) _ (by omega) (hI n s hlt hi)
theorem rY {α R:Type} (L:Nat→Nat→Option R) (x:List α) (d:α) (p:α→Bool) (r:Nat→Option R) (K:Option R)
  (h:∀k n,n<x.length→L (k+1) n=if p (x.getD n d)=true then r n else L k (n+1))
  (he:∀k,L (k+1) x.length=K):∀c k n,n+c=x.length→c<k→
   (∃m,n≤m∧m<x.length∧p (x.getD m d)=true∧L k n=r m∧(x.drop n).any p=true)∨(L k n=K∧(x.drop n).any p=false)
 |0,k,n,hn,hk=>by
  obtain⟨k,rfl⟩:∃q,k=q+1:=⟨k-1,by omega⟩
  obtain rfl:n=x.length:=by omega
  exact .inr ⟨he k,by rw[List.drop_eq_nil_of_le (Nat.le_refl _)];rfl⟩
 |c+1,k,n,hn,hk=>by
  obtain⟨k,rfl⟩:∃q,k=q+1:=⟨k-1,by omega⟩
  have hlt:n<x.length:=by omega
  rw[h k n hlt,getD_drop x n d hlt]
  by_cases hp:p (x.getD n d)=true
  ·rw[if_pos hp];exact .inl ⟨n,Nat.le_refl _,hlt,hp,rfl,by rw[List.any_cons,hp];rfl⟩
  ·rw[if_neg hp]
   have hp':p (x.getD n d)=false:=by simpa using hp
   rw[List.any_cons,hp',Bool.false_or]
   rcases rY L x d p r K h he c k (n+1) (by omega) (by omega)with⟨m,h1,h2⟩|h2
   ·exact .inl ⟨m,by omega,h2⟩
   ·exact .inr h2
theorem aAB {α R:Type} (L:Nat→Nat→Option R) (x:List α) (d:α) (p:α→Bool) (r:Option R) (K:Option R)
  (h:∀k n,n<x.length→L (k+1) n=if p (x.getD n d)=true then r else L k (n+1))
  (he:∀k,L (k+1) x.length=K) (k:Nat) (hk:x.length<k):L k 0=if x.any p=true then r else K:=by
 rcases rY L x d p (fun _=>r) K h he x.length k 0 (by omega) hk with⟨m,_,_,_,h1,h2⟩|⟨h1,h2⟩
 ·rw[h1,if_pos (by simpa using h2)]
 ·rw[h1,if_neg (by simpa using h2)]
end Go.Abs
