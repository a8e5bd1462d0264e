/- Part 24 of the proof: X54A. -/
import Derived.Test.YtfkhgbcggabkjaaGreatDoorMonmadZ23
namespace Go.Abs
open Go Go.Proofs
set_option maxRecDepth 100000
set_option maxHeartbeats 4000000
theorem f11_ok (r:Bool) (h:f11=some r):aE Tryz.prog 11 [(1,pT),(2,bV),(3,bV)] [] [] [] (.bool r) []:=by
 unfold f11 at h;refine aE.body 0 _ _ Tryz.func11 rfl Tryz.ntmps11 rfl rfl ?_;refine aN [] [] [1000001,1000002,1000003] [] trivial ?_;refine aN [] [] [1,1000001,1000002,1000003] [1] (an1 trivial) ?_;refine bJ [] [] ⟨107,[(1,.ptr 1 0),(2,.own 21),(1000001,pT),(1000002,bV),(1000003,bV)],[(1,.cells 37 [.nils,.nils,.b16 (iD 0),.nils,.nils,.nils]),(21,.rows 51 28 2 (dN 28 [.i (0:Int),.i (4:Int),.i (0:Int),.i (0:Int),.i (0:Int),.str (bW),.str [],.i (0:Int),.i (0:Int),.i (0:Int),.i (0:Int),.i (0:Int),.str [],.i (0:Int),.i (0:Int),.i (0:Int),.i (0:Int),.i (0:Int),.str [],.str [],.nils,.nils,.i (0:Int),.str [],.nils,.nils,.nils,.nils,.i (0:Int),.i (3:Int),.i (0:Int),.i (0:Int),.i (0:Int),.str (cC),.str [],.i (0:Int),.i (0:Int),.i (0:Int),.i (0:Int),.i (0:Int),.str [],.i (0:Int),.i (0:Int),.i (0:Int),.i (0:Int),.i (0:Int),.str [],.str [],.nils,.nils,.i (0:Int),.str [],.nils,.nils,.nils,.nils]))],[],0⟩ trivial ?_;refine aaX (acZ (s':=⟨107,[(1,.ptr 1 0),(2,.own 21),(1000001,pT),(1000002,bV),(1000003,bV)],[(1,.cells 37 [.nils,.nils,.b16 (iD 0),.nils,.nils,.nils]),(21,aU [(((0:Int),(4:Int),(0:Int),(0:Int),(0:Int),(bW),[]):Y51),(((0:Int),(3:Int),(0:Int),(0:Int),(0:Int),(cC),[]):Y51)])],[],0⟩) rfl rfl ⟨.refl _,.refl _,.refl _,.refl _,.refl _,trivial⟩ ⟨⟨_,rfl,.refl _⟩,⟨_,rfl,(acK (RL.lstV (enc:=kT) [(((0:Int),(4:Int),(0:Int),(0:Int),(0:Int),(bW),[]):Y51),(((0:Int),(3:Int),(0:Int),(0:Int),(0:Int),(cC),[]):Y51)] rfl ⟨.refl _,.refl _,.refl _,.refl _,.refl _,.refl _,.refl _,VLe.opq rfl,VLe.opq rfl,VLe.opq rfl,VLe.opq rfl,VLe.opq rfl,VLe.opq rfl,VLe.opq rfl,VLe.opq rfl,VLe.opq rfl,VLe.opq rfl,VLe.opq rfl,VLe.opq rfl,VLe.opq rfl,VLe.opq rfl,VLe.opq rfl,VLe.opq rfl,VLe.opq rfl,VLe.opq rfl,VLe.opq rfl,VLe.opq rfl,VLe.opq rfl,.refl _,.refl _,.refl _,.refl _,.refl _,.refl _,.refl _,VLe.opq rfl,VLe.opq rfl,VLe.opq rfl,VLe.opq rfl,VLe.opq rfl,VLe.opq rfl,VLe.opq rfl,VLe.opq rfl,VLe.opq rfl,VLe.opq rfl,VLe.opq rfl,VLe.opq rfl,VLe.opq rfl,VLe.opq rfl,VLe.opq rfl,VLe.opq rfl,VLe.opq rfl,VLe.opq rfl,VLe.opq rfl,VLe.opq rfl,VLe.opq rfl,trivial⟩ (fun _=>rfl)))⟩,trivial⟩) ?_;refine aaE ?_;obtain⟨r1,hr1,h⟩:=bind_ok h;refine bG [] [(1,⟨[aQ [(((0:Int),(4:Int),(0:Int),(0:Int),(0:Int),(bW),[]):Y51),(((0:Int),(3:Int),(0:Int),(0:Int),(0:Int),(cC),[]):Y51)]],[],[],[],.tup [.agg (f11z7 r1),.i r1.2.2.2],[],[21],[]⟩)] [1,2,3,4,1000001,1000002,1000003] [1,3,21] (an2 (cpL (c:=true) [(21,aU [(((0:Int),(4:Int),(0:Int),(0:Int),(0:Int),(bW),[]):Y51),(((0:Int),(3:Int),(0:Int),(0:Int),(0:Int),(cC),[]):Y51)])] [21] [.own 21] (fun _=>(f22_ok _ _ hr1)) (fun _=>⟨.refl _,trivial⟩) (.inr ⟨rfl,trivial⟩)) trivial) ?_;refine tN (aaE ?_);obtain⟨r2,hr2,h⟩:=bind_ok h;refine bG [] [(2,⟨[.agg [eC [],yB [],.b16 (iD 0),vL 6 eT73 (default:aaA×Int×BitVec 16×aaB×aaB×(xA)) [],oU [],vL 3 fZ (default:aaA×Bool×(xA)) []],aQ [(((0:Int),(4:Int),(0:Int),(0:Int),(0:Int),(bW),[]):Y51),(((0:Int),(3:Int),(0:Int),(0:Int),(0:Int),(cC),[]):Y51)]],[],[],[],.tup [.i r2.1,.i r2.2.1,.i r2.2.2],[],[21],[1,2,3]⟩)] [1,2,3,4,5,6,7,1000001,1000002,1000003] [1,3,21] (an1 (cpL (c:=true) [(21,aU [(((0:Int),(4:Int),(0:Int),(0:Int),(0:Int),(bW),[]):Y51),(((0:Int),(3:Int),(0:Int),(0:Int),(0:Int),(cC),[]):Y51)])] [21] [.agg [.nils,.nils,.b16 (iD 0),.nils,.nils,.nils],.own 21] (fun _=>(wU _ _ _ _ _ _ _ _ hr2)) (fun _=>⟨(.aggs ⟨.nilL,.nilL,.refl _,.nilL,.nilL,.nilL,trivial⟩),.refl _,trivial⟩) (.inr ⟨rfl,trivial⟩))) ?_;refine tN (aaE ?_);obtain⟨ob0p,h⟩:=aB h;have ob0:0<=(0:Int)/\(0:Int)<((([(((0:Int),(4:Int),(0:Int),(0:Int),(0:Int),([118]:aaA),[]):Y51),(((0:Int),(3:Int),(0:Int),(0:Int),(0:Int),([119]:aaA),[]):Y51)]).length:Nat):Int):=⟨by omega,ob0p⟩;obtain⟨ob1,h⟩:=aB h;refine bH [] [] ⟨107,[(1,.ptr 1 0),(3,.ptr 3 0),(4,.i r1.2.2.2),(5,.i r2.1),(6,.i r2.2.1),(7,.i r2.2.2),(8,.own 38),(1000001,pT),(1000002,bV),(1000003,bV)],[(1,.cells 37 [.nils,.nils,.b16 (iD 0),.nils,.nils,.nils]),(3,.cells 60 (f11z7 r1)),(38,.rows 51 28 2 (dN 28 [.i (([(((0:Int),(4:Int),(0:Int),(0:Int),(0:Int),(bW),[]):Y51),(((0:Int),(3:Int),(0:Int),(0:Int),(0:Int),(cC),[]):Y51)]).getD 0 aH).1,.i (([(((0:Int),(4:Int),(0:Int),(0:Int),(0:Int),(bW),[]):Y51),(((0:Int),(3:Int),(0:Int),(0:Int),(0:Int),(cC),[]):Y51)]).getD 0 aH).2.1,.i (([(((0:Int),(4:Int),(0:Int),(0:Int),(0:Int),(bW),[]):Y51),(((0:Int),(3:Int),(0:Int),(0:Int),(0:Int),(cC),[]):Y51)]).getD 0 aH).2.2.1,.i (([(((0:Int),(4:Int),(0:Int),(0:Int),(0:Int),(bW),[]):Y51),(((0:Int),(3:Int),(0:Int),(0:Int),(0:Int),(cC),[]):Y51)]).getD 0 aH).2.2.2.1,.i (([(((0:Int),(4:Int),(0:Int),(0:Int),(0:Int),(bW),[]):Y51),(((0:Int),(3:Int),(0:Int),(0:Int),(0:Int),(cC),[]):Y51)]).getD 0 aH).2.2.2.2.1,.str (([(((0:Int),(4:Int),(0:Int),(0:Int),(0:Int),(bW),[]):Y51),(((0:Int),(3:Int),(0:Int),(0:Int),(0:Int),(cC),[]):Y51)]).getD 0 aH).2.2.2.2.2.1,.str (([(((0:Int),(4:Int),(0:Int),(0:Int),(0:Int),(bW),[]):Y51),(((0:Int),(3:Int),(0:Int),(0:Int),(0:Int),(cC),[]):Y51)]).getD 0 aH).2.2.2.2.2.2,.opq,.opq,.opq,.opq,.opq,.opq,.opq,.opq,.opq,.opq,.opq,.opq,.opq,.opq,.opq,.opq,.opq,.opq,.opq,.opq,.opq,.i (0:Int),.i (3:Int),.i (0:Int),.i (0:Int),.i (0:Int),.str (bW),.str [],.i (0:Int),.i (0:Int),.i (0:Int),.i (0:Int),.i (0:Int),.str [],.i (0:Int),.i (0:Int),.i (0:Int),.i (0:Int),.i (0:Int),.str [],.str [],.nils,.nils,.i (0:Int),.str [],.nils,.nils,.nils,.nils]))],[],0⟩ (an2 ob0 ob1) ?_;refine tN (aaX (acZ (s':=⟨107,[(1,.ptr 1 0),(3,.ptr 3 0),(4,.i r1.2.2.2),(5,.i r2.1),(6,.i r2.2.1),(7,.i r2.2.2),(8,.own 38),(1000001,pT),(1000002,bV),(1000003,bV)],[(1,.cells 37 [.nils,.nils,.b16 (iD 0),.nils,.nils,.nils]),(3,.cells 60 (f11z7 r1)),(38,aU [(((([(((0:Int),(4:Int),(0:Int),(0:Int),(0:Int),(bW),[]):Y51),(((0:Int),(3:Int),(0:Int),(0:Int),(0:Int),(cC),[]):Y51)]).getD 0 aH).1,(([(((0:Int),(4:Int),(0:Int),(0:Int),(0:Int),(bW),[]):Y51),(((0:Int),(3:Int),(0:Int),(0:Int),(0:Int),(cC),[]):Y51)]).getD 0 aH).2.1,(([(((0:Int),(4:Int),(0:Int),(0:Int),(0:Int),(bW),[]):Y51),(((0:Int),(3:Int),(0:Int),(0:Int),(0:Int),(cC),[]):Y51)]).getD 0 aH).2.2.1,(([(((0:Int),(4:Int),(0:Int),(0:Int),(0:Int),(bW),[]):Y51),(((0:Int),(3:Int),(0:Int),(0:Int),(0:Int),(cC),[]):Y51)]).getD 0 aH).2.2.2.1,(([(((0:Int),(4:Int),(0:Int),(0:Int),(0:Int),(bW),[]):Y51),(((0:Int),(3:Int),(0:Int),(0:Int),(0:Int),(cC),[]):Y51)]).getD 0 aH).2.2.2.2.1,(([(((0:Int),(4:Int),(0:Int),(0:Int),(0:Int),(bW),[]):Y51),(((0:Int),(3:Int),(0:Int),(0:Int),(0:Int),(cC),[]):Y51)]).getD 0 aH).2.2.2.2.2.1,(([(((0:Int),(4:Int),(0:Int),(0:Int),(0:Int),(bW),[]):Y51),(((0:Int),(3:Int),(0:Int),(0:Int),(0:Int),(cC),[]):Y51)]).getD 0 aH).2.2.2.2.2.2):Y51),(((0:Int),(3:Int),(0:Int),(0:Int),(0:Int),(bW),[]):Y51)])],[],0⟩) rfl rfl ⟨.refl _,.refl _,.refl _,.refl _,.refl _,.refl _,.refl _,.refl _,.refl _,.refl _,trivial⟩ ⟨⟨_,rfl,.refl _⟩,⟨_,rfl,.refl _⟩,⟨_,rfl,(acK (RL.lstV (enc:=kT) [(((([(((0:Int),(4:Int),(0:Int),(0:Int),(0:Int),(bW),[]):Y51),(((0:Int),(3:Int),(0:Int),(0:Int),(0:Int),(cC),[]):Y51)]).getD 0 aH).1,(([(((0:Int),(4:Int),(0:Int),(0:Int),(0:Int),(bW),[]):Y51),(((0:Int),(3:Int),(0:Int),(0:Int),(0:Int),(cC),[]):Y51)]).getD 0 aH).2.1,(([(((0:Int),(4:Int),(0:Int),(0:Int),(0:Int),(bW),[]):Y51),(((0:Int),(3:Int),(0:Int),(0:Int),(0:Int),(cC),[]):Y51)]).getD 0 aH).2.2.1,(([(((0:Int),(4:Int),(0:Int),(0:Int),(0:Int),(bW),[]):Y51),(((0:Int),(3:Int),(0:Int),(0:Int),(0:Int),(cC),[]):Y51)]).getD 0 aH).2.2.2.1,(([(((0:Int),(4:Int),(0:Int),(0:Int),(0:Int),(bW),[]):Y51),(((0:Int),(3:Int),(0:Int),(0:Int),(0:Int),(cC),[]):Y51)]).getD 0 aH).2.2.2.2.1,(([(((0:Int),(4:Int),(0:Int),(0:Int),(0:Int),(bW),[]):Y51),(((0:Int),(3:Int),(0:Int),(0:Int),(0:Int),(cC),[]):Y51)]).getD 0 aH).2.2.2.2.2.1,(([(((0:Int),(4:Int),(0:Int),(0:Int),(0:Int),(bW),[]):Y51),(((0:Int),(3:Int),(0:Int),(0:Int),(0:Int),(cC),[]):Y51)]).getD 0 aH).2.2.2.2.2.2):Y51),(((0:Int),(3:Int),(0:Int),(0:Int),(0:Int),(bW),[]):Y51)] rfl ⟨.refl _,.refl _,.refl _,.refl _,.refl _,.refl _,.refl _,.refl _,.refl _,.refl _,.refl _,.refl _,.refl _,.refl _,.refl _,.refl _,.refl _,.refl _,.refl _,.refl _,.refl _,.refl _,.refl _,.refl _,.refl _,.refl _,.refl _,.refl _,.refl _,.refl _,.refl _,.refl _,.refl _,.refl _,.refl _,VLe.opq rfl,VLe.opq rfl,VLe.opq rfl,VLe.opq rfl,VLe.opq rfl,VLe.opq rfl,VLe.opq rfl,VLe.opq rfl,VLe.opq rfl,VLe.opq rfl,VLe.opq rfl,VLe.opq rfl,VLe.opq rfl,VLe.opq rfl,VLe.opq rfl,VLe.opq rfl,VLe.opq rfl,VLe.opq rfl,VLe.opq rfl,VLe.opq rfl,VLe.opq rfl,trivial⟩ (fun _=>rfl)))⟩,trivial⟩) ?_);refine aaE ?_;obtain⟨r3,hr3,h⟩:=bind_ok h;refine bG [] [(2,⟨[.agg [eC [],yB [],.b16 (iD 0),vL 6 eT73 (default:aaA×Int×BitVec 16×aaB×aaB×(xA)) [],oU [],vL 3 fZ (default:aaA×Bool×(xA)) []],aQ [(((([(((0:Int),(4:Int),(0:Int),(0:Int),(0:Int),(bW),[]):Y51),(((0:Int),(3:Int),(0:Int),(0:Int),(0:Int),(cC),[]):Y51)]).getD 0 aH).1,(([(((0:Int),(4:Int),(0:Int),(0:Int),(0:Int),(bW),[]):Y51),(((0:Int),(3:Int),(0:Int),(0:Int),(0:Int),(cC),[]):Y51)]).getD 0 aH).2.1,(([(((0:Int),(4:Int),(0:Int),(0:Int),(0:Int),(bW),[]):Y51),(((0:Int),(3:Int),(0:Int),(0:Int),(0:Int),(cC),[]):Y51)]).getD 0 aH).2.2.1,(([(((0:Int),(4:Int),(0:Int),(0:Int),(0:Int),(bW),[]):Y51),(((0:Int),(3:Int),(0:Int),(0:Int),(0:Int),(cC),[]):Y51)]).getD 0 aH).2.2.2.1,(([(((0:Int),(4:Int),(0:Int),(0:Int),(0:Int),(bW),[]):Y51),(((0:Int),(3:Int),(0:Int),(0:Int),(0:Int),(cC),[]):Y51)]).getD 0 aH).2.2.2.2.1,(([(((0:Int),(4:Int),(0:Int),(0:Int),(0:Int),(bW),[]):Y51),(((0:Int),(3:Int),(0:Int),(0:Int),(0:Int),(cC),[]):Y51)]).getD 0 aH).2.2.2.2.2.1,(([(((0:Int),(4:Int),(0:Int),(0:Int),(0:Int),(bW),[]):Y51),(((0:Int),(3:Int),(0:Int),(0:Int),(0:Int),(cC),[]):Y51)]).getD 0 aH).2.2.2.2.2.2):Y51),(((0:Int),(3:Int),(0:Int),(0:Int),(0:Int),(bW),[]):Y51)]],[],[],[],.tup [.i r3.1,.i r3.2.1,.i r3.2.2],[],[38],[1,2,3]⟩)] [1,3,4,5,6,7,8,11,1000001,1000002,1000003] [1,3,38] (an1 (cpL (c:=true) [(38,aU [(((([(((0:Int),(4:Int),(0:Int),(0:Int),(0:Int),(bW),[]):Y51),(((0:Int),(3:Int),(0:Int),(0:Int),(0:Int),(cC),[]):Y51)]).getD 0 aH).1,(([(((0:Int),(4:Int),(0:Int),(0:Int),(0:Int),(bW),[]):Y51),(((0:Int),(3:Int),(0:Int),(0:Int),(0:Int),(cC),[]):Y51)]).getD 0 aH).2.1,(([(((0:Int),(4:Int),(0:Int),(0:Int),(0:Int),(bW),[]):Y51),(((0:Int),(3:Int),(0:Int),(0:Int),(0:Int),(cC),[]):Y51)]).getD 0 aH).2.2.1,(([(((0:Int),(4:Int),(0:Int),(0:Int),(0:Int),(bW),[]):Y51),(((0:Int),(3:Int),(0:Int),(0:Int),(0:Int),(cC),[]):Y51)]).getD 0 aH).2.2.2.1,(([(((0:Int),(4:Int),(0:Int),(0:Int),(0:Int),(bW),[]):Y51),(((0:Int),(3:Int),(0:Int),(0:Int),(0:Int),(cC),[]):Y51)]).getD 0 aH).2.2.2.2.1,(([(((0:Int),(4:Int),(0:Int),(0:Int),(0:Int),(bW),[]):Y51),(((0:Int),(3:Int),(0:Int),(0:Int),(0:Int),(cC),[]):Y51)]).getD 0 aH).2.2.2.2.2.1,(([(((0:Int),(4:Int),(0:Int),(0:Int),(0:Int),(bW),[]):Y51),(((0:Int),(3:Int),(0:Int),(0:Int),(0:Int),(cC),[]):Y51)]).getD 0 aH).2.2.2.2.2.2):Y51),(((0:Int),(3:Int),(0:Int),(0:Int),(0:Int),(bW),[]):Y51)])] [38] [.agg [.nils,.nils,.b16 (iD 0),.nils,.nils,.nils],.own 38] (fun _=>(wU _ _ _ _ _ _ _ _ hr3)) (fun _=>⟨(.aggs ⟨.nilL,.nilL,.refl _,.nilL,.nilL,.nilL,trivial⟩),.refl _,trivial⟩) (.inr ⟨rfl,trivial⟩))) ?_;refine tN (aaE ?_);obtain⟨r4,hr4,h⟩:=bind_ok h;refine bG [] [(3,⟨[.agg [eC [],yB [],.b16 (iD 0),vL 6 eT73 (default:aaA×Int×BitVec 16×aaB×aaB×(xA)) [],oU [],vL 3 fZ (default:aaA×Bool×(xA)) []],aQ [(((0:Int),(2:Int),(0:Int),(0:Int),(1:Int),[],([111,107,32,49]:aaA)):Y51)]],[],[],[],.tup [.i r4.1,.i r4.2.1,.i r4.2.2],[],[49],[1,2,3]⟩)] [1,3,4,5,6,7,8,11,13,14,1000001,1000002,1000003] [1,3,38] (an1 (cpL (c:=true) [(49,.rows 51 28 1 (dN 28 [.i (0:Int),.i (2:Int),.i (0:Int),.i (0:Int),.i (1:Int),.str [],.str ([111,107,32,49]:aaA),.i (0:Int),.i (0:Int),.i (0:Int),.i (0:Int),.i (0:Int),.str [],.i (0:Int),.i (0:Int),.i (0:Int),.i (0:Int),.i (0:Int),.str [],.str [],.nils,.nils,.i (0:Int),.str [],.nils,.nils,.nils,.nils]))] [49] [.agg [.nils,.nils,.b16 (iD 0),.nils,.nils,.nils],.own 49] (fun _=>(wU _ _ _ _ _ _ _ _ hr4)) (fun _=>⟨(.aggs ⟨.nilL,.nilL,.refl _,.nilL,.nilL,.nilL,trivial⟩),(VLe.of (RL.lstV (enc:=kT) [(((0:Int),(2:Int),(0:Int),(0:Int),(1:Int),[],([111,107,32,49]:aaA)):Y51)] rfl ⟨.refl _,.refl _,.refl _,.refl _,.refl _,.refl _,.refl _,VLe.opq rfl,VLe.opq rfl,VLe.opq rfl,VLe.opq rfl,VLe.opq rfl,VLe.opq rfl,VLe.opq rfl,VLe.opq rfl,VLe.opq rfl,VLe.opq rfl,VLe.opq rfl,VLe.opq rfl,VLe.opq rfl,VLe.opq rfl,VLe.opq rfl,VLe.opq rfl,VLe.opq rfl,VLe.opq rfl,VLe.opq rfl,VLe.opq rfl,VLe.opq rfl,trivial⟩ (fun _=>rfl))),trivial⟩) (.inr ⟨rfl,trivial⟩))) ?_;refine tN (aaE ?_);obtain⟨r5,hr5,h⟩:=bind_ok h;refine bH [] [(3,⟨[.agg [eC [],yB [],.b16 (iD 0),vL 6 eT73 (default:aaA×Int×BitVec 16×aaB×aaB×(xA)) [],oU [],vL 3 fZ (default:aaA×Bool×(xA)) []],aQ [(((0:Int),(3:Int),(0:Int),(1:Int),(0:Int),(bW),[]):Y51)]],[],[],[],.tup [.i r5.1,.i r5.2.1,.i r5.2.2],[],[57],[1,2,3]⟩)] ⟨107,[(3,.ptr 3 0),(4,.i r1.2.2.2),(5,.i r2.1),(6,.i r2.2.1),(7,.i r2.2.2),(8,.own 38),(11,.i r3.2.2),(13,.i r4.2.1),(14,.i r4.2.2),(16,.i r5.2.1),(17,.i r5.2.2),(1000001,pT),(1000002,bV),(1000003,bV)],[(3,.cells 60 (f11z7 r1)),(38,aU [(((([(((0:Int),(4:Int),(0:Int),(0:Int),(0:Int),(bW),[]):Y51),(((0:Int),(3:Int),(0:Int),(0:Int),(0:Int),(cC),[]):Y51)]).getD 0 aH).1,(([(((0:Int),(4:Int),(0:Int),(0:Int),(0:Int),(bW),[]):Y51),(((0:Int),(3:Int),(0:Int),(0:Int),(0:Int),(cC),[]):Y51)]).getD 0 aH).2.1,(([(((0:Int),(4:Int),(0:Int),(0:Int),(0:Int),(bW),[]):Y51),(((0:Int),(3:Int),(0:Int),(0:Int),(0:Int),(cC),[]):Y51)]).getD 0 aH).2.2.1,(([(((0:Int),(4:Int),(0:Int),(0:Int),(0:Int),(bW),[]):Y51),(((0:Int),(3:Int),(0:Int),(0:Int),(0:Int),(cC),[]):Y51)]).getD 0 aH).2.2.2.1,(([(((0:Int),(4:Int),(0:Int),(0:Int),(0:Int),(bW),[]):Y51),(((0:Int),(3:Int),(0:Int),(0:Int),(0:Int),(cC),[]):Y51)]).getD 0 aH).2.2.2.2.1,(([(((0:Int),(4:Int),(0:Int),(0:Int),(0:Int),(bW),[]):Y51),(((0:Int),(3:Int),(0:Int),(0:Int),(0:Int),(cC),[]):Y51)]).getD 0 aH).2.2.2.2.2.1,(([(((0:Int),(4:Int),(0:Int),(0:Int),(0:Int),(bW),[]):Y51),(((0:Int),(3:Int),(0:Int),(0:Int),(0:Int),(cC),[]):Y51)]).getD 0 aH).2.2.2.2.2.2):Y51),(((0:Int),(3:Int),(0:Int),(0:Int),(0:Int),(bW),[]):Y51)])],[],0⟩ (an1 (cpL (c:=true) [(57,.rows 51 28 1 (dN 28 [.i (0:Int),.i (3:Int),.i (0:Int),.i (1:Int),.i (0:Int),.str (bW),.str [],.i (0:Int),.i (0:Int),.i (0:Int),.i (0:Int),.i (0:Int),.str [],.i (0:Int),.i (0:Int),.i (0:Int),.i (0:Int),.i (0:Int),.str [],.str [],.nils,.nils,.i (0:Int),.str [],.nils,.nils,.nils,.nils]))] [57] [.agg [.nils,.nils,.b16 (iD 0),.nils,.nils,.nils],.own 57] (fun _=>(wU _ _ _ _ _ _ _ _ hr5)) (fun _=>⟨(.aggs ⟨.nilL,.nilL,.refl _,.nilL,.nilL,.nilL,trivial⟩),(VLe.of (RL.lstV (enc:=kT) [(((0:Int),(3:Int),(0:Int),(1:Int),(0:Int),(bW),[]):Y51)] rfl ⟨.refl _,.refl _,.refl _,.refl _,.refl _,.refl _,.refl _,VLe.opq rfl,VLe.opq rfl,VLe.opq rfl,VLe.opq rfl,VLe.opq rfl,VLe.opq rfl,VLe.opq rfl,VLe.opq rfl,VLe.opq rfl,VLe.opq rfl,VLe.opq rfl,VLe.opq rfl,VLe.opq rfl,VLe.opq rfl,VLe.opq rfl,VLe.opq rfl,VLe.opq rfl,VLe.opq rfl,VLe.opq rfl,VLe.opq rfl,VLe.opq rfl,trivial⟩ (fun _=>rfl))),trivial⟩) (.inr ⟨rfl,trivial⟩))) ?_;refine tN (aaE ?_);by_cases hg9_39:((((((((((r1.2.2.2==(0:Int))&&((r1.1==(0:Int))&&((r1.2.1==(0:Int))&&((r1.2.2.1==(12:Int))&&true))))&&(r2.2.2==(0:Int)))&&(r2.1==(1:Int)))&&(r2.2.1==(1:Int)))&&(r3.2.2==(13:Int)))&&(r4.2.2==(0:Int)))&&(r4.2.1==(3:Int)))&&(r5.2.2==(0:Int)))&&(r5.2.1==(2:Int)))=true
 ·replace h:=vA hg9_39 h;obtain⟨r6,hr6,h⟩:=bind_ok h;obtain⟨r7,hr7,h⟩:=bind_ok h;have ob2:=idA ((aBR r1)=true);have ob3:=idA ((aBR r1)=true);have ob4:true=true->(r1.2.2.2==(0:Int))=true->(aBR r1)=true:=fun _ h=>beq_iff_eq.2 h;have ob5:=idA (((zM r1)==true)=true);have ob6:=bqA (zM r1) true;have ob7:=idA ((aAY r1 r2)=true);have ob8:true=true->((zM r1)&&(r2.2.2==(0:Int)))=true->(aAY r1 r2)=true:=fun _ h=>beq_iff_eq.2 h;have ob9:=idA (((aBS r1 r2)==true)=true);have ob10:=bqA (aBS r1 r2) true;have ob11:=idA (((zL r1 r2)==true)=true);have ob12:=bqA (zL r1 r2) true;have ob13:=idA ((aAX r1 r2 r3)=true);have ob14:true=true->((zL r1 r2)&&(r3.2.2==(13:Int)))=true->(aAX r1 r2 r3)=true:=fun _ h=>beq_iff_eq.2 h;have ob15:=idA (((f11z1 r1 r2 r3 r4)==true)=true);have ob16:=bqA (f11z1 r1 r2 r3 r4) true;have ob17:=idA (((qT r1 r2 r3 r4)==true)=true);have ob18:=bqA (qT r1 r2 r3 r4) true;have ob19:=idA ((((qT r1 r2 r3 r4)&&(r5.2.2==(0:Int)))==true)=true);have ob20:=bqA ((qT r1 r2 r3 r4)&&(r5.2.2==(0:Int))) true;have ob21:=idA (true=true);have ob22:true=true->true=true->true=true:=fun _ h=>h;refine bG [] [(39,⟨[],[],[],[],(.bool true),[],[0],[]⟩),(41,⟨[aQ [(((([(((0:Int),(4:Int),(0:Int),(0:Int),(0:Int),(bW),[]):Y51),(((0:Int),(3:Int),(0:Int),(0:Int),(0:Int),(cC),[]):Y51)]).getD 0 aH).1,(([(((0:Int),(4:Int),(0:Int),(0:Int),(0:Int),(bW),[]):Y51),(((0:Int),(3:Int),(0:Int),(0:Int),(0:Int),(cC),[]):Y51)]).getD 0 aH).2.1,(([(((0:Int),(4:Int),(0:Int),(0:Int),(0:Int),(bW),[]):Y51),(((0:Int),(3:Int),(0:Int),(0:Int),(0:Int),(cC),[]):Y51)]).getD 0 aH).2.2.1,(([(((0:Int),(4:Int),(0:Int),(0:Int),(0:Int),(bW),[]):Y51),(((0:Int),(3:Int),(0:Int),(0:Int),(0:Int),(cC),[]):Y51)]).getD 0 aH).2.2.2.1,(([(((0:Int),(4:Int),(0:Int),(0:Int),(0:Int),(bW),[]):Y51),(((0:Int),(3:Int),(0:Int),(0:Int),(0:Int),(cC),[]):Y51)]).getD 0 aH).2.2.2.2.1,(([(((0:Int),(4:Int),(0:Int),(0:Int),(0:Int),(bW),[]):Y51),(((0:Int),(3:Int),(0:Int),(0:Int),(0:Int),(cC),[]):Y51)]).getD 0 aH).2.2.2.2.2.1,(([(((0:Int),(4:Int),(0:Int),(0:Int),(0:Int),(bW),[]):Y51),(((0:Int),(3:Int),(0:Int),(0:Int),(0:Int),(cC),[]):Y51)]).getD 0 aH).2.2.2.2.2.2):Y51),(((0:Int),(3:Int),(0:Int),(0:Int),(0:Int),(bW),[]):Y51)]],[],[],[(6001,aK r6)],.own 6001,[6001],[38],[]⟩),(43,⟨[eC r6,eC [(bW)]],[],[],[],.bool r7,[],[6001,104],[]⟩)] [0] [] (ac6 (an2 ob2 ob3) ob4 (an1 ob5) ob6 (an1 ob7) ob8 (ac6 (an1 ob9) ob10 (an1 ob11) ob12 (an1 ob13) ob14 (ac6 (an1 ob15) ob16 (an1 ob17) ob18 (an1 ob19) ob20 (an4 (show((.bool (((qT r1 r2 r3 r4)&&(r5.2.2==(0:Int)))&&(r5.2.1==(2:Int)))):V)=(.bool true)from(congrArg (fun x=>((.bool x):V)) hg9_39)) (aaM (cpL (c:=true) [(38,aU [(((([(((0:Int),(4:Int),(0:Int),(0:Int),(0:Int),(bW),[]):Y51),(((0:Int),(3:Int),(0:Int),(0:Int),(0:Int),(cC),[]):Y51)]).getD 0 aH).1,(([(((0:Int),(4:Int),(0:Int),(0:Int),(0:Int),(bW),[]):Y51),(((0:Int),(3:Int),(0:Int),(0:Int),(0:Int),(cC),[]):Y51)]).getD 0 aH).2.1,(([(((0:Int),(4:Int),(0:Int),(0:Int),(0:Int),(bW),[]):Y51),(((0:Int),(3:Int),(0:Int),(0:Int),(0:Int),(cC),[]):Y51)]).getD 0 aH).2.2.1,(([(((0:Int),(4:Int),(0:Int),(0:Int),(0:Int),(bW),[]):Y51),(((0:Int),(3:Int),(0:Int),(0:Int),(0:Int),(cC),[]):Y51)]).getD 0 aH).2.2.2.1,(([(((0:Int),(4:Int),(0:Int),(0:Int),(0:Int),(bW),[]):Y51),(((0:Int),(3:Int),(0:Int),(0:Int),(0:Int),(cC),[]):Y51)]).getD 0 aH).2.2.2.2.1,(([(((0:Int),(4:Int),(0:Int),(0:Int),(0:Int),(bW),[]):Y51),(((0:Int),(3:Int),(0:Int),(0:Int),(0:Int),(cC),[]):Y51)]).getD 0 aH).2.2.2.2.2.1,(([(((0:Int),(4:Int),(0:Int),(0:Int),(0:Int),(bW),[]):Y51),(((0:Int),(3:Int),(0:Int),(0:Int),(0:Int),(cC),[]):Y51)]).getD 0 aH).2.2.2.2.2.2):Y51),(((0:Int),(3:Int),(0:Int),(0:Int),(0:Int),(bW),[]):Y51)])] [38] [.own 38] (fun _=>(aE.ren (aT 3000 6001) (aD 3000 6001) rfl (f14_ok _ _ hr6))) (fun _=>⟨.refl _,trivial⟩) (.inr ⟨rfl,⟨(fun _ _ _ _=>eS_flat _ _),trivial⟩⟩)) (an1 ob21)) (cpL (c:=true) [(6001,aK r6),(104,.rows 9 1 1 (dN 1 [.str (bW)]))] [6001,104] [.own 6001,.own 104] (fun _=>(f15_ok _ _ _ hr7)) (fun _=>⟨.refl _,(VLe.of (acV (enc:=eS) [(bW)] rfl rfl (fun _=>rfl))),trivial⟩) (.inr ⟨rfl,trivial⟩)) ob22)))) ?_;refine tN ?_;obtain rfl:=aaD h;refine aaG ?_;exact bK
 ·replace h:=vB hg9_39 h;have ob2:=idA ((aBR r1)=true);have ob3:=idA ((aBR r1)=true);have ob4:true=true->(r1.2.2.2==(0:Int))=true->(aBR r1)=true:=fun _ h=>beq_iff_eq.2 h;have ob5:=idA (((zM r1)==true)=true);have ob6:=bqA (zM r1) true;have ob7:=idA ((aAY r1 r2)=true);have ob8:true=true->((zM r1)&&(r2.2.2==(0:Int)))=true->(aAY r1 r2)=true:=fun _ h=>beq_iff_eq.2 h;have ob9:=idA (((aBS r1 r2)==true)=true);have ob10:=bqA (aBS r1 r2) true;have ob11:=idA (((zL r1 r2)==true)=true);have ob12:=bqA (zL r1 r2) true;have ob13:=idA ((aAX r1 r2 r3)=true);have ob14:true=true->((zL r1 r2)&&(r3.2.2==(13:Int)))=true->(aAX r1 r2 r3)=true:=fun _ h=>beq_iff_eq.2 h;have ob15:=idA (((f11z1 r1 r2 r3 r4)==true)=true);have ob16:=bqA (f11z1 r1 r2 r3 r4) true;have ob17:=idA (((qT r1 r2 r3 r4)==true)=true);have ob18:=bqA (qT r1 r2 r3 r4) true;have ob19:=idA ((((qT r1 r2 r3 r4)&&(r5.2.2==(0:Int)))==true)=true);have ob20:=bqA ((qT r1 r2 r3 r4)&&(r5.2.2==(0:Int))) true;have ob21:=idA (false=true);have ob22:=idA (false=true);have ob24:true=true->false=true->false=true:=fun _ h=>h;refine bH [] [(39,⟨[],[],[],[],(.bool false),[],[0],[]⟩),(41,⟨[],[],[],[],.any,[],[],[]⟩),(43,⟨[],[],[],[],.bool false,[],[],[]⟩)] ⟨107,[(0,.bool false)],[],[],0⟩ (ac6 (an2 ob2 ob3) ob4 (an1 ob5) ob6 (an1 ob7) ob8 (ac6 (an1 ob9) ob10 (an1 ob11) ob12 (an1 ob13) ob14 (ac6 (an1 ob15) ob16 (an1 ob17) ob18 (an1 ob19) ob20 (an4 (show((.bool (((qT r1 r2 r3 r4)&&(r5.2.2==(0:Int)))&&(r5.2.1==(2:Int)))):V)=(.bool false)from(congrArg (fun x=>((.bool x):V)) (aeG.2 hg9_39))) (aaM (show(qF Tryz.prog false 14 [] [] [] [] [] [.own 38] [] (.any) [])from⟨nofun,nofun,.inl rfl⟩) (an1 ob21)) (aaM (show(qF Tryz.prog false 15 [] [] [] [] [] [.any,.bool false] [] (.bool false) [])from⟨nofun,nofun,.inl rfl⟩) (an2 ob22 (idA (false=true)))) ob24)))) ?_;refine tN ?_;obtain rfl:=aaD h;refine aaG ?_;exact bK
abbrev f36z0 :=([cs11,cs12,cs8,cs13]:List Ty1)
def f36 (x1:Int):Option Ty1:=
 chk (0<=x1/\1<=(4:Int))<|
 chk (0<=(x1%(4:Int))/\(x1%(4:Int))<(4:Int))<|
 chk ((((x1%(4:Int))).toNat)<4)<|
 some (([cs11,cs12,cs8,cs13]:List Ty1).getD (((x1%(4:Int))).toNat) [])
theorem f36_ok (x1:Int) (r:aaA) (h:f36 x1=some r):aE Tryz.prog 36 [] [] [] [.i x1] (.str r) []:=by
 unfold f36 at h;refine aE.body 0 _ _ Tryz.func36 rfl Tryz.ntmps36 rfl rfl ?_;refine aN [] [] [0] [] trivial ?_;refine aaE ?_;obtain⟨ob0,ob1,ob2,h⟩:=ck3 h;refine bH [] [(4,⟨[],[],[],[],.str ((f36z0).getD (((x1%(4:Int))).toNat) []),[],[0],[]⟩)] ⟨8,[(2,.str ((f36z0).getD (((x1%(4:Int))).toNat) []))],[],[],0⟩ (an3 ob0 ob1 (aaM ob2 (show((dN 1 [.str cs11,.str cs12,.str cs8,.str cs13]) (((x1%(4:Int))).toNat) 0:V)= .str ((f36z0).getD (((x1%(4:Int))).toNat) [])from(lst_at eS [] 1 (f36z0) (fun _=>rfl) (show(((x1%(4:Int))).toNat)<4 from by assumption) (j:=0) (by decide))))) ?_;refine tN ?_;obtain rfl:=aaD h;refine aaG ?_;exact bK
abbrev f112z0 :List (Nat×V):=[(4,.i (0:Int)),(5,.i (0:Int))]
def aB4 (x1:aaA) (x2:Int):Option Tq1:=
 if(x1==[])then(
 some ((0:Int),(0:Int))
 )else(
 chk ((0:Int)<((x1.length:Nat):Int))<|
 chk ((((x1.getD 0 0).toNat:Nat):Int)<=9223372036854775807)<|
 jn (fun((i3,n4):Int×Nat)=>
 if(decide (i3>x2))then(
 some ((0:Int),(0:Int))
 )else(
 some (i3,(n4:Int))
 )
 ) fun(K1:(Int×Nat)->Option Tq1)=>
 if(decide ((((x1.getD 0 0).toNat:Nat):Int)>=(128:Int)))then(
 chk (((decide (((x1.length:Nat):Int)<(2:Int)))==false)=true->0<=(1:Int)/\(1:Int)<((x1.length:Nat):Int))<|
 chk ((((decide (((x1.length:Nat):Int)<(2:Int)))||((((x1.getD 1 0).toNat:Nat):Int)==(0:Int)))==false)=true->0<=(1:Int)/\(1:Int)<((x1.length:Nat):Int))<|
 if(((decide (((x1.length:Nat):Int)<(2:Int)))||((((x1.getD 1 0).toNat:Nat):Int)==(0:Int)))||(decide ((((x1.getD 1 0).toNat:Nat):Int)>=(128:Int))))then(
 some ((0:Int),(0:Int))
 )else(
 chk (-9223372036854775808<=((((x1.getD 0 0).toNat:Nat):Int)-(128:Int))/\((((x1.getD 0 0).toNat:Nat):Int)-(128:Int))<=9223372036854775807)<|
 chk ((1:Int)<((x1.length:Nat):Int))<|
 chk ((((x1.getD 1 0).toNat:Nat):Int)<=9223372036854775807)<|
 chk (-9223372036854775808<=((128:Int) *(((x1.getD 1 0).toNat:Nat):Int))/\((128:Int) *(((x1.getD 1 0).toNat:Nat):Int))<=9223372036854775807)<|
 chk (-9223372036854775808<=(((((x1.getD 0 0).toNat:Nat):Int)-(128:Int))+(((128 *(x1.getD 1 0).toNat):Nat):Int))/\(((((x1.getD 0 0).toNat:Nat):Int)-(128:Int))+(((128 *(x1.getD 1 0).toNat):Nat):Int))<=9223372036854775807)<|
 K1 ((((((x1.getD 0 0).toNat:Nat):Int)-(128:Int))+(((128 *(x1.getD 1 0).toNat):Nat):Int)),2)
 )
 )else(
 K1 ((((x1.getD 0 0).toNat:Nat):Int),1)
 )
 )
theorem f112_ok (x1:aaA) (x2:Int) (r:Tq1) (h:aB4 x1 x2=some r):aE Tryz.prog 112 [] [] [] [.str x1,.i x2] (.tup [.i r.1,.i r.2]) []:=by
 unfold aB4 at h;refine aE.body 0 _ _ Tryz.func112 rfl Tryz.ntmps112 rfl rfl ?_;refine aN [] [] [0,1] [] trivial ?_;refine aaE (aN [] [] [0,1,9] [] trivial ?_);refine cK (x1==[]) (fun hc1=> ?_) fun hc1=> ?_
 ·replace h:=aF hc1 h;refine bJ [] [] ⟨40,(f112z0),[],[],0⟩ trivial ?_;obtain rfl:=aaD h;refine aaG (tR ?_);exact bK
 ·replace h:=aG hc1 h;refine aaF (tN (aaE ?_));obtain⟨ob0p,h⟩:=aB h;have ob0:0<=(0:Int)/\(0:Int)<((x1.length:Nat):Int):=⟨by omega,ob0p⟩;obtain⟨ob1p,h⟩:=aB h;have ob1: -9223372036854775808<=(((x1.getD 0 0).toNat:Nat):Int)/\(((x1.getD 0 0).toNat:Nat):Int)<=9223372036854775807:=⟨by omega,ob1p⟩;refine bG [] [] [0,1,6,7] [] (an2 ob0 ob1) ?_;refine tN ?_;obtain⟨K1,hK1,h⟩:=aO h;refine aaU (fun(x:Int×Nat)=>match x with|(i3,n4)=>⟨40,[(1,.i x2),(6,.i i3),(7,.i (n4:Int))],[],[],0⟩) (fun x=>K1 x=some r) ?_ ?_
  ·refine bJ [] [] ⟨40,[(0,.str x1),(1,.i x2),(6,.i (((x1.getD 0 0).toNat:Nat):Int)),(7,.i (1:Int)),(14,.bool (decide ((((x1.getD 0 0).toNat:Nat):Int)>=(128:Int))))],[],[],0⟩ trivial ?_;refine cK (decide ((((x1.getD 0 0).toNat:Nat):Int)>=(128:Int))) (fun hc2=> ?_) fun hc2=> ?_
   ·replace h:=aF hc2 h;refine aaE (aaE ?_);obtain⟨ob2,h⟩:=aB h;obtain⟨ob6,h⟩:=aB h;refine bG [] [] [0,1,6,27] [] (an6 (aaM ob2 (an1 (idA (((decide ((lZ x1)<(2:Int)))==false)=true)))) (an1 (idA (((decide ((lZ x1)<(2:Int)))==false)=true))) (bqA (decide ((lZ x1)<(2:Int))) false) (aaM ob6 (an1 (idA ((((decide ((lZ x1)<(2:Int)))||((((x1.getD 1 0).toNat:Nat):Int)==(0:Int)))==false)=true)))) (an1 (idA ((((decide ((lZ x1)<(2:Int)))||((((x1.getD 1 0).toNat:Nat):Int)==(0:Int)))==false)=true))) (bqA ((decide ((lZ x1)<(2:Int)))||((((x1.getD 1 0).toNat:Nat):Int)==(0:Int))) false)) ?_;refine tN (cK (((decide ((lZ x1)<(2:Int)))||((((x1.getD 1 0).toNat:Nat):Int)==(0:Int)))||(decide ((((x1.getD 1 0).toNat:Nat):Int)>=(128:Int)))) (fun hc3=> ?_) fun hc3=> ?_)
    ·replace h:=aF hc3 h;refine bJ [] [] ⟨40,(f112z0),[],[],0⟩ trivial ?_;obtain rfl:=aaD h;refine aaG (tR (aS ?_));exact bK
    ·replace h:=aG hc3 h;refine aaF (tN ?_);obtain⟨ob10,ob11p,h⟩:=ck2 h;have ob11:0<=(1:Int)/\(1:Int)<((x1.length:Nat):Int):=⟨by omega,ob11p⟩;obtain⟨ob12p,h⟩:=aB h;have ob12: -9223372036854775808<=(((x1.getD 1 0).toNat:Nat):Int)/\(((x1.getD 1 0).toNat:Nat):Int)<=9223372036854775807:=⟨by omega,ob12p⟩;obtain⟨ob13,ob14,h⟩:=ck2 h;refine bG [] [] [1,6,7] [] (an5 ob10 ob11 ob12 ob13 ob14) ?_;exact jN ((((((x1.getD 0 0).toNat:Nat):Int)-(128:Int))+(((128 *(x1.getD 1 0).toNat):Nat):Int)),2) LR h
   ·replace h:=aG hc2 h;refine aaF ?_;exact jN ((((x1.getD 0 0).toNat:Nat):Int),1) LR h
  ·rintro⟨i3,n4⟩ h;replace h:=(congrFun hK1 _).symm.trans h;refine aaE (aN [] [] [6,7,37] [] trivial ?_);refine cK (decide (i3>x2)) (fun hc4=> ?_) fun hc4=> ?_
   ·replace h:=aF hc4 h;refine bJ [] [] ⟨40,(f112z0),[],[],0⟩ trivial ?_;obtain rfl:=aaD h;refine aaG (tR ?_);exact bK
   ·replace h:=aG hc4 h;refine aaF (tN (aN [] [] [4,5] [] trivial ?_));obtain rfl:=aaD h;refine aaG ?_;exact bK
def iW (x1:aaA) (r2:Tq1) (K1:(Int×List Ty1)->Option (Bool×List Ty1)):Nat->(Int×Nat×List Ty1)->Option (Bool×List Ty1)
 |0,_=>none
 |k+1,(i3,n4,l5)=>
  if(decide ((n4:Int)<r2.1))then(
  (aB4 (x1.drop ((i3).toNat)) (200:Int)).bind fun r6=>
  chk (0<=i3/\i3<=((x1.length:Nat):Int))<|
  chk (((r6.2==(0:Int))==false)=true-> -9223372036854775808<=(i3+r6.2)/\(i3+r6.2)<=9223372036854775807)<|
  chk (((r6.2==(0:Int))==false)=true-> -9223372036854775808<=((i3+r6.2)+r6.1)/\((i3+r6.2)+r6.1)<=9223372036854775807)<|
  if((r6.2==(0:Int))||(decide (((i3+r6.2)+r6.1)>((x1.length:Nat):Int))))then(
  some (false,[])
  )else(
  chk (-9223372036854775808<=(i3+r6.2)/\(i3+r6.2)<=9223372036854775807)<|
  chk (-9223372036854775808<=(i3+r6.2)/\(i3+r6.2)<=9223372036854775807)<|
  chk (-9223372036854775808<=((i3+r6.2)+r6.1)/\((i3+r6.2)+r6.1)<=9223372036854775807)<|
  chk (0<=(i3+r6.2)/\(i3+r6.2)<=((i3+r6.2)+r6.1)/\((i3+r6.2)+r6.1)<=((x1.length:Nat):Int))<|
  chk (((l5).length+1) *16<=140737488355328)<|
  chk (-9223372036854775808<=(i3+r6.2)/\(i3+r6.2)<=9223372036854775807)<|
  chk (-9223372036854775808<=((i3+r6.2)+r6.1)/\((i3+r6.2)+r6.1)<=9223372036854775807)<|
  chk (((n4:Int)+(1:Int))<=9223372036854775807)<|
  (iW x1 r2 K1 k) (((i3+r6.2)+r6.1),(n4+1),(l5++[((x1.take ((((i3+r6.2)+r6.1)).toNat)).drop (((i3+r6.2)).toNat))]))
  )
  )else(
  K1 (i3,l5)
  )
abbrev vW (r6:Tq1):=((r6.2==(0:Int))==false)
abbrev f81z1 (l5:List Ty1) (x1:aaA) (i3:Int) (r6:Tq1):aJ:=[(5006,bL 9 1 eS [] (l5++[((x1.take ((((i3+r6.2)+r6.1)).toNat)).drop (((i3+r6.2)).toNat))]))]
abbrev f81z2 (x1:aaA) (r2:Tq1) (i3:Int) (n4:Nat) (r6:Tq1):List (Nat×V):=[(0,.str x1),(4,.i r2.1),(5,.i i3),(6,.own 5006),(7,.i (n4:Int)),(8,.i r6.1),(9,.i r6.2)]
abbrev f81z3 :List (Nat×V):=[(2,.own 3000),(3,.bool false)]
def f81 (x1:aaA):Option (Bool×List Ty1):=
 (aB4 x1 (25:Int)).bind fun r2=>
 if(r2.2==(0:Int))then(
 some (false,[])
 )else(
 jn (fun((i7,l8):Int×List Ty1)=>
 some ((i7==((x1.length:Nat):Int)),l8)
 ) fun(K1:(Int×List Ty1)->Option (Bool×List Ty1))=>
 iW x1 r2 K1 bB (r2.2,0,[])
 )
theorem f81_ok (x1:aaA) (r:Bool×List Ty1) (h:f81 x1=some r):aE Tryz.prog 81 [] [] [] [.str x1] (.tup [.own 3000,.bool r.1]) [(3000,bL 9 1 eS [] r.2)]:=by
 unfold f81 at h;refine aE.body 0 _ _ Tryz.func81 rfl Tryz.ntmps81 rfl rfl ?_;refine aN [] [] [0] [] trivial ?_;refine aaE ?_;obtain⟨r2,hr2,h⟩:=bind_ok h;refine bG [] [(1,⟨[.str x1,.i (25:Int)],[],[],[],.tup [.i r2.1,.i r2.2],[],[],[]⟩)] [0,4,5] [] (an1 (cpT (f112_ok _ _ _ hr2))) ?_;refine tN (aaE (aN [] [] [0,4,5,16] [] trivial ?_));refine cK (r2.2==(0:Int)) (fun hc1=> ?_) fun hc1=> ?_
 ·replace h:=aF hc1 h;refine bJ [] [] ⟨64,[(2,.nils),(3,.bool false)],[],[],0⟩ trivial ?_;refine aaX (aaL (adM 2 3000 9 1 (cE eS [] []) rfl rfl (aaW rfl)) (LR (s':=⟨64,(f81z3),[(3000,aK [])],[],0⟩))) ?_;obtain rfl:=aaD h;refine aaX (LR (s':=⟨64,(f81z3),[(3000,aK [])],[],0⟩)) ?_;refine aaG (tR ?_);exact bK
 ·replace h:=aG hc1 h;refine aaF (tN (aN [] [] [0,4,5,6] [] trivial ?_));obtain⟨K1,hK1,h⟩:=aO h;refine aaU (fun(x:Int×List Ty1)=>match x with|(i7,l8)=>⟨64,[(0,.str x1),(5,.i i7),(6,.own 5006)],[(5006,aK l8)],[],0⟩) (fun x=>K1 x=some r) ?_ ?_
  ·refine bJ [] [] ⟨64,[(0,.str x1),(4,.i r2.1),(5,.i r2.2),(6,.nils),(7,.i (0:Int))],[],[],0⟩ trivial ?_;refine aaJ (abI (α:=Nat×(Int×Nat×List Ty1)) (fun x=>match x with|(_,i3,n4,l5)=>⟨64,[(0,.str x1),(4,.i r2.1),(5,.i i3),(6,.own 5006),(7,.i (n4:Int))],[(5006,aK l5)],[],0⟩) (fun x=>iW x1 r2 K1 x.1 x.2=some r) (fun x=>x.1) (bB,r2.2,0,[]) (aaL (aaL (adM 6 5006 9 1 (cE eS [] []) rfl rfl (aaW rfl)) (LR (s':=⟨64,[(0,.str x1),(4,.i r2.1),(5,.i r2.2),(6,.own 5006),(7,.i (0:Int))],[(5006,aK [])],[],0⟩))) LR) h ?_)
   rintro⟨k0,i3,n4,l5⟩ h
   cases k0 with
   |zero=>exact nEx h
   |succ k0=>
   obtain⟨C0,hC0⟩:∃C,C=iW x1 r2 K1 k0:=⟨_,rfl⟩;replace h:=(iW.eq_2 ..).symm.trans h
   try rw[<-hC0]at h
   refine aaE (aN [] [] [0,4,5,6,7,19] [5006] trivial ?_);refine cK (decide ((n4:Int)<r2.1)) (fun hc2=> ?_) fun hc2=> ?_
   ·replace h:=aF hc2 h;refine aaF (tN (aaE (aaJ (aaE ?_))));obtain⟨r6,hr6,h⟩:=bind_ok h;obtain⟨ob0,h⟩:=aB h;refine bG [] [(3,⟨[.str (x1.drop ((i3).toNat)),.i (200:Int)],[],[],[],.tup [.i r6.1,.i r6.2],[],[],[]⟩)] [0,4,5,6,7,8,9] [5006] (an2 ob0 (cpT (f112_ok _ _ _ hr6))) ?_;refine tN (aaE (aaE ?_));obtain⟨ob1,h⟩:=aB h;obtain⟨ob4,h⟩:=aB h;have ob10:true=true->(r6.2==(0:Int))=false->(vW r6)=true:=fun _ h=>beq_iff_eq.2 h;refine bG [] [] [0,4,5,6,7,8,9,40] [5006] (an5 (aaM ob1 (an2 (idA ((vW r6)=true)) (idA ((vW r6)=true)))) (aaM ob4 (an2 (idA ((vW r6)=true)) (idA ((vW r6)=true)))) (an1 (idA ((vW r6)=true))) (an2 (idA ((vW r6)=true)) (idA ((vW r6)=true))) ob10) ?_;refine tN (cK ((r6.2==(0:Int))||(decide (((i3+r6.2)+r6.1)>(lZ x1)))) (fun hc3=> ?_) fun hc3=> ?_)
    ·replace h:=aF hc3 h;refine bJ [] [] ⟨64,[(2,.nils),(3,.bool false)],[],[],0⟩ trivial ?_;refine aaX (aaL (adM 2 3000 9 1 (cE eS [] []) rfl rfl (aaW rfl)) (LR (s':=⟨64,(f81z3),[(3000,aK [])],[],0⟩))) ?_;obtain rfl:=aaD h;refine aaX (LR (s':=⟨64,(f81z3),[(3000,aK [])],[],0⟩)) ?_;refine aaG (tR (kR (tR (tR (kR (aS ?_))))));exact bK
    ·replace h:=aG hc3 h;refine aaF (tN (aaE ?_));obtain⟨ob11,ob12,ob13,ob14,ob15,h⟩:=ck5 h;refine bH [] [] ⟨64,(f81z2 x1 r2 i3 n4 r6),[(5006,.rows 9 1 ((l5).length+1) (gK (l5).length (cE eS [] l5) (dN 1 [.str ((x1.take ((((i3+r6.2)+r6.1)).toNat)).drop (((i3+r6.2)).toNat))])))],[],0⟩ (an5 ob11 ob12 ob13 ob14 ob15) ?_;refine tN (aaX (acZ (s':=⟨64,(f81z2 x1 r2 i3 n4 r6),(f81z1 l5 x1 i3 r6),[],0⟩) rfl rfl ⟨.refl _,.refl _,.refl _,.refl _,.refl _,.refl _,.refl _,trivial⟩ ⟨⟨_,rfl,(acK (adQ (acX _) (acV (enc:=eS) [((x1.take ((((i3+r6.2)+r6.1)).toNat)).drop (((i3+r6.2)).toNat))] rfl rfl (fun _=>rfl))))⟩,trivial⟩) ?_);obtain⟨ob16,ob17,h⟩:=ck2 h;refine bG [] [] [0,4,5,6,7] [5006] (an2 ob16 ob17) ?_;refine kN (tN ?_);obtain⟨ob18p,h⟩:=aB h;refine bH [] [] ⟨64,[(0,.str x1),(4,.i r2.1),(5,.i ((i3+r6.2)+r6.1)),(6,.own 5006),(7,.i (((n4+1):Nat):Int))],(f81z1 l5 x1 i3 r6),[],0⟩ (an1 (iP ob18p)) ?_;rw[hC0]at h;exact lN (_,((i3+r6.2)+r6.1),(n4+1),(l5++[((x1.take ((((i3+r6.2)+r6.1)).toNat)).drop (((i3+r6.2)).toNat))])) LR h (aaK _)
   ·replace h:=aG hc2 h;refine abK (tE (tE (kS ?_)));exact jN (i3,l5) LR h
  ·rintro⟨i7,l8⟩ h;replace h:=(congrFun hK1 _).symm.trans h;refine bJ [] [] ⟨64,[(2,.own 5006),(3,.bool (i7==(lZ x1)))],[(5006,aK l8)],[],0⟩ trivial ?_;refine aaX (aaL (acQ (aT 5006 3000) (aD 5006 3000) rfl) (LR (s':=⟨64,[(2,.own 3000),(3,.bool (i7==(lZ x1)))],[(3000,aK l8)],[],0⟩))) ?_;obtain rfl:=aaD h;refine aaX (LR (s':=⟨64,[(2,.own 3000),(3,.bool (i7==(lZ x1)))],[(3000,aK l8)],[],0⟩)) ?_;refine aaG ?_;exact bK
def f88 :Nat->Int->Option Ty1
 |0,_=>none
 |k+1,x1=>
  if(decide (x1<(10:Int)))then(
  chk (-9223372036854775808<=((48:Int)+x1)/\((48:Int)+x1)<=9223372036854775807)<|
  chk (0<=((48:Int)+x1)/\((48:Int)+x1)<=255)<|
  some [UInt8.ofNat ((((48:Int)+x1)).toNat)]
  )else(
  ((f88 k) (x1/(10:Int))).bind fun r2=>
  chk (0<=x1/\1<=(10:Int)/\ -9223372036854775808<=(x1/(10:Int))/\(x1/(10:Int))<=9223372036854775807)<|
  chk (0<=x1/\1<=(10:Int))<|
  chk (-9223372036854775808<=((48:Int)+(x1%(10:Int)))/\((48:Int)+(x1%(10:Int)))<=9223372036854775807)<|
  chk (0<=((48:Int)+(x1%(10:Int)))/\((48:Int)+(x1%(10:Int)))<=255)<|
  chk (r2.length+[UInt8.ofNat ((((48:Int)+(x1%(10:Int)))).toNat)].length<=9223372036854775807)<|
  some (r2++[UInt8.ofNat ((((48:Int)+(x1%(10:Int)))).toNat)])
  )
theorem aAx :∀(k:Nat) (x1:Int) (r:aaA),f88 k x1=some r->aE Tryz.prog 88 [] [] [] [.i x1] (.str r) []:=by
 intro k
 induction k with
 |zero=>intro x1 r h;exact nEx h
 |succ k ih=>
 intro x1 r h;obtain⟨Frec,hFrec⟩:∃C,C=f88 k:=⟨_,rfl⟩;rw[f88.eq_2]at h;rw[<-hFrec]at h ih;refine aE.body 0 _ _ Tryz.func88 rfl Tryz.ntmps88 rfl rfl ?_;refine aN [] [] [0] [] trivial ?_;refine aaE (aN [] [] [0,4] [] trivial ?_);refine cK (decide (x1<(10:Int))) (fun hc1=> ?_) fun hc1=> ?_
 ·replace h:=aF hc1 h;refine aaE ?_;obtain⟨ob0,ob1,h⟩:=ck2 h;have ob2:∀i,i<1->isByte ((dN 1 [.int .u8 ((48:Int)+x1)]) i 0):=fun i hi=>match i,hi with|0,_=>trivial
  refine bH [] [] ⟨20,[(2,.str [UInt8.ofNat ((((48:Int)+x1)).toNat)])],[],[],0⟩ (an3 ob0 ob1 ob2) ?_;refine tN ?_;obtain rfl:=aaD h;refine aaG (tR ?_);exact bK
 ·replace h:=aG hc1 h;refine aaF (tN (aaE ?_));obtain⟨r2,hr2,h⟩:=bind_ok h;obtain⟨ob3,ob4,ob5,ob6,h⟩:=ck4 h;have ob7:∀i,i<1->isByte ((dN 1 [.int .u8 ((48:Int)+(x1%(10:Int)))]) i 0):=fun i hi=>match i,hi with|0,_=>trivial
  obtain⟨ob8,h⟩:=aB h;refine bG [] [(2,⟨[.i (x1/(10:Int))],[],[],[],.str r2,[],[],[]⟩)] [2] [] (ac6 ob3 (cpT (ih _ _ hr2)) ob4 ob5 ob6 ob7 (an1 ob8)) ?_;refine tN ?_;obtain rfl:=aaD h;refine aaG ?_;exact bK
def fM (x1:aaA) (K1:Int->Option Int):Nat->(Int×Nat)->Option Int
 |0,_=>none
 |k+1,(i2,n3)=>
  if(decide ((n3:Int)<((x1.length:Nat):Int)))then(
  chk ((n3:Int)<((x1.length:Nat):Int))<|
  chk (((decide ((((x1.getD n3 0).toNat:Nat):Int)<(48:Int)))==false)=true->0<=(n3:Int)/\(n3:Int)<((x1.length:Nat):Int))<|
  if(((decide ((((x1.getD n3 0).toNat:Nat):Int)<(48:Int)))||(decide ((((x1.getD n3 0).toNat:Nat):Int)>(57:Int))))||(decide ((n3:Int)>(6:Int))))then(
  some (-1:Int)
  )else(
  chk (-9223372036854775808<=((10:Int) *i2)/\((10:Int) *i2)<=9223372036854775807)<|
  chk ((n3:Int)<((x1.length:Nat):Int))<|
  chk (0<=((((x1.getD n3 0).toNat:Nat):Int)-(48:Int))/\((((x1.getD n3 0).toNat:Nat):Int)-(48:Int))<=255)<|
  chk (-9223372036854775808<=((((x1.getD n3 0).toNat:Nat):Int)-(48:Int))/\((((x1.getD n3 0).toNat:Nat):Int)-(48:Int))<=9223372036854775807)<|
  chk (-9223372036854775808<=(((10:Int) *i2)+((((x1.getD n3 0).toNat:Nat):Int)-(48:Int)))/\(((10:Int) *i2)+((((x1.getD n3 0).toNat:Nat):Int)-(48:Int)))<=9223372036854775807)<|
  chk (((n3:Int)+(1:Int))<=9223372036854775807)<|
  (fM x1 K1 k) ((((10:Int) *i2)+((((x1.getD n3 0).toNat:Nat):Int)-(48:Int))),(n3+1))
  )
  )else(
  K1 i2
  )
def f82 (x1:aaA):Option Int:=
 jn (fun(i4:Int)=>
 gB ((x1==[])==false) (f88 bB i4) fun r5=>
 if((x1==[])||(!(r5==x1)))then(
 some (-1:Int)
 )else(
 some i4
 )
 ) fun(K1:Int->Option Int)=>
 fM x1 K1 bB ((0:Int),0)
theorem f82_ok (x1:aaA) (r:Int) (h:f82 x1=some r):aE Tryz.prog 82 [] [] [] [.str x1] (.i r) []:=by
 unfold f82 at h;refine aE.body 0 _ _ Tryz.func82 rfl Tryz.ntmps82 rfl rfl ?_;refine aN [] [] [0] [] trivial ?_;refine bJ [] [] ⟨42,[(0,.str x1),(3,.i (0:Int))],[],[],0⟩ trivial ?_;obtain⟨K1,hK1,h⟩:=aO h;refine aaU (α:=Int) (fun(i4:Int)=>⟨42,[(0,.str x1),(3,.i i4)],[],[],0⟩) (fun x=>K1 x=some r) ?_ ?_
 ·refine aN [] [] [0,3,4] [] trivial ?_;refine aaJ (abI (α:=Nat×(Int×Nat)) (fun x=>match x with|(_,i2,n3)=>⟨42,[(0,.str x1),(3,.i i2),(4,.i (n3:Int))],[],[],0⟩) (fun x=>fM x1 K1 x.1 x.2=some r) (fun x=>x.1) (bB,(0:Int),0) LR h ?_)
  rintro⟨k0,i2,n3⟩ h
  cases k0 with
  |zero=>exact nEx h
  |succ k0=>
  obtain⟨C0,hC0⟩:∃C,C=fM x1 K1 k0:=⟨_,rfl⟩;replace h:=(fM.eq_2 ..).symm.trans h
  try rw[<-hC0]at h
  refine aaE (aN [] [] [0,3,4,8] [] trivial ?_);refine cK (decide ((n3:Int)<(lZ x1))) (fun hc1=> ?_) fun hc1=> ?_
  ·replace h:=aF hc1 h;refine aaF (tN (aaE (aaJ (aaE (aaE ?_)))));obtain⟨ob0p,h⟩:=aB h;obtain⟨ob1,h⟩:=aB h;refine bG [] [] [0,3,4,24] [] (an6 (iN ob0p) (aaM ob1 (an2 (idA (((decide ((((x1.getD n3 0).toNat:Nat):Int)<(48:Int)))==false)=true)) (idA (((decide ((((x1.getD n3 0).toNat:Nat):Int)<(48:Int)))==false)=true)))) (an1 (idA (((decide ((((x1.getD n3 0).toNat:Nat):Int)<(48:Int)))==false)=true))) (bqA (decide ((((x1.getD n3 0).toNat:Nat):Int)<(48:Int))) false) (an1 (idA ((((decide ((((x1.getD n3 0).toNat:Nat):Int)<(48:Int)))||(decide ((((x1.getD n3 0).toNat:Nat):Int)>(57:Int))))==false)=true))) (bqA ((decide ((((x1.getD n3 0).toNat:Nat):Int)<(48:Int)))||(decide ((((x1.getD n3 0).toNat:Nat):Int)>(57:Int)))) false)) ?_;refine tN (cK (((decide ((((x1.getD n3 0).toNat:Nat):Int)<(48:Int)))||(decide ((((x1.getD n3 0).toNat:Nat):Int)>(57:Int))))||(decide ((n3:Int)>(6:Int)))) (fun hc2=> ?_) fun hc2=> ?_)
   ·replace h:=aF hc2 h;refine bJ [] [] ⟨42,[(2,.i (-1:Int))],[],[],0⟩ trivial ?_;obtain rfl:=aaD h;refine aaG (tR (kR (tR (tR (kR (aS ?_))))));exact bK
   ·replace h:=aG hc2 h;refine aaF (tN ?_);obtain⟨ob8,ob9p,h⟩:=ck2 h;obtain⟨ob10,ob11,ob12,h⟩:=ck3 h;refine bG [] [] [0,3,4] [] (an5 ob8 (iN ob9p) ob10 ob11 ob12) ?_;refine kN (tN ?_);obtain⟨ob13p,h⟩:=aB h;refine bH [] [] ⟨42,[(0,.str x1),(3,.i (((10:Int) *i2)+((((x1.getD n3 0).toNat:Nat):Int)-(48:Int)))),(4,.i (((n3+1):Nat):Int))],[],[],0⟩ (an1 (iP ob13p)) ?_;rw[hC0]at h;exact lN (_,(((10:Int) *i2)+((((x1.getD n3 0).toNat:Nat):Int)-(48:Int))),(n3+1)) LR h (aaK _)
  ·replace h:=aG hc1 h;refine abK (tE (tE (kS ?_)));exact jN (i2) LR h
 ·rintro i4 h;replace h:=(congrFun hK1 _).symm.trans h;refine aaE (aaE ?_);obtain⟨r5,hr5,h⟩:=cF h;refine bG [] [(4,⟨[.i i4],[],[],[],.str r5,[],[],[]⟩)] [3,40] [] (an3 (aaM (cpC fun hc=>(aAx bB _ _ (hr5 hc))) (an1 (idA (((x1==[])==false)=true)))) (an2 (idA (((x1==[])==false)=true)) (idA (((x1==[])==false)=true))) (bqA (x1==[]) false)) ?_;refine tN (cK ((x1==[])||(!(r5==x1))) (fun hc3=> ?_) fun hc3=> ?_)
  ·replace h:=aF hc3 h;refine bJ [] [] ⟨42,[(2,.i (-1:Int))],[],[],0⟩ trivial ?_;obtain rfl:=aaD h;refine aaG (tR ?_);exact bK
  ·replace h:=aG hc3 h;refine aaF (tN (aN [] [] [2] [] trivial ?_));obtain rfl:=aaD h;refine aaG ?_;exact bK
abbrev aA0 (x1:Int):=((decide (x1<(0:Int)))||(decide (x1>=(6:Int))))
abbrev aAZ (x1 x2:Int):=((aA0 x1)||(decide (x2<(1:Int))))
abbrev f119z2 (x1:Int):=((decide (x1<(0:Int)))==false)
def f119 (x1 x2:Int) (x3:aaA):Option Int:=
 if((((decide (x1<(0:Int)))||(decide (x1>=(6:Int))))||(decide (x2<(1:Int))))||(decide (x2>(1000000:Int))))then(
 some (7:Int)
 )else(
 if(x3==[])then(
 some (9:Int)
 )else(
 if(decide (((x3.length:Nat):Int)>(200:Int)))then(
 some (3:Int)
 )else(
 some (0:Int)
 )
 )
 )
theorem f119_ok (x1 x2:Int) (x3:aaA) (r:Int) (h:f119 x1 x2 x3=some r):aE Tryz.prog 119 [] [] [] [.agg [.i x1,.i x2,.str x3]] (.i r) []:=by
 unfold f119 at h;refine aE.body 0 _ _ Tryz.func119 rfl Tryz.ntmps119 rfl rfl ?_;refine aN [] [] [1] [1] trivial ?_;refine aaE (aaE ?_);have ob2:true=true->(decide (x1<(0:Int)))=false->(f119z2 x1)=true:=fun _ h=>beq_iff_eq.2 h;refine bG [] [] [1,20] [1] (ac6 (an1 (idA ((f119z2 x1)=true))) (an1 (idA ((f119z2 x1)=true))) ob2 (an1 (idA (((aA0 x1)==false)=true))) (an1 (idA (((aA0 x1)==false)=true))) (bqA (aA0 x1) false) (an3 (an1 (idA (((aAZ x1 x2)==false)=true))) (an1 (idA (((aAZ x1 x2)==false)=true))) (bqA (aAZ x1 x2) false))) ?_;refine tN (cK ((aAZ x1 x2)||(decide (x2>(1000000:Int)))) (fun hc1=> ?_) fun hc1=> ?_)
 ·replace h:=aF hc1 h;refine bJ [] [] ⟨28,[(2,.i (7:Int))],[],[],0⟩ trivial ?_;obtain rfl:=aaD h;refine aaG (tR ?_);exact bK
 ·replace h:=aG hc1 h;refine aaF (tN (aaE (aN [] [] [1,23] [1] trivial ?_)));refine cK (x3==[]) (fun hc2=> ?_) fun hc2=> ?_
  ·replace h:=aF hc2 h;refine bJ [] [] ⟨28,[(2,.i (9:Int))],[],[],0⟩ trivial ?_;obtain rfl:=aaD h;refine aaG (tR ?_);exact bK
  ·replace h:=aG hc2 h;refine aaF (tN (aaE (aN [] [] [27] [] trivial ?_)));refine cK (decide ((lZ x3)>(200:Int))) (fun hc3=> ?_) fun hc3=> ?_
   ·replace h:=aF hc3 h;refine bJ [] [] ⟨28,[(2,.i (3:Int))],[],[],0⟩ trivial ?_;obtain rfl:=aaD h;refine aaG (tR ?_);exact bK
   ·replace h:=aG hc3 h;refine aaF (tN (aN [] [] [2] [] trivial ?_));obtain rfl:=aaD h;refine aaG ?_;exact bK
def f149 (x1 x2:Int) (x3:aaA) (x4 x5:Int) (x6:aaA):Option Bool:=
 some ((x1==x4)&&(x2==x5))
theorem f149_ok (x1 x2:Int) (x3:aaA) (x4 x5:Int) (x6:aaA) (r:Bool) (h:f149 x1 x2 x3 x4 x5 x6=some r):aE Tryz.prog 149 [] [] [] [.agg [.i x1,.i x2,.str x3],.agg [.i x4,.i x5,.str x6]] (.bool r) []:=by
 unfold f149 at h;refine aE.body 0 _ _ Tryz.func149 rfl Tryz.ntmps149 rfl rfl ?_;refine aN [] [] [2,3] [2,3] trivial ?_;refine aaE (bH [] [] ⟨17,[(4,.bool ((x1==x4)&&(x2==x5)))],[],[],0⟩ (an4 (an1 (idA (((x1==x4)==true)=true))) (an1 (idA (((x1==x4)==true)=true))) (an2 (idA (((x1==x4)==true)=true)) (idA (((x1==x4)==true)=true))) (bqA (x1==x4) true)) ?_);refine tN ?_;obtain rfl:=aaD h;refine aaG ?_;exact bK
def gW (x1:List Tq0) (x2 x3:Int) (x4:aaA) (K1:Unit->Option Bool):Nat->Nat->Option Bool
 |0,_=>none
 |k+1,n5=>
  if(decide ((n5:Int)<(((x1).length:Nat):Int)))then(
  (f149 ((x1.getD n5 (default:Tq0)).1) ((x1.getD n5 (default:Tq0)).2.1) ((x1.getD n5 (default:Tq0)).2.2) x2 x3 x4).bind fun r6=>
  chk ((n5:Int)<(((x1).length:Nat):Int))<|
  if r6 then(
  some true
  )else(
  chk (((n5:Int)+(1:Int))<=9223372036854775807)<|
  (gW x1 x2 x3 x4 K1 k) (n5+1)
  )
  )else(
  K1 ()
  )
abbrev aAW (x2 x3:Int) (x4:aaA):aJ:=[(3,.cells 88 [.i x2,.i x3,.str x4])]
def f120 (x1:List Tq0) (x2 x3:Int) (x4:aaA):Option Bool:=
 jn (fun(_:Unit)=>
 some false
 ) fun(K1:Unit->Option Bool)=>
 gW x1 x2 x3 x4 K1 bB 0
theorem f120_ok (x1:List Tq0) (x2 x3:Int) (x4:aaA) (r:Bool) (h:f120 x1 x2 x3 x4=some r):aE Tryz.prog 120 [] [] [] [vL 3 bX (default:Tq0) x1,.agg [.i x2,.i x3,.str x4]] (.bool r) []:=by
 unfold f120 at h;refine aE.body 0 _ _ Tryz.func120 rfl Tryz.ntmps120 rfl rfl ?_;refine aN [] [] [0,3] [3] trivial ?_;obtain⟨K1,hK1,h⟩:=aO h;refine aaU (fun(x:Unit)=>match x with|()=>⟨18,[],[],[],0⟩) (fun x=>K1 x=some r) ?_ ?_
 ·refine bJ [] [] ⟨18,[(0,bC x1),(3,.ptr 3 0),(5,.i (0:Int))],(aAW x2 x3 x4),[],0⟩ trivial ?_;refine aaJ (abI (α:=Nat×Nat) (fun x=>match x with|(_,n5)=>⟨18,[(0,bC x1),(3,.ptr 3 0),(5,.i (n5:Int))],(aAW x2 x3 x4),[],0⟩) (fun x=>gW x1 x2 x3 x4 K1 x.1 x.2=some r) (fun x=>x.1) (bB,0) LR h ?_)
  rintro⟨k0,n5⟩ h
  cases k0 with
  |zero=>exact nEx h
  |succ k0=>
  obtain⟨C0,hC0⟩:∃C,C=gW x1 x2 x3 x4 K1 k0:=⟨_,rfl⟩;replace h:=(gW.eq_2 ..).symm.trans h
  try rw[<-hC0]at h
  refine aaE (aN [] [] [0,3,5,9] [3] trivial ?_);refine cK (decide ((n5:Int)<(lZ x1))) (fun hc1=> ?_) fun hc1=> ?_
  ·replace h:=aF hc1 h;refine aaF (tN (aaE (aaJ (aaE ?_))));obtain⟨r6,hr6,h⟩:=bind_ok h;obtain⟨ob0p,h⟩:=aB h;refine bH [] [(5,⟨[.agg [.i (x1.getD n5 aZ).1,.i (x1.getD n5 aZ).2.1,.str (x1.getD n5 aZ).2.2],.agg [.i x2,.i x3,.str x4]],[],[],[],.bool r6,[],[],[]⟩)] ⟨18,[(0,bC x1),(3,.ptr 3 0),(5,.i (n5:Int)),(17,.bool r6)],(aAW x2 x3 x4),[],0⟩ (an2 (iN ob0p) (cpT (f149_ok _ _ _ _ _ _ _ hr6))) ?_;refine tN (cK r6 (fun hc2=> ?_) fun hc2=> ?_)
   ·replace h:=aF hc2 h;refine aN [] [] [4] [] trivial ?_;obtain rfl:=aaD h;refine aaG (kR (tR (tR (kR (aS ?_)))));exact bK
   ·replace h:=aG hc2 h;refine aaF (kN (tN ?_));obtain⟨ob1p,h⟩:=aB h;refine bH [] [] ⟨18,[(0,bC x1),(3,.ptr 3 0),(5,.i (((n5+1):Nat):Int))],(aAW x2 x3 x4),[],0⟩ (an1 (iP ob1p)) ?_;rw[hC0]at h;exact lN (_,(n5+1)) LR h (aaK _)
  ·replace h:=aG hc1 h;refine abK (tE (tE (kS ?_)));exact jN () LR h
 ·rintro⟨⟩ h;replace h:=(congrFun hK1 _).symm.trans h;refine aN [] [] [4] [] trivial ?_;obtain rfl:=aaD h;refine aaG ?_;exact bK
def jY (x1:List Tq0) (K1:Unit->Option Int):Nat->Nat->Option Int
 |0,_=>none
 |k+1,n2=>
  if(decide ((n2:Int)<(((x1).length:Nat):Int)))then(
  (f119 ((x1.getD n2 (default:Tq0)).1) ((x1.getD n2 (default:Tq0)).2.1) ((x1.getD n2 (default:Tq0)).2.2)).bind fun r3=>
  chk ((n2:Int)<(((x1).length:Nat):Int))<|
  if(r3 !=(0:Int))then(
  some r3
  )else(
  (f120 (x1.take n2) ((x1.getD n2 (default:Tq0)).1) ((x1.getD n2 (default:Tq0)).2.1) ((x1.getD n2 (default:Tq0)).2.2)).bind fun r4=>
  chk ((n2:Int)<=(((x1).length:Nat):Int))<|
  chk ((n2:Int)<(((x1).length:Nat):Int))<|
  if r4 then(
  some (5:Int)
  )else(
  chk (((n2:Int)+(1:Int))<=9223372036854775807)<|
  (jY x1 K1 k) (n2+1)
  )
  )
  )else(
  K1 ()
  )
abbrev f86z0 (x1:List Tq0) (n2:Nat):List V:=[.i (x1.getD n2 (default:Tq0)).1,.i (x1.getD n2 (default:Tq0)).2.1,.str (x1.getD n2 (default:Tq0)).2.2]
def f86 (x1:List Tq0):Option Int:=
 jn (fun(_:Unit)=>
 some (0:Int)
 ) fun(K1:Unit->Option Int)=>
 jY x1 K1 bB 0
theorem f86_ok (x1:List Tq0) (r:Int) (h:f86 x1=some r):aE Tryz.prog 86 [] [] [] [vL 3 bX (default:Tq0) x1] (.i r) []:=by
 unfold f86 at h;refine aE.body 0 _ _ Tryz.func86 rfl Tryz.ntmps86 rfl rfl ?_;refine aN [] [] [0] [] trivial ?_;obtain⟨K1,hK1,h⟩:=aO h;refine aaU (fun(x:Unit)=>match x with|()=>⟨27,[],[],[],0⟩) (fun x=>K1 x=some r) ?_ ?_
 ·refine bJ [] [] ⟨27,[(0,bC x1),(3,.i (0:Int))],[],[],0⟩ trivial ?_;refine aaJ (abI (α:=Nat×Nat) (fun x=>match x with|(_,n2)=>⟨27,[(0,bC x1),(3,.i (n2:Int))],[],[],0⟩) (fun x=>jY x1 K1 x.1 x.2=some r) (fun x=>x.1) (bB,0) LR h ?_)
  rintro⟨k0,n2⟩ h
  cases k0 with
  |zero=>exact nEx h
  |succ k0=>
  obtain⟨C0,hC0⟩:∃C,C=jY x1 K1 k0:=⟨_,rfl⟩;replace h:=(jY.eq_2 ..).symm.trans h
  try rw[<-hC0]at h
  refine aaE (aN [] [] [0,3,8] [] trivial ?_);refine cK (decide ((n2:Int)<(lZ x1))) (fun hc1=> ?_) fun hc1=> ?_
  ·replace h:=aF hc1 h;refine aaF (tN (aaE (aaJ (aaE (aaE ?_)))));obtain⟨r3,hr3,h⟩:=bind_ok h;obtain⟨ob0p,h⟩:=aB h;refine bG [] [(4,⟨[.agg (f86z0 x1 n2)],[],[],[],.i r3,[],[],[]⟩)] [0,3,4] [] (an2 (iN ob0p) (cpT (f119_ok _ _ _ _ hr3))) ?_;refine tN (aN [] [] [0,3,4,17] [] trivial ?_);refine cK (r3 !=(0:Int)) (fun hc2=> ?_) fun hc2=> ?_
   ·replace h:=aF hc2 h;refine bJ [] [] ⟨27,[(2,.i r3)],[],[],0⟩ trivial ?_;obtain rfl:=aaD h;refine aaG (tR (kR (tR (tR (kR (aS ?_))))));exact bK
   ·replace h:=aG hc2 h;refine aaF (tN (aaE ?_));obtain⟨r4,hr4,h⟩:=bind_ok h;obtain⟨ob1p,h⟩:=aB h;obtain⟨ob2p,h⟩:=aB h;refine bG [] [(7,⟨[bC (x1.take n2),.agg (f86z0 x1 n2)],[],[],[],.bool r4,[],[],[]⟩)] [0,3,26] [] (an3 (iL ob1p) (iN ob2p) (cpL (c:=true) [] [] [.arr 3 n2 (cE bX aZ x1),.agg (f86z0 x1 n2)] (fun _=>(f120_ok _ _ _ _ _ hr4)) (fun _=>⟨(VLe.takeL (by first|omega|(simp only[aaH,aaS,abT,abG,aaZ]at *;omega)|(simp;done)|(simp_all;done)|(simp_all;omega)|rfl)),.refl _,trivial⟩) (.inl rfl))) ?_;refine tN (cK r4 (fun hc3=> ?_) fun hc3=> ?_)
    ·replace h:=aF hc3 h;refine bJ [] [] ⟨27,[(2,.i (5:Int))],[],[],0⟩ trivial ?_;obtain rfl:=aaD h;refine aaG (kR (tR (tR (kR (aS ?_)))));exact bK
    ·replace h:=aG hc3 h;refine aaF (kN (tN ?_));obtain⟨ob3p,h⟩:=aB h;refine bG [] [] [0,3] [] (an1 (iP ob3p)) ?_;rw[hC0]at h;exact lN (_,(n2+1)) LR h (aaK _)
  ·replace h:=aG hc1 h;refine abK (tE (tE (kS ?_)));exact jN () LR h
 ·rintro⟨⟩ h;replace h:=(congrFun hK1 _).symm.trans h;refine aN [] [] [2] [] trivial ?_;obtain rfl:=aaD h;refine aaG ?_;exact bK
def aB3 :Nat->Int->Option Ty1
 |0,_=>none
 |k+1,x1=>
  if(decide (x1<(128:Int)))then(
  chk (0<=x1/\x1<=255)<|
  some [UInt8.ofNat ((x1).toNat)]
  )else(
  ((aB3 k) (x1/(128:Int))).bind fun r2=>
  chk (0<=x1/\1<=(128:Int))<|
  chk (-9223372036854775808<=((x1%(128:Int))+(128:Int))/\((x1%(128:Int))+(128:Int))<=9223372036854775807)<|
  chk (0<=((x1%(128:Int))+(128:Int))/\((x1%(128:Int))+(128:Int))<=255)<|
  chk (0<=x1/\1<=(128:Int)/\ -9223372036854775808<=(x1/(128:Int))/\(x1/(128:Int))<=9223372036854775807)<|
  chk ([UInt8.ofNat ((((x1%(128:Int))+(128:Int))).toNat)].length+r2.length<=9223372036854775807)<|
  some ([UInt8.ofNat ((((x1%(128:Int))+(128:Int))).toNat)]++r2)
  )
theorem f121_ok :∀(k:Nat) (x1:Int) (r:aaA),aB3 k x1=some r->aE Tryz.prog 121 [] [] [] [.i x1] (.str r) []:=by
 intro k
 induction k with
 |zero=>intro x1 r h;exact nEx h
 |succ k ih=>
 intro x1 r h;obtain⟨Frec,hFrec⟩:∃C,C=aB3 k:=⟨_,rfl⟩;rw[aB3.eq_2]at h;rw[<-hFrec]at h ih;refine aE.body 0 _ _ Tryz.func121 rfl Tryz.ntmps121 rfl rfl ?_;refine aN [] [] [0] [] trivial ?_;refine aaE (aN [] [] [0,4] [] trivial ?_);refine cK (decide (x1<(128:Int))) (fun hc1=> ?_) fun hc1=> ?_
 ·replace h:=aF hc1 h;refine aaE ?_;obtain⟨ob0,h⟩:=aB h;have ob1:∀i,i<1->isByte ((dN 1 [.int .u8 x1]) i 0):=fun i hi=>match i,hi with|0,_=>trivial
  refine bH [] [] ⟨19,[(2,.str [UInt8.ofNat ((x1).toNat)])],[],[],0⟩ (an2 ob0 ob1) ?_;refine tN ?_;obtain rfl:=aaD h;refine aaG (tR ?_);exact bK
 ·replace h:=aG hc1 h;refine aaF (tN (aaE ?_));obtain⟨r2,hr2,h⟩:=bind_ok h;obtain⟨ob2,ob3,ob4,h⟩:=ck3 h;have ob5:∀i,i<1->isByte ((dN 1 [.int .u8 ((x1%(128:Int))+(128:Int))]) i 0):=fun i hi=>match i,hi with|0,_=>trivial
  obtain⟨ob6,ob7,h⟩:=ck2 h;refine bG [] [(8,⟨[.i (x1/(128:Int))],[],[],[],.str r2,[],[],[]⟩)] [2] [] (ac6 ob2 ob3 ob4 ob5 ob6 (cpT (ih _ _ hr2)) (an1 ob7)) ?_;refine tN ?_;obtain rfl:=aaD h;refine aaG ?_;exact bK
def iV (x1:List Ty1) (K1:Ty1->Option Ty1):Nat->(aaA×Nat)->Option Ty1
 |0,_=>none
 |k+1,(s3,n4)=>
  if(decide ((n4:Int)<(((x1).length:Nat):Int)))then(
  (aB3 bB (((x1.getD n4 []).length:Nat):Int)).bind fun r5=>
  chk ((n4:Int)<(((x1).length:Nat):Int))<|
  chk (s3.length+r5.length<=9223372036854775807)<|
  chk ((n4:Int)<(((x1).length:Nat):Int))<|
  chk ((s3++r5).length+(x1.getD n4 []).length<=9223372036854775807)<|
  chk (((n4:Int)+(1:Int))<=9223372036854775807)<|
  (iV x1 K1 k) (((s3++r5)++(x1.getD n4 [])),(n4+1))
  )else(
  K1 s3
  )
def f87 (x1:List Ty1):Option Ty1:=
 (aB3 bB (((x1).length:Nat):Int)).bind fun r2=>
 jn (fun(s6:aaA)=>
 some s6
 ) fun(K1:Ty1->Option Ty1)=>
 iV x1 K1 bB (r2,0)
theorem f87_ok (x1:List Ty1) (r:aaA) (h:f87 x1=some r):aE Tryz.prog 87 [] [] [] [vL 1 eS [] x1] (.str r) []:=by
 unfold f87 at h;refine aE.body 0 _ _ Tryz.func87 rfl Tryz.ntmps87 rfl rfl ?_;refine aN [] [] [0] [] trivial ?_;refine aaE ?_;obtain⟨r2,hr2,h⟩:=bind_ok h;refine bH [] [(2,⟨[.i (lZ x1)],[],[],[],.str r2,[],[],[]⟩)] ⟨28,[(0,eC x1),(3,.str r2)],[],[],0⟩ (an1 (cpT (f121_ok bB _ _ hr2))) ?_;refine tN ?_;obtain⟨K1,hK1,h⟩:=aO h;refine aaU (α:=aaA) (fun(s6:aaA)=>⟨28,[(3,.str s6)],[],[],0⟩) (fun x=>K1 x=some r) ?_ ?_
 ·refine aN [] [] [0,3,4] [] trivial ?_;refine aaJ (abI (α:=Nat×(aaA×Nat)) (fun x=>match x with|(_,s3,n4)=>⟨28,[(0,eC x1),(3,.str s3),(4,.i (n4:Int))],[],[],0⟩) (fun x=>iV x1 K1 x.1 x.2=some r) (fun x=>x.1) (bB,r2,0) LR h ?_)
  rintro⟨k0,s3,n4⟩ h
  cases k0 with
  |zero=>exact nEx h
  |succ k0=>
  obtain⟨C0,hC0⟩:∃C,C=iV x1 K1 k0:=⟨_,rfl⟩;replace h:=(iV.eq_2 ..).symm.trans h
  try rw[<-hC0]at h
  refine aaE (aN [] [] [0,3,4,11] [] trivial ?_);refine cK (decide ((n4:Int)<(lZ x1))) (fun hc1=> ?_) fun hc1=> ?_
  ·replace h:=aF hc1 h;refine aaF (tN (aaE (aaJ ?_)));obtain⟨r5,hr5,h⟩:=bind_ok h;obtain⟨ob0p,h⟩:=aB h;obtain⟨ob1,ob2p,h⟩:=ck2 h;obtain⟨ob3,h⟩:=aB h;refine bH [] [(6,⟨[.i (((x1.getD n4 []).length:Nat):Int)],[],[],[],.str r5,[],[],[]⟩)] ⟨28,[(0,eC x1),(3,.str ((s3++r5)++(x1.getD n4 []))),(4,.i (n4:Int))],[],[],0⟩ (an5 (iN ob0p) (cpT (f121_ok bB _ _ hr5)) ob1 (iN ob2p) ob3) ?_;refine kN (tN ?_);obtain⟨ob4p,h⟩:=aB h;refine bG [] [] [0,3,4] [] (an1 (iP ob4p)) ?_;rw[hC0]at h;exact lN (_,((s3++r5)++(x1.getD n4 [])),(n4+1)) LR h (aaK _)
  ·replace h:=aG hc1 h;refine abK (tE (tE (kS ?_)));exact jN (s3) LR h
 ·rintro s6 h;replace h:=(congrFun hK1 _).symm.trans h;refine aN [] [] [2] [] trivial ?_;obtain rfl:=aaD h;refine aaG ?_;exact bK
def iY (x3:List Tq0) (K1:(List Ty1)->Option Ty1):Nat->(Nat×List Ty1)->Option Ty1
 |0,_=>none
 |k+1,(n7,l8)=>
  if(decide ((n7:Int)<(((x3).length:Nat):Int)))then(
  chk ((n7:Int)<(((x3).length:Nat):Int))<|
  (f88 bB ((x3.getD n7 (default:Tq0)).1)).bind fun r9=>
  (f88 bB ((x3.getD n7 (default:Tq0)).2.1)).bind fun r10=>
  chk (((l8).length+3) *16<=140737488355328)<|
  chk (((n7:Int)+(1:Int))<=9223372036854775807)<|
  (iY x3 K1 k) ((n7+1),(l8++[r9,r10,(x3.getD n7 (default:Tq0)).2.2]))
  )else(
  K1 l8
  )
abbrev f65z0 (x1 x2:Int) (x3:List Tq0):List V:=[.i x1,.i x2,vL 3 bX (default:Tq0) x3]
abbrev aBH (x3:List Tq0) (n7:Nat):=(x3.getD n7 (default:Tq0))
abbrev f65z2 (n7:Nat):List (Nat×V):=[(1,.ptr 1 0),(3,.own 19),(4,.i (n7:Int))]
def f65 (x1 x2:Int) (x3:List Tq0):Option Ty1:=
 if(x1==(2:Int))then(
 (f88 bB x2).bind fun r4=>
 (f87 ([([106,111,105,110]:aaA),r4])).bind fun r5=>
 some r5
 )else(
 if(x1==(3:Int))then(
 (f87 [cs1]).bind fun r6=>
 some r6
 )else(
 jn (fun(l11:List Ty1)=>
 (f87 l11).bind fun r12=>
 some r12
 ) fun(K1:(List Ty1)->Option Ty1)=>
 iY x3 K1 bB (0,[cs2])
 )
 )
theorem f65_ok (x1 x2:Int) (x3:List Tq0) (r:aaA) (h:f65 x1 x2 x3=some r):aE Tryz.prog 65 [] [] [] [.agg [.i x1,.i x2,vL 3 bX (default:Tq0) x3]] (.str r) []:=by
 unfold f65 at h;refine aE.body 0 _ _ Tryz.func65 rfl Tryz.ntmps65 rfl rfl ?_;refine aN [] [] [1] [1] trivial ?_;refine aaE (aN [] [] [1,7] [1] trivial ?_);refine aaJ (aN [] [] [1,7,8] [1] trivial ?_);refine cK (x1==(2:Int)) (fun hc1=> ?_) fun hc1=> ?_
 ·replace h:=aF hc1 h;refine aaE ?_;obtain⟨r4,hr4,h⟩:=bind_ok h;obtain⟨r5,hr5,h⟩:=bind_ok h;refine bH [] [(2,⟨[.i x2],[],[],[],.str r4,[],[],[]⟩),(4,⟨[eC [([106,111,105,110]:aaA),r4]],[],[],[],.str r5,[],[13],[]⟩)] ⟨45,[(2,.str r5)],[],[],0⟩ (an2 (cpT (aAx bB _ _ hr4)) (cpL (c:=true) [(13,.rows 9 1 2 (dN 1 [.str ([106,111,105,110]:aaA),.str r4]))] [13] [.own 13] (fun _=>(f87_ok _ _ hr5)) (fun _=>⟨(VLe.of (acV (enc:=eS) [([106,111,105,110]:aaA),r4] rfl rfl (fun _=>rfl))),trivial⟩) (.inr ⟨rfl,trivial⟩))) ?_;refine tN ?_;obtain rfl:=aaD h;refine aaG (kR (tR ?_));exact bK
 ·replace h:=aG hc1 h;refine aN [] [] [1,15] [1] trivial ?_;refine cK (x1==(3:Int)) (fun hc2=> ?_) fun hc2=> ?_
  ·replace h:=aF hc2 h;refine aaE ?_;obtain⟨r6,hr6,h⟩:=bind_ok h;refine bH [] [(1,⟨[eC [cs1]],[],[],[],.str r6,[],[17],[]⟩)] ⟨45,[(2,.str r6)],[],[],0⟩ (an1 (cpL (c:=true) [(17,.rows 9 1 1 (dN 1 [.str cs1]))] [17] [.own 17] (fun _=>(f87_ok _ _ hr6)) (fun _=>⟨(VLe.of (acV (enc:=eS) [cs1] rfl rfl (fun _=>rfl))),trivial⟩) (.inr ⟨rfl,trivial⟩))) ?_;refine tN ?_;obtain rfl:=aaD h;refine aaG (kR (tR ?_));exact bK
  ·replace h:=aG hc2 h;refine aaF (kN (tN (bJ [] [] ⟨45,[(1,.ptr 1 0),(3,.own 19)],[(1,.cells 100 (f65z0 x1 x2 x3)),(19,.rows 9 1 1 (dN 1 [.str cs2]))],[],0⟩ trivial ?_)));refine aaX (acZ (s':=⟨45,[(1,.ptr 1 0),(3,.own 19)],[(1,.cells 100 (f65z0 x1 x2 x3)),(19,aK [cs2])],[],0⟩) rfl rfl ⟨.refl _,.refl _,trivial⟩ ⟨⟨_,rfl,.refl _⟩,⟨_,rfl,(acK (acV (enc:=eS) [cs2] rfl rfl (fun _=>rfl)))⟩,trivial⟩) ?_;obtain⟨K1,hK1,h⟩:=aO h;refine aaU (α:=List Ty1) (fun(l11:List Ty1)=>⟨45,[(3,.own 19)],[(19,aK l11)],[],0⟩) (fun x=>K1 x=some r) ?_ ?_
   ·refine aN [] [] [1,3,4] [1,19] trivial ?_;refine aaJ (abI (α:=Nat×(Nat×List Ty1)) (fun x=>match x with|(_,n7,l8)=>⟨45,(f65z2 n7),[(1,.cells 100 (f65z0 x1 x2 x3)),(19,aK l8)],[],0⟩) (fun x=>iY x3 K1 x.1 x.2=some r) (fun x=>x.1) (bB,0,[cs2]) LR h ?_)
    rintro⟨k0,n7,l8⟩ h
    cases k0 with
    |zero=>exact nEx h
    |succ k0=>
    obtain⟨C0,hC0⟩:∃C,C=iY x3 K1 k0:=⟨_,rfl⟩;replace h:=(iY.eq_2 ..).symm.trans h
    try rw[<-hC0]at h
    refine aaE (aN [] [] [1,3,4,24] [1,19] trivial ?_);refine cK (decide ((n7:Int)<(lZ x3))) (fun hc3=> ?_) fun hc3=> ?_
    ·replace h:=aF hc3 h;refine aaF (tN (aaE (aaJ (aaE ?_))));obtain⟨ob0p,h⟩:=aB h;refine bG [] [] [1,3,4,5] [1,5,19] (an2 (iN ob0p) trivial) ?_;refine tN ?_;obtain⟨r9,hr9,h⟩:=bind_ok h;obtain⟨r10,hr10,h⟩:=bind_ok h;obtain⟨ob1,h⟩:=aB h;refine bH [] [(3,⟨[.i (aBH x3 n7).1],[],[],[],.str r9,[],[],[]⟩),(6,⟨[.i (aBH x3 n7).2.1],[],[],[],.str r10,[],[],[]⟩)] ⟨45,(f65z2 n7),[(1,.cells 100 (f65z0 x1 x2 x3)),(19,.rows 9 1 ((l8).length+3) (gK (l8).length (cE eS [] l8) (dN 1 [.str r9,.str r10,.str (aBH x3 n7).2.2])))],[],0⟩ (an3 (cpT (aAx bB _ _ hr9)) (cpT (aAx bB _ _ hr10)) ob1) ?_;refine kN (tN (aaX (acZ (s':=⟨45,(f65z2 n7),[(1,.cells 100 (f65z0 x1 x2 x3)),(19,aK (l8++[r9,r10,(aBH x3 n7).2.2]))],[],0⟩) rfl rfl ⟨.refl _,.refl _,.refl _,trivial⟩ ⟨⟨_,rfl,.refl _⟩,⟨_,rfl,(acK (adQ (acX _) (acV (enc:=eS) [r9,r10,(aBH x3 n7).2.2] rfl rfl (fun _=>rfl))))⟩,trivial⟩) ?_));obtain⟨ob2p,h⟩:=aB h;refine bG [] [] [1,3,4] [1,19] (an1 (iP ob2p)) ?_;rw[hC0]at h;exact lN (_,(n7+1),(l8++[r9,r10,(aBH x3 n7).2.2])) LR h (aaK _)
    ·replace h:=aG hc3 h;refine abK (tE (tE (kS ?_)));exact jN (l8) LR h
   ·rintro l11 h;replace h:=(congrFun hK1 _).symm.trans h;refine aaE ?_;obtain⟨r12,hr12,h⟩:=bind_ok h;refine bG [] [(1,⟨[eC l11],[],[],[],.str r12,[],[19],[]⟩)] [2] [] (an1 (cpL (c:=true) [(19,aK l11)] [19] [.own 19] (fun _=>(f87_ok _ _ hr12)) (fun _=>⟨.refl _,trivial⟩) (.inr ⟨rfl,trivial⟩))) ?_;refine tN ?_;obtain rfl:=aaD h;refine aaG ?_;exact bK
abbrev aBJ (x1 x2:Int):=(((((!(x1==(1:Int)))&&(!(x1==(2:Int))))&&(x1 !=(3:Int)))||((!(x1==(2:Int)))&&(x2 !=(0:Int))))||(decide (x2<(0:Int))))
abbrev aBI (x1:Int):=(((!(x1==(1:Int)))&&(!(x1==(2:Int))))&&(x1 !=(3:Int)))
abbrev f64z2 (x1 x2:Int):=(((aBJ x1 x2)||(decide (x2>=(6:Int))))==false)
abbrev f64z4 (x1 x2:Int):=((aBI x1)||((!(x1==(2:Int)))&&(x2 !=(0:Int))))
abbrev f64z5 (x1:Int):=(((!(x1==(1:Int)))&&(!(x1==(2:Int))))==true)
abbrev f64z6 (x1 x2:Int):=((f64z2 x1 x2)&&((!(x1==(1:Int)))==true))
abbrev f64z7 (x1:Int):=(((aBI x1)==false)&&((!(x1==(2:Int)))==true))
def f64 (x1 x2:Int) (x3:List Tq0):Option Int:=
 chk (((((!(x1==(1:Int)))&&(!(x1==(2:Int))))&&(x1 !=(3:Int)))==false)=true->((((!(x1==(1:Int)))&&(!(x1==(2:Int))))&&(x1 !=(3:Int)))==false)=true->(!(x1==(2:Int)))=true->(((((!(x1==(1:Int)))&&(!(x1==(2:Int))))&&(x1 !=(3:Int)))==false)&&((!(x1==(2:Int)))==true))=true)<|
 chk ((((((((!(x1==(1:Int)))&&(!(x1==(2:Int))))&&(x1 !=(3:Int)))||((!(x1==(2:Int)))&&(x2 !=(0:Int))))||(decide (x2<(0:Int))))||(decide (x2>=(6:Int))))==false)=true->(((((((!(x1==(1:Int)))&&(!(x1==(2:Int))))&&(x1 !=(3:Int)))||((!(x1==(2:Int)))&&(x2 !=(0:Int))))||(decide (x2<(0:Int))))||(decide (x2>=(6:Int))))==false)=true->(!(x1==(1:Int)))=true->((((((((!(x1==(1:Int)))&&(!(x1==(2:Int))))&&(x1 !=(3:Int)))||((!(x1==(2:Int)))&&(x2 !=(0:Int))))||(decide (x2<(0:Int))))||(decide (x2>=(6:Int))))==false)&&((!(x1==(1:Int)))==true))=true)<|
 if(((((((!(x1==(1:Int)))&&(!(x1==(2:Int))))&&(x1 !=(3:Int)))||((!(x1==(2:Int)))&&(x2 !=(0:Int))))||(decide (x2<(0:Int))))||(decide (x2>=(6:Int))))||((!(x1==(1:Int)))&&(decide ((((x3).length:Nat):Int)>(0:Int)))))then(
 some (1:Int)
 )else(
 if(decide ((((x3).length:Nat):Int)>(8:Int)))then(
 some (3:Int)
 )else(
 (f86 x3).bind fun r4=>
 if(r4 !=(0:Int))then(
 some r4
 )else(
 (f65 x1 x2 x3).bind fun r5=>
 if(decide (((r5.length:Nat):Int)>(2000:Int)))then(
 some (3:Int)
 )else(
 some (0:Int)
 )
 )
 )
 )
theorem f64_ok (x1 x2:Int) (x3:List Tq0) (r:Int) (h:f64 x1 x2 x3=some r):aE Tryz.prog 64 [] [] [] [.agg [.i x1,.i x2,vL 3 bX (default:Tq0) x3]] (.i r) []:=by
 unfold f64 at h;refine aE.body 0 _ _ Tryz.func64 rfl Tryz.ntmps64 rfl rfl ?_;refine aN [] [] [1] [1] trivial ?_;refine aN [] [] [1,3] [1] trivial ?_;refine aN [] [] [1,3,4] [1] trivial ?_;refine aaE (aaE ?_);have ob4:true=true->((!(x1==(1:Int)))&&(!(x1==(2:Int))))=true->(f64z5 x1)=true:=fun _ h=>beq_iff_eq.2 h;obtain⟨ob9,h⟩:=aB h;obtain⟨ob23,h⟩:=aB h;have ob25:true=true->((aBJ x1 x2)||(decide (x2>=(6:Int))))=false->(f64z2 x1 x2)=true:=fun _ h=>beq_iff_eq.2 h;refine bG [] [] [1,51] [1] (ac6 (an1 (idA (((!(x1==(1:Int)))==true)=true))) (bqA (!(x1==(1:Int))) true) (an1 (idA ((f64z5 x1)=true))) (an1 (idA ((f64z5 x1)=true))) ob4 (an1 (idA (((aBI x1)==false)=true))) (ac6 (an1 (idA (((aBI x1)==false)=true))) (an1 (idA ((f64z7 x1)=true))) (an1 (idA ((f64z7 x1)=true))) (aaM ob9 (an1 (idA (((aBI x1)==false)=true)))) (bqA (aBI x1) false) (an1 (idA (((f64z4 x1 x2)==false)=true))) (ac6 (an1 (idA (((f64z4 x1 x2)==false)=true))) (bqA (f64z4 x1 x2) false) (an1 (idA (((aBJ x1 x2)==false)=true))) (an1 (idA (((aBJ x1 x2)==false)=true))) (bqA (aBJ x1 x2) false) (an1 (idA ((f64z2 x1 x2)=true))) (an6 (an1 (idA ((f64z2 x1 x2)=true))) (an1 (idA ((f64z6 x1 x2)=true))) (an1 (idA ((f64z6 x1 x2)=true))) (an1 (idA ((f64z6 x1 x2)=true))) (aaM ob23 (an1 (idA ((f64z2 x1 x2)=true)))) ob25)))) ?_;refine tN (cK (((aBJ x1 x2)||(decide (x2>=(6:Int))))||((!(x1==(1:Int)))&&(decide ((lZ x3)>(0:Int))))) (fun hc1=> ?_) fun hc1=> ?_)
 ·replace h:=aF hc1 h;refine bJ [] [] ⟨66,[(2,.i (1:Int))],[],[],0⟩ trivial ?_;obtain rfl:=aaD h;refine aaG (tR ?_);exact bK
 ·replace h:=aG hc1 h;refine aaF (tN (aaE (aN [] [] [1,55] [1] trivial ?_)));refine cK (decide ((lZ x3)>(8:Int))) (fun hc2=> ?_) fun hc2=> ?_
  ·replace h:=aF hc2 h;refine bJ [] [] ⟨66,[(2,.i (3:Int))],[],[],0⟩ trivial ?_;obtain rfl:=aaD h;refine aaG (tR ?_);exact bK
  ·replace h:=aG hc2 h;refine aaF (tN (aaE (aaE ?_)));obtain⟨r4,hr4,h⟩:=bind_ok h;refine bG [] [(2,⟨[bC x3],[],[],[],.i r4,[],[],[]⟩)] [1,5] [1] (an1 (cpT (f86_ok _ _ hr4))) ?_;refine tN (aN [] [] [1,5,60] [1] trivial ?_);refine cK (r4 !=(0:Int)) (fun hc3=> ?_) fun hc3=> ?_
   ·replace h:=aF hc3 h;refine bJ [] [] ⟨66,[(2,.i r4)],[],[],0⟩ trivial ?_;obtain rfl:=aaD h;refine aaG (tR ?_);exact bK
   ·replace h:=aG hc3 h;refine aaF (tN (aaE (aaE ?_)));obtain⟨r5,hr5,h⟩:=bind_ok h;refine bG [] [(1,⟨[.agg [.i x1,.i x2,bC x3]],[],[],[],.str r5,[],[],[]⟩)] [65] [] (an1 (cpT (f65_ok _ _ _ _ hr5))) ?_;refine tN (cK (decide ((lZ r5)>(2000:Int))) (fun hc4=> ?_) fun hc4=> ?_)
    ·replace h:=aF hc4 h;refine bJ [] [] ⟨66,[(2,.i (3:Int))],[],[],0⟩ trivial ?_;obtain rfl:=aaD h;refine aaG (tR ?_);exact bK
    ·replace h:=aG hc4 h;refine aaF (tN (aN [] [] [2] [] trivial ?_));obtain rfl:=aaD h;refine aaG ?_;exact bK
def jB (r2:Bool×List Ty1) (K1:(Nat×Int×Ty4)->Option (Int×Int×Ty4×Int)):Nat->(Nat×Ty4)->Option (Int×Int×Ty4×Int)
 |0,_=>none
 |k+1,(n7,l8)=>
  if(decide ((n7:Int)<(((r2.2).length:Nat):Int)))then(
  (f82 (r2.2.getD n7 [])).bind fun r9=>
  (f82 (r2.2.getD (n7+1) [])).bind fun r10=>
  chk ((n7:Int)<(((r2.2).length:Nat):Int))<|
  chk (n7<(r2.2).length)<|
  chk (((n7:Int)+(1:Int))<=9223372036854775807)<|
  chk ((((n7+1):Nat):Int)<(((r2.2).length:Nat):Int))<|
  chk ((n7+1)<(r2.2).length)<|
  chk (((n7:Int)+(2:Int))<=9223372036854775807)<|
  chk ((((n7+2):Nat):Int)<(((r2.2).length:Nat):Int))<|
  chk ((n7+2)<(r2.2).length)<|
  chk (((l8).length+1) *32<=140737488355328)<|
  chk (((n7:Int)+(3:Int))<=9223372036854775807)<|
  (jB r2 K1 k) ((n7+3),(l8++[(r9,r10,(r2.2.getD (n7+2) []))]))
  )else(
  K1 (1,(0:Int),l8)
  )
abbrev kP :List V:=[.i (0:Int),.i (0:Int),.nils]
abbrev f61z1 :List V:=[.i (1:Int),.i (0:Int),.own 6102]
abbrev f61z2 (x1:aaA):List (Nat×V):=[(0,.str x1),(2,.ptr 2 0),(6,.ptr 6 0)]
abbrev f61z3 (r2:Bool×List Ty1):aJ:=[(2,.cells 100 (kP)),(6,.cells 100 (kP)),(6001,bL 9 1 eS [] r2.2)]
abbrev f61z4 (x1:aaA) (r2:Bool×List Ty1):List (Nat×V):=[(0,.str x1),(2,.ptr 2 0),(4,.own 6001),(6,.ptr 6 0),(43,.bool (((r2.2.getD 0 [])==cs2)&&(((((r2.2).length%3):Nat):Int)==(1:Int))))]
abbrev f61z5 (x1:aaA):List (Nat×V):=[(0,.str x1),(2,.ptr 2 0),(4,.own 6001),(6,.ptr 6 0),(7,.i (1:Int))]
abbrev f61z6 :=([106,111,105,110]:aaA)
abbrev f61z7 (r2:Bool×List Ty1) (l8:List Tq0) (r9 r10:Int) (n7:Nat):aJ:=[(2,.cells 100 (kP)),(6,.cells 100 (f61z1)),(6001,bL 9 1 eS [] r2.2),(6102,bL 88 3 bX (default:Tq0) (l8++[(r9,r10,(r2.2.getD (n7+2) []))]))]
abbrev f61z8 (r2:Bool×List Ty1):aJ:=[(2,.cells 100 (kP)),(6,.cells 100 [.i (1:Int),.i (0:Int),.nils]),(6001,bL 9 1 eS [] r2.2)]
abbrev f61z9 (n3:Nat) (i4:Int):List V:=[.i (n3:Int),.i i4,.own 6102]
abbrev aAF (n3:Nat) (i4:Int) (l5:List Tq0):List V:=[.i (n3:Int),.i i4,vL 3 bX (default:Tq0) l5]
abbrev f61z11 (x1:aaA) (n7:Nat):List (Nat×V):=[(0,.str x1),(2,.ptr 2 0),(4,.own 6001),(6,.ptr 6 0),(7,.i (n7:Int))]
abbrev aAE :List (Nat×V):=[(2,.ptr 2 0),(3,.i (2:Int))]
abbrev f61z13 :List (Nat×V):=[(2,.ptr 2 0),(3,.i (0:Int))]
abbrev aAD (r11:Int):=((r11 !=(0:Int))==false)
def f61 (x1:aaA):Option (Int×Int×Ty4×Int):=
 (f81 x1).bind fun r2=>
 if((!r2.1)||((((r2.2).length:Nat):Int)==(0:Int)))then(
 some ((0:Int),(0:Int),[],(2:Int))
 )else(
 jn (fun((n3,i4,l5):Nat×Int×Ty4)=>
 (f64 (n3:Int) i4 l5).bind fun r11=>
 gB ((r11 !=(0:Int))==false) (f65 (n3:Int) i4 l5) fun r12=>
 if((r11 !=(0:Int))||(!(r12==x1)))then(
 some ((0:Int),(0:Int),[],(2:Int))
 )else(
 some ((n3:Int),i4,l5,(0:Int))
 )
 ) fun(K1:(Nat×Int×Ty4)->Option (Int×Int×Ty4×Int))=>
 chk ((0:Int)<(((r2.2).length:Nat):Int))<|
 chk (0<(r2.2).length)<|
 if((r2.2.getD 0 [])==cs1)then(
 K1 (3,(0:Int),[])
 )else(
 chk ((0:Int)<(((r2.2).length:Nat):Int))<|
 chk (0<(r2.2).length)<|
 if(((r2.2.getD 0 [])==([106,111,105,110]:aaA))&&((((r2.2).length:Nat):Int)==(2:Int)))then(
 (f82 (r2.2.getD 1 [])).bind fun r6=>
 chk ((1:Int)<(((r2.2).length:Nat):Int))<|
 chk (1<(r2.2).length)<|
 K1 (2,r6,[])
 )else(
 chk ((0:Int)<(((r2.2).length:Nat):Int))<|
 chk (0<(r2.2).length)<|
 chk ((((r2.2.getD 0 [])==cs2)==true)=true->0<=(((r2.2).length:Nat):Int)/\1<=(3:Int))<|
 if(((r2.2.getD 0 [])==cs2)&&(((((r2.2).length%3):Nat):Int)==(1:Int)))then(
 jB r2 K1 bB (1,[])
 )else(
 K1 (0,(0:Int),[])
 )
 )
 )
 )
theorem f61_ok (x1:aaA) (r:Int×Int×Ty4×Int) (h:f61 x1=some r):aE Tryz.prog 61 [] [] [] [.str x1] (.tup [.agg [.i r.1,.i r.2.1,vL 3 bX (default:Tq0) r.2.2.1],.i r.2.2.2]) []:=by
 unfold f61 at h;refine aE.bodyD [2] 0 _ _ Tryz.func61 rfl Tryz.ntmps61 rfl rfl ?_;refine aN [] [] [0,2] [2] trivial ?_;refine aaE ?_;obtain⟨r2,hr2,h⟩:=bind_ok h;refine bG [] [(1,⟨[.str x1],[],[],[(6001,aK r2.2)],.tup [.own 6001,.bool r2.1],[6001],[],[]⟩)] [0,2,4,5] [2,6001] (an1 (cpT (aE.ren (aT 3000 6001) (aD 3000 6001) rfl (f81_ok _ _ hr2)))) ?_;refine tN (aaE (aaE (bG [] [] [0,2,4,19] [2,6001] (an3 (an1 (idA (((!r2.1)==false)=true))) (an1 (idA (((!r2.1)==false)=true))) (bqA (!r2.1) false)) ?_)));refine tN (cK ((!r2.1)||((lZ r2.2)==(0:Int))) (fun hc1=> ?_) fun hc1=> ?_)
 ·replace h:=aF hc1 h;refine bJ [] [] ⟨94,(aAE),[(2,.cells 100 (kP))],[],0⟩ (an1 trivial) ?_;obtain rfl:=aaD h;refine aaX (acZ (s':=⟨94,(aAE),[(2,.cells 100 [.i (0:Int),.i (0:Int),bC []])],[],0⟩) rfl rfl ⟨.refl _,.refl _,trivial⟩ ⟨⟨_,rfl,(.cellsL ⟨.refl _,.refl _,.nilL,trivial⟩)⟩,trivial⟩) ?_;refine aaG (tR ?_);exact bD
 ·replace h:=aG hc1 h;refine aaF (tN (aN [] [] [0,2,4,6] [2,6,6001] trivial ?_));obtain⟨K1,hK1,h⟩:=aO h;refine aaU (fun(x:Nat×Int×Ty4)=>match x with|(n3,i4,l5)=>⟨94,(f61z2 x1),[(2,.cells 100 (kP)),(6,.cells 100 (f61z9 n3 i4)),(6102,aM l5)],[],0⟩) (fun x=>K1 x=some r) ?_ ?_
  ·refine aaJ (aaE ?_);obtain⟨ob3p,h⟩:=aB h;have ob3:0<=(0:Int)/\(0:Int)<(((r2.2).length:Nat):Int):=⟨by omega,ob3p⟩;obtain⟨ob4,h⟩:=aB h;refine bG [] [] [0,2,4,6,21] [2,6,6001] (an2 ob3 ob4) ?_;refine tN (cK ((r2.2.getD 0 [])==cs1) (fun hc2=> ?_) fun hc2=> ?_)
   ·replace h:=aF hc2 h;refine bH [] [] ⟨94,(f61z2 x1),[(2,.cells 100 (kP)),(6,.cells 100 [.i (3:Int),.i (0:Int),.nils])],[],0⟩ (an1 trivial) ?_;refine kN ?_;exact jN (3,(0:Int),[]) (aaL (aaL (Le.nilOwnC 6 2 6102 88 3 (cE bX aZ []) rfl rfl rfl) (LR (s':=⟨94,(f61z2 x1),[(2,.cells 100 (kP)),(6,.cells 100 [.i (3:Int),.i (0:Int),.own 6102]),(6102,aM [])],[],0⟩))) LR) h
   ·replace h:=aG hc2 h;refine aaE ?_;obtain⟨ob5p,h⟩:=aB h;have ob5:0<=(0:Int)/\(0:Int)<(((r2.2).length:Nat):Int):=⟨by omega,ob5p⟩;obtain⟨ob6,h⟩:=aB h;refine bG [] [] [0,2,4,6,27] [2,6,6001] (an5 ob5 ob6 (an1 (idA ((((r2.2.getD 0 [])==(f61z6))==true)=true))) (an1 (idA ((((r2.2.getD 0 [])==(f61z6))==true)=true))) (bqA ((r2.2.getD 0 [])==(f61z6)) true)) ?_;refine tN (cK (((r2.2.getD 0 [])==(f61z6))&&((lZ r2.2)==(2:Int))) (fun hc3=> ?_) fun hc3=> ?_)
    ·replace h:=aF hc3 h;obtain⟨r6,hr6,h⟩:=bind_ok h;obtain⟨ob10p,h⟩:=aB h;have ob10:0<=(1:Int)/\(1:Int)<(((r2.2).length:Nat):Int):=⟨by omega,ob10p⟩;obtain⟨ob11,h⟩:=aB h;refine bH [] [(3,⟨[.str (r2.2.getD 1 [])],[],[],[],.i r6,[],[],[]⟩)] ⟨94,(f61z2 x1),[(2,.cells 100 (kP)),(6,.cells 100 [.i (2:Int),.i r6,.nils])],[],0⟩ (an5 ob10 ob11 (cpT (f82_ok _ _ hr6)) trivial trivial) ?_;refine kN ?_;exact jN (2,r6,[]) (aaL (aaL (Le.nilOwnC 6 2 6102 88 3 (cE bX aZ []) rfl rfl rfl) (LR (s':=⟨94,(f61z2 x1),[(2,.cells 100 (kP)),(6,.cells 100 [.i (2:Int),.i r6,.own 6102]),(6102,aM [])],[],0⟩))) LR) h
    ·replace h:=aG hc3 h;refine aaE ?_;obtain⟨ob12p,h⟩:=aB h;have ob12:0<=(0:Int)/\(0:Int)<(((r2.2).length:Nat):Int):=⟨by omega,ob12p⟩;obtain⟨ob13,h⟩:=aB h;obtain⟨ob15,h⟩:=aB h;refine bH [] [] ⟨94,(f61z4 x1 r2),(f61z3 r2),[],0⟩ (an6 ob12 ob13 (an1 (idA ((((r2.2.getD 0 [])==cs2)==true)=true))) (aaM ob15 (an1 (idA ((((r2.2.getD 0 [])==cs2)==true)=true)))) (an1 (idA ((((r2.2.getD 0 [])==cs2)==true)=true))) (bqA ((r2.2.getD 0 [])==cs2) true)) ?_;refine tN (cK (((r2.2.getD 0 [])==cs2)&&(((((r2.2).length%3):Nat):Int)==(1:Int))) (fun hc4=> ?_) fun hc4=> ?_)
     ·replace h:=aF hc4 h;refine aN [] [] [0,2,4,6] [2,6,6001] (an1 trivial) ?_;refine bJ [] [] ⟨94,(f61z5 x1),(f61z8 r2),[],0⟩ trivial ?_;refine aaJ (abI (α:=Nat×(Nat×Ty4)) (fun x=>match x with|(_,n7,l8)=>⟨94,(f61z11 x1 n7),[(2,.cells 100 (kP)),(6,.cells 100 (f61z1)),(6001,aK r2.2),(6102,aM l8)],[],0⟩) (fun x=>jB r2 K1 x.1 x.2=some r) (fun x=>x.1) (bB,1,[]) (aaL (aaL (Le.nilOwnC 6 2 6102 88 3 (cE bX aZ []) rfl rfl rfl) (LR (s':=⟨94,(f61z5 x1),[(2,.cells 100 (kP)),(6,.cells 100 (f61z1)),(6001,aK r2.2),(6102,aM [])],[],0⟩))) LR) h ?_)
      rintro⟨k0,n7,l8⟩ h
      cases k0 with
      |zero=>exact nEx h
      |succ k0=>
      obtain⟨C0,hC0⟩:∃C,C=jB r2 K1 k0:=⟨_,rfl⟩;replace h:=(jB.eq_2 ..).symm.trans h
      try rw[<-hC0]at h
      refine aaE (aN [] [] [0,2,4,6,7,58] [2,6,6001,6102] trivial ?_);refine cK (decide ((n7:Int)<(lZ r2.2))) (fun hc5=> ?_) fun hc5=> ?_
      ·replace h:=aF hc5 h;refine aaF (tN (aaE (aaJ ?_)));obtain⟨r9,hr9,h⟩:=bind_ok h;obtain⟨r10,hr10,h⟩:=bind_ok h;obtain⟨ob19p,h⟩:=aB h;obtain⟨ob20,ob21p,h⟩:=ck2 h;obtain⟨ob22p,h⟩:=aB h;have ob22:0<=(((n7+1):Nat):Int)/\(((n7+1):Nat):Int)<(((r2.2).length:Nat):Int):=⟨by omega,ob22p⟩;obtain⟨ob23,ob24p,h⟩:=ck2 h;have ob24: -9223372036854775808<=((n7:Int)+(2:Int))/\((n7:Int)+(2:Int))<=9223372036854775807:=⟨by omega,ob24p⟩;obtain⟨ob25p,h⟩:=aB h;have ob25:0<=(((n7+2):Nat):Int)/\(((n7+2):Nat):Int)<(((r2.2).length:Nat):Int):=⟨by omega,ob25p⟩;obtain⟨ob26,ob27,h⟩:=ck2 h;refine bH [] [(6,⟨[.str (r2.2.getD n7 [])],[],[],[],.i r9,[],[],[]⟩),(12,⟨[.str (r2.2.getD (n7+1) [])],[],[],[],.i r10,[],[],[]⟩)] ⟨94,(f61z11 x1 n7),[(2,.cells 100 (kP)),(6,.cells 100 (f61z1)),(6001,aK r2.2),(6102,.rows 88 3 ((l8).length+1) (gK (l8).length (cE bX aZ l8) (dN 3 [.i r9,.i r10,.str (r2.2.getD (n7+2) [])])))],[],0⟩ (ac6 (iN ob19p) ob20 (cpT (f82_ok _ _ hr9)) (iP ob21p) ob22 ob23 (an6 (cpT (f82_ok _ _ hr10)) ob24 ob25 ob26 ob27 trivial)) ?_;refine kN (tN (aaX (acZ (s':=⟨94,(f61z11 x1 n7),(f61z7 r2 l8 r9 r10 n7),[],0⟩) rfl rfl ⟨.refl _,.refl _,.refl _,.refl _,.refl _,trivial⟩ ⟨⟨_,rfl,.refl _⟩,⟨_,rfl,.refl _⟩,⟨_,rfl,.refl _⟩,⟨_,rfl,(acK (adQ (acX _) (acV (enc:=bX) [(r9,r10,(r2.2.getD (n7+2) []))] rfl rfl (fun _=>rfl))))⟩,trivial⟩) ?_));obtain⟨ob28p,h⟩:=aB h;have ob28: -9223372036854775808<=((n7:Int)+(3:Int))/\((n7:Int)+(3:Int))<=9223372036854775807:=⟨by omega,ob28p⟩;refine bG [] [] [0,2,4,6,7] [2,6,6001,6102] (an1 ob28) ?_;rw[hC0]at h;exact lN (_,(n7+3),(l8++[(r9,r10,(r2.2.getD (n7+2) []))])) LR h (aaK _)
      ·replace h:=aG hc5 h;refine abK (tE (tE (kS (kN ?_))));exact jN (1,(0:Int),l8) LR h
     ·replace h:=aG hc4 h;refine aaF (kN ?_);exact jN (0,(0:Int),[]) (aaL (aaL (Le.nilOwnC 6 2 6102 88 3 (cE bX aZ []) rfl rfl rfl) (LR (s':=⟨94,(f61z4 x1 r2),[(2,.cells 100 (kP)),(6,.cells 100 [.i (0:Int),.i (0:Int),.own 6102]),(6001,aK r2.2),(6102,aM [])],[],0⟩))) LR) h
  ·rintro⟨n3,i4,l5⟩ h;replace h:=(congrFun hK1 _).symm.trans h;refine aaE (aaE ?_);obtain⟨r11,hr11,h⟩:=bind_ok h;obtain⟨r12,hr12,h⟩:=cF h;have ob32:true=true->(r11 !=(0:Int))=false->(aAD r11)=true:=fun _ h=>beq_iff_eq.2 h;refine bG [] [(1,⟨[.agg (aAF n3 i4 l5)],[],[],[],.i r11,[],[6102],[]⟩),(5,⟨[.agg (aAF n3 i4 l5)],[],[],[],.str r12,[],[6102],[]⟩)] [2,6,91] [2,6,6102] (an4 (cpL (c:=true) [(6102,aM l5)] [6102] [.agg (f61z9 n3 i4)] (fun _=>(f64_ok _ _ _ _ hr11)) (fun _=>⟨.refl _,trivial⟩) (.inr ⟨rfl,trivial⟩)) (aaM (cpL [(6102,aM l5)] [6102] [.agg (f61z9 n3 i4)] (fun hc=>(f65_ok _ _ _ _ (hr12 hc))) (fun _=>⟨.refl _,trivial⟩) (.inr ⟨rfl,trivial⟩)) (an1 (idA ((aAD r11)=true)))) (an2 (idA ((aAD r11)=true)) (idA ((aAD r11)=true))) ob32) ?_;refine tN (cK ((r11 !=(0:Int))||(!(r12==x1))) (fun hc6=> ?_) fun hc6=> ?_)
   ·replace h:=aF hc6 h;refine bJ [] [] ⟨94,(aAE),[(2,.cells 100 (kP))],[],0⟩ (an1 trivial) ?_;obtain rfl:=aaD h;refine aaX (acZ (s':=⟨94,(aAE),[(2,.cells 100 [.i (0:Int),.i (0:Int),bC []])],[],0⟩) rfl rfl ⟨.refl _,.refl _,trivial⟩ ⟨⟨_,rfl,(.cellsL ⟨.refl _,.refl _,.nilL,trivial⟩)⟩,trivial⟩) ?_;refine aaG (tR ?_);exact bD
   ·replace h:=aG hc6 h;refine aaF (tN (bJ [] [] ⟨94,(f61z13),[(2,.cells 100 (f61z9 n3 i4)),(6102,aM l5)],[],0⟩ (an1 trivial) ?_));refine aaX (aaL (aeU 6102 rfl rfl) (LR (s':=⟨94,(f61z13),[(2,.cells 100 (aAF n3 i4 l5))],[],0⟩))) ?_;obtain rfl:=aaD h;refine aaX (LR (s':=⟨94,(f61z13),[(2,.cells 100 (aAF n3 i4 l5))],[],0⟩)) ?_;refine aaG ?_;exact bD
def fC (x2:List Tq0) (x3:Int) (K1:Unit->Option (Int×Int×aaA×Bool)):Nat->Nat->Option (Int×Int×aaA×Bool)
 |0,_=>none
 |k+1,n4=>
  if(decide ((n4:Int)<(((x2).length:Nat):Int)))then(
  chk ((n4:Int)<(((x2).length:Nat):Int))<|
  if((x2.getD n4 (default:Tq0)).1==x3)then(
  chk ((n4:Int)<(((x2).length:Nat):Int))<|
  some ((x2.getD n4 (default:Tq0)).1,(x2.getD n4 (default:Tq0)).2.1,(x2.getD n4 (default:Tq0)).2.2,true)
  )else(
  chk (((n4:Int)+(1:Int))<=9223372036854775807)<|
  (fC x2 x3 K1 k) (n4+1)
  )
  )else(
  K1 ()
  )
abbrev f83z0 (x1:List Tq2) (x2:List Tq0):aJ:=[(2,.cells 92 [vL 3 cH (default:Tq2) x1,vL 3 bX (default:Tq0) x2]),(4,.cells 160 [.i (0:Int),.i (0:Int),.str []])]
abbrev f83z1 :aJ:=[(4,.cells 160 [.i (0:Int),.i (0:Int),.str []])]
abbrev f83z2 (x2:List Tq0) (n4:Nat):=(x2.getD n4 (default:Tq0))
def f83 (x1:List Tq2) (x2:List Tq0) (x3:Int):Option (Int×Int×aaA×Bool):=
 jn (fun(_:Unit)=>
 some ((0:Int),(0:Int),[],false)
 ) fun(K1:Unit->Option (Int×Int×aaA×Bool))=>
 fC x2 x3 K1 bB 0
theorem f83_ok (x1:List Tq2) (x2:List Tq0) (x3:Int) (r:Int×Int×aaA×Bool) (h:f83 x1 x2 x3=some r):aE Tryz.prog 83 [] [] [] [.agg [vL 3 cH (default:Tq2) x1,vL 3 bX (default:Tq0) x2],.i x3] (.tup [.agg [.i r.1,.i r.2.1,.str r.2.2.1],.bool r.2.2.2]) []:=by
 unfold f83 at h;refine aE.bodyD [4] 0 _ _ Tryz.func83 rfl Tryz.ntmps83 rfl rfl ?_;refine aN [] [] [1,2,4] [2,4] trivial ?_;obtain⟨K1,hK1,h⟩:=aO h;refine aaU (fun(x:Unit)=>match x with|()=>⟨28,[(4,.ptr 4 0)],(f83z1),[],0⟩) (fun x=>K1 x=some r) ?_ ?_
 ·refine bJ [] [] ⟨28,[(1,.i x3),(2,.ptr 2 0),(4,.ptr 4 0),(6,.i (0:Int))],(f83z0 x1 x2),[],0⟩ trivial ?_;refine aaJ (abI (α:=Nat×Nat) (fun x=>match x with|(_,n4)=>⟨28,[(1,.i x3),(2,.ptr 2 0),(4,.ptr 4 0),(6,.i (n4:Int))],(f83z0 x1 x2),[],0⟩) (fun x=>fC x2 x3 K1 x.1 x.2=some r) (fun x=>x.1) (bB,0) LR h ?_)
  rintro⟨k0,n4⟩ h
  cases k0 with
  |zero=>exact nEx h
  |succ k0=>
  obtain⟨C0,hC0⟩:∃C,C=fC x2 x3 K1 k0:=⟨_,rfl⟩;replace h:=(fC.eq_2 ..).symm.trans h
  try rw[<-hC0]at h
  refine aaE (aN [] [] [1,2,4,6,11] [2,4] trivial ?_);refine cK (decide ((n4:Int)<(lZ x2))) (fun hc1=> ?_) fun hc1=> ?_
  ·replace h:=aF hc1 h;refine aaF (tN (aaE (aaJ (aaE ?_))));obtain⟨ob0p,h⟩:=aB h;refine bH [] [] ⟨28,[(1,.i x3),(2,.ptr 2 0),(4,.ptr 4 0),(6,.i (n4:Int)),(21,.bool ((f83z2 x2 n4).1==x3))],(f83z0 x1 x2),[],0⟩ (an1 (iN ob0p)) ?_;refine tN (cK ((f83z2 x2 n4).1==x3) (fun hc2=> ?_) fun hc2=> ?_)
   ·replace h:=aF hc2 h;refine aaE ?_;obtain⟨ob1p,h⟩:=aB h;refine bG [] [] [4,5] [4] (an2 (iN ob1p) trivial) ?_;refine tN ?_;obtain rfl:=aaD h;refine aaG (kR (tR (tR (kR (aS ?_)))));exact bD
   ·replace h:=aG hc2 h;refine aaF (kN (tN ?_));obtain⟨ob2p,h⟩:=aB h;refine bH [] [] ⟨28,[(1,.i x3),(2,.ptr 2 0),(4,.ptr 4 0),(6,.i (((n4+1):Nat):Int))],(f83z0 x1 x2),[],0⟩ (an1 (iP ob2p)) ?_;rw[hC0]at h;exact lN (_,(n4+1)) LR h (aaK _)
  ·replace h:=aG hc1 h;refine abK (tE (tE (kS ?_)));exact jN () LR h
 ·rintro⟨⟩ h;replace h:=(congrFun hK1 _).symm.trans h;refine aN [] [] [4,5] [4] (an1 trivial) ?_;obtain rfl:=aaD h;refine aaG ?_;exact bD
def gX (x1:aaA) (K1:(List Ty1)->Option (List Ty1)):Nat->(Nat×Nat×List Ty1)->Option (List Ty1)
 |0,_=>none
 |k+1,(n2,n3,l4)=>
  if(decide ((n3:Int)<=((x1.length:Nat):Int)))then(
  jn (fun((n5,l6):Nat×List Ty1)=>
  chk (((n3:Int)+(1:Int))<=9223372036854775807)<|
  (gX x1 K1 k) (n5,(n3+1),l6)
  ) fun(K2:(Nat×List Ty1)->Option (List Ty1))=>
  chk ((((n3:Int)==((x1.length:Nat):Int))==false)=true->0<=(n3:Int)/\(n3:Int)<((x1.length:Nat):Int))<|
  if(((n3:Int)==((x1.length:Nat):Int))||((((x1.getD n3 0).toNat:Nat):Int)==(32:Int)))then(
  chk ((n2:Int)<=(n3:Int)/\(n3:Int)<=((x1.length:Nat):Int))<|
  chk (((l4).length+1) *16<=140737488355328)<|
  chk (((n3:Int)+(1:Int))<=9223372036854775807)<|
  K2 ((n3+1),(l4++[((x1.take n3).drop n2)]))
  )else(
  K2 (n2,l4)
  )
  )else(
  K1 l4
  )
def f113 (x1:aaA):Option (List Ty1):=
 jn (fun(l7:List Ty1)=>
 some l7
 ) fun(K1:(List Ty1)->Option (List Ty1))=>
 gX x1 K1 bB (0,0,[])
theorem f113_ok (x1:aaA) (r:List Ty1) (h:f113 x1=some r):aE Tryz.prog 113 [] [] [] [.str x1] (.own 3000) [(3000,bL 9 1 eS [] r)]:=by
 unfold f113 at h;refine aE.body 0 _ _ Tryz.func113 rfl Tryz.ntmps113 rfl rfl ?_;refine aN [] [] [0] [] trivial ?_;refine aN [] [] [0,3] [] trivial ?_;refine bJ [] [] ⟨32,[(0,.str x1),(3,.nils),(4,.i (0:Int))],[],[],0⟩ trivial ?_;obtain⟨K1,hK1,h⟩:=aO h;refine aaU (α:=List Ty1) (fun(l7:List Ty1)=>⟨32,[(3,.own 5003)],[(5003,aK l7)],[],0⟩) (fun x=>K1 x=some r) ?_ ?_
 ·refine bJ [] [] ⟨32,[(0,.str x1),(3,.nils),(4,.i (0:Int)),(5,.i (0:Int))],[],[],0⟩ trivial ?_;refine aaJ (abI (α:=Nat×(Nat×Nat×List Ty1)) (fun x=>match x with|(_,n2,n3,l4)=>⟨32,[(0,.str x1),(3,.own 5003),(4,.i (n2:Int)),(5,.i (n3:Int))],[(5003,aK l4)],[],0⟩) (fun x=>gX x1 K1 x.1 x.2=some r) (fun x=>x.1) (bB,0,0,[]) (aaL (aaL (adM 3 5003 9 1 (cE eS [] []) rfl rfl (aaW rfl)) (LR (s':=⟨32,[(0,.str x1),(3,.own 5003),(4,.i (0:Int)),(5,.i (0:Int))],[(5003,aK [])],[],0⟩))) LR) h ?_)
  rintro⟨k0,n2,n3,l4⟩ h
  cases k0 with
  |zero=>exact nEx h
  |succ k0=>
  obtain⟨C0,hC0⟩:∃C,C=gX x1 K1 k0:=⟨_,rfl⟩;replace h:=(gX.eq_2 ..).symm.trans h
  try rw[<-hC0]at h
  refine aaE (aN [] [] [0,3,4,5,9] [5003] trivial ?_);refine cK (decide ((n3:Int)<=(lZ x1))) (fun hc1=> ?_) fun hc1=> ?_
  ·replace h:=aF hc1 h;refine aaF (tN ?_);obtain⟨K2,hK2,h⟩:=aO h;refine aaU (fun(x:Nat×List Ty1)=>match x with|(n5,l6)=>⟨32,[(0,.str x1),(3,.own 28),(4,.i (n5:Int)),(5,.i (n3:Int))],[(28,aK l6)],[],0⟩) (fun x=>K2 x=some r) ?_ ?_
   ·refine aaJ (aaE ?_);obtain⟨ob0,h⟩:=aB h;refine bH [] [] ⟨32,[(0,.str x1),(3,.own 5003),(4,.i (n2:Int)),(5,.i (n3:Int)),(21,.bool (((n3:Int)==(lZ x1))||((((x1.getD n3 0).toNat:Nat):Int)==(32:Int))))],[(5003,aK l4)],[],0⟩ (an3 (aaM ob0 (an2 (idA ((((n3:Int)==(lZ x1))==false)=true)) (idA ((((n3:Int)==(lZ x1))==false)=true)))) (an1 (idA ((((n3:Int)==(lZ x1))==false)=true))) (bqA ((n3:Int)==(lZ x1)) false)) ?_;refine tN (cK (((n3:Int)==(lZ x1))||((((x1.getD n3 0).toNat:Nat):Int)==(32:Int))) (fun hc2=> ?_) fun hc2=> ?_)
    ·replace h:=aF hc2 h;refine aaE ?_;obtain⟨ob5p,h⟩:=aB h;have ob5:0<=(n2:Int)/\(n2:Int)<=(n3:Int)/\(n3:Int)<=((x1.length:Nat):Int):=⟨by omega,ob5p.1,ob5p.2⟩;obtain⟨ob6,h⟩:=aB h;refine bH [] [] ⟨32,[(0,.str x1),(3,.own 5003),(5,.i (n3:Int))],[(5003,.rows 9 1 ((l4).length+1) (gK (l4).length (cE eS [] l4) (dN 1 [.str ((x1.take n3).drop n2)])))],[],0⟩ (an2 ob5 ob6) ?_;refine tN (aaX (acZ (s':=⟨32,[(0,.str x1),(3,.own 5003),(5,.i (n3:Int))],[(5003,aK (l4++[((x1.take n3).drop n2)]))],[],0⟩) rfl rfl ⟨.refl _,.refl _,.refl _,trivial⟩ ⟨⟨_,rfl,(acK (adQ (acX _) (acV (enc:=eS) [((x1.take n3).drop n2)] rfl rfl (fun _=>rfl))))⟩,trivial⟩) ?_);obtain⟨ob7p,h⟩:=aB h;refine bH [] [] ⟨32,[(0,.str x1),(3,.own 5003),(4,.i (((n3+1):Nat):Int)),(5,.i (n3:Int))],[(5003,aK (l4++[((x1.take n3).drop n2)]))],[],0⟩ (an1 (iP ob7p)) ?_;refine kN ?_;exact jN ((n3+1),(l4++[((x1.take n3).drop n2)])) (aaL (aaL (acQ (aT 5003 28) (aD 5003 28) rfl) (LR (s':=⟨32,[(0,.str x1),(3,.own 28),(4,.i (((n3+1):Nat):Int)),(5,.i (n3:Int))],[(28,aK (l4++[((x1.take n3).drop n2)]))],[],0⟩))) LR) h
    ·replace h:=aG hc2 h;refine aaF (kN ?_);exact jN (n2,l4) (aaL (aaL (acQ (aT 5003 28) (aD 5003 28) rfl) (LR (s':=⟨32,[(0,.str x1),(3,.own 28),(4,.i (n2:Int)),(5,.i (n3:Int)),(21,.bool (((n3:Int)==(lZ x1))||((((x1.getD n3 0).toNat:Nat):Int)==(32:Int))))],[(28,aK l4)],[],0⟩))) LR) h
   ·rintro⟨n5,l6⟩ h;replace h:=(congrFun hK2 _).symm.trans h;obtain⟨ob8p,h⟩:=aB h;refine bH [] [] ⟨32,[(0,.str x1),(3,.own 28),(4,.i (n5:Int)),(5,.i (((n3+1):Nat):Int))],[(28,aK l6)],[],0⟩ (an1 (iP ob8p)) ?_;rw[hC0]at h;exact lN (_,n5,(n3+1),l6) (aaL (aaL (acQ (aT 28 5003) (aD 28 5003) rfl) (LR (s':=⟨32,[(0,.str x1),(3,.own 5003),(4,.i (n5:Int)),(5,.i (((n3+1):Nat):Int))],[(5003,aK l6)],[],0⟩))) LR) h (aaK _)
  ·replace h:=aG hc1 h;refine abK (tE (tE (kS ?_)));exact jN (l4) LR h
 ·rintro l7 h;replace h:=(congrFun hK1 _).symm.trans h;refine bJ [] [] ⟨32,[(2,.own 5003)],[(5003,aK l7)],[],0⟩ trivial ?_;refine aaX (aaL (acQ (aT 5003 3000) (aD 5003 3000) rfl) (LR (s':=⟨32,[(2,.own 3000)],[(3000,aK l7)],[],0⟩))) ?_;obtain rfl:=aaD h;refine aaX (LR (s':=⟨32,[(2,.own 3000)],[(3000,aK l7)],[],0⟩)) ?_;refine aaG ?_;exact bK
abbrev aA5 :=([112,117,116]:aaA)
abbrev aA4 :=([103,101,116]:aaA)
abbrev aA3 :=([99,97,115]:aaA)
def f114 (x1:Int):Option Ty1:=
 if((decide (x1<(1:Int)))||(decide (x1>(6:Int))))then(
 some []
 )else(
 chk (-9223372036854775808<=(x1-(1:Int))/\(x1-(1:Int))<=9223372036854775807)<|
 chk (0<=(x1-(1:Int))/\(x1-(1:Int))<(6:Int))<|
 chk ((((x1-(1:Int))).toNat)<6)<|
 some (([([112,117,116]:aaA),([103,101,116]:aaA),cs6,cs7,([99,97,115]:aaA),cs8]:List Ty1).getD (((x1-(1:Int))).toNat) [])
 )
theorem zO (x1:Int) (r:aaA) (h:f114 x1=some r):aE Tryz.prog 114 [] [] [] [.i x1] (.str r) []:=by
 unfold f114 at h;refine aE.body 0 _ _ Tryz.func114 rfl Tryz.ntmps114 rfl rfl ?_;refine aN [] [] [0] [] trivial ?_;refine aaE (aaE (bG [] [] [0,8] [] (an2 (an1 (idA (((decide (x1<(1:Int)))==false)=true))) (bqA (decide (x1<(1:Int))) false)) ?_));refine tN (cK ((decide (x1<(1:Int)))||(decide (x1>(6:Int)))) (fun hc1=> ?_) fun hc1=> ?_)
 ·replace h:=aF hc1 h;refine bJ [] [] ⟨14,[(2,.str [])],[],[],0⟩ trivial ?_;obtain rfl:=aaD h;refine aaG (tR ?_);exact bK
 ·replace h:=aG hc1 h;refine aaF (tN (aaE ?_));obtain⟨ob2,ob3,ob4,h⟩:=ck3 h;refine bG [] [(4,⟨[],[],[],[],.str (([(aA5),(aA4),cs6,cs7,(aA3),cs8]:List Ty1).getD (((x1-(1:Int))).toNat) []),[],[0],[]⟩)] [2] [] (an3 ob2 ob3 (aaM ob4 (show((dN 1 [.str (aA5),.str (aA4),.str cs6,.str cs7,.str (aA3),.str cs8]) (((x1-(1:Int))).toNat) 0:V)= .str (([(aA5),(aA4),cs6,cs7,(aA3),cs8]:List Ty1).getD (((x1-(1:Int))).toNat) [])from(lst_at eS [] 1 ([(aA5),(aA4),cs6,cs7,(aA3),cs8]:List Ty1) (fun _=>rfl) (show(((x1-(1:Int))).toNat)<6 from by assumption) (j:=0) (by decide))))) ?_;refine tN ?_;obtain rfl:=aaD h;refine aaG ?_;exact bK
def fF (x1:aaA) (K1:Unit->Option Bool):Nat->Nat->Option Bool
 |0,_=>none
 |k+1,n3=>
  if(decide ((n3:Int)<((x1.length:Nat):Int)))then(
  chk ((n3:Int)<((x1.length:Nat):Int))<|
  chk (((decide ((((x1.getD n3 0).toNat:Nat):Int)<(33:Int)))==false)=true->0<=(n3:Int)/\(n3:Int)<((x1.length:Nat):Int))<|
  if((decide ((((x1.getD n3 0).toNat:Nat):Int)<(33:Int)))||(decide ((((x1.getD n3 0).toNat:Nat):Int)>(126:Int))))then(
  some false
  )else(
  chk (((n3:Int)+(1:Int))<=9223372036854775807)<|
  (fF x1 K1 k) (n3+1)
  )
  )else(
  K1 ()
  )
theorem aBN (x1:aaA) (K1:Unit->Option Bool) (k n3:Nat):fF x1 K1 (k+1) n3=
  if(decide ((n3:Int)<((x1.length:Nat):Int)))then(
  chk ((n3:Int)<((x1.length:Nat):Int))<|
  chk (((decide ((((x1.getD n3 0).toNat:Nat):Int)<(33:Int)))==false)=true->0<=(n3:Int)/\(n3:Int)<((x1.length:Nat):Int))<|
  if((decide ((((x1.getD n3 0).toNat:Nat):Int)<(33:Int)))||(decide ((((x1.getD n3 0).toNat:Nat):Int)>(126:Int))))then(
  some false
  )else(
  chk (((n3:Int)+(1:Int))<=9223372036854775807)<|
  (fF x1 K1 k) (n3+1)
  )
  )else(
  K1 ()
  ):=rfl
def f178 (x1:aaA) (x2:Int):Option Bool:=
 jn (fun(_:Unit)=>
 some ((decide (((x1.length:Nat):Int)>=(1:Int)))&&(decide (((x1.length:Nat):Int)<=x2)))
 ) fun(K1:Unit->Option Bool)=>
 fF x1 K1 bB 0
theorem f178_ok (x1:aaA) (x2:Int) (r:Bool) (h:f178 x1 x2=some r):aE Tryz.prog 178 [] [] [] [.str x1,.i x2] (.bool r) []:=by
 unfold f178 at h;refine aE.body 0 _ _ Tryz.func178 rfl Tryz.ntmps178 rfl rfl ?_;refine aN [] [] [0,1] [] trivial ?_;obtain⟨K1,hK1,h⟩:=aO h;refine aaU (fun(x:Unit)=>match x with|()=>⟨31,[(0,.str x1),(1,.i x2)],[],[],0⟩) (fun x=>K1 x=some r) ?_ ?_
 ·refine bJ [] [] ⟨31,[(0,.str x1),(1,.i x2),(5,.i (0:Int))],[],[],0⟩ trivial ?_;refine aaJ (abI (α:=Nat×Nat) (fun x=>match x with|(_,n3)=>⟨31,[(0,.str x1),(1,.i x2),(5,.i (n3:Int))],[],[],0⟩) (fun x=>fF x1 K1 x.1 x.2=some r) (fun x=>x.1) (bB,0) LR h ?_)
  rintro⟨k0,n3⟩ h
  cases k0 with
  |zero=>exact nEx h
  |succ k0=>
  obtain⟨C0,hC0⟩:∃C,C=fF x1 K1 k0:=⟨_,rfl⟩;replace h:=(aBN ..).symm.trans h
  try rw[<-hC0]at h
  refine aaE (aN [] [] [0,1,5,9] [] trivial ?_);refine cK (decide ((n3:Int)<(lZ x1))) (fun hc1=> ?_) fun hc1=> ?_
  ·replace h:=aF hc1 h;refine aaF (tN (aaE (aaJ (aaE ?_))));obtain⟨ob0p,h⟩:=aB h;obtain⟨ob1,h⟩:=aB h;refine bH [] [] ⟨31,[(0,.str x1),(1,.i x2),(5,.i (n3:Int)),(21,.bool ((decide ((((x1.getD n3 0).toNat:Nat):Int)<(33:Int)))||(decide ((((x1.getD n3 0).toNat:Nat):Int)>(126:Int)))))],[],[],0⟩ (an4 (iN ob0p) (aaM ob1 (an2 (idA (((decide ((((x1.getD n3 0).toNat:Nat):Int)<(33:Int)))==false)=true)) (idA (((decide ((((x1.getD n3 0).toNat:Nat):Int)<(33:Int)))==false)=true)))) (an1 (idA (((decide ((((x1.getD n3 0).toNat:Nat):Int)<(33:Int)))==false)=true))) (bqA (decide ((((x1.getD n3 0).toNat:Nat):Int)<(33:Int))) false)) ?_;refine tN (cK ((decide ((((x1.getD n3 0).toNat:Nat):Int)<(33:Int)))||(decide ((((x1.getD n3 0).toNat:Nat):Int)>(126:Int)))) (fun hc2=> ?_) fun hc2=> ?_)
   ·replace h:=aF hc2 h;refine aN [] [] [4] [] trivial ?_;obtain rfl:=aaD h;refine aaG (kR (tR (tR (kR (aS ?_)))));exact bK
   ·replace h:=aG hc2 h;refine aaF (kN (tN ?_));obtain⟨ob6p,h⟩:=aB h;refine bH [] [] ⟨31,[(0,.str x1),(1,.i x2),(5,.i (((n3+1):Nat):Int))],[],[],0⟩ (an1 (iP ob6p)) ?_;rw[hC0]at h;exact lN (_,(n3+1)) LR h (aaK _)
  ·replace h:=aG hc1 h;refine abK (tE (tE (kS ?_)));exact jN () LR h
 ·rintro⟨⟩ h;replace h:=(congrFun hK1 _).symm.trans h;refine aaE (bG [] [] [4] [] (an3 (an1 (idA (((decide ((lZ x1)>=(1:Int)))==true)=true))) (an2 (idA (((decide ((lZ x1)>=(1:Int)))==true)=true)) (idA (((decide ((lZ x1)>=(1:Int)))==true)=true))) (bqA (decide ((lZ x1)>=(1:Int))) true)) ?_);refine tN ?_;obtain rfl:=aaD h;refine aaG ?_;exact bK
def f148 (x1:aaA):Option Bool:=
 (f178 x1 (64:Int)).bind fun r2=>
 some r2
theorem zH (x1:aaA) (r:Bool) (h:f148 x1=some r):aE Tryz.prog 148 [] [] [] [.str x1] (.bool r) []:=by
 unfold f148 at h;refine aE.body 0 _ _ Tryz.func148 rfl Tryz.ntmps148 rfl rfl ?_;refine aN [] [] [0] [] trivial ?_;refine aaE ?_;obtain⟨r2,hr2,h⟩:=bind_ok h;refine bH [] [(1,⟨[.str x1,.i (64:Int)],[],[],[],.bool r2,[],[],[]⟩)] ⟨5,[(2,.bool r2)],[],[],0⟩ (an1 (cpT (f178_ok _ _ _ hr2))) ?_;refine tN ?_;obtain rfl:=aaD h;refine aaG ?_;exact bK
abbrev fG (x1:Int):=(((x1==(1:Int))||(x1==(4:Int)))||(x1==(5:Int)))
abbrev cS (x1:Int) (r6:Bool):=(!((x1 !=(6:Int))==r6))
abbrev aA2 (x1:Int) (x2 x3 x4:aaA):aJ:=[(1,.cells 164 [.i x1,.str x2,.str x3,.str x4])]
abbrev eE (x1:Int) (r7:Bool):=(!((x1==(5:Int))==r7))
abbrev dE (x1:Int):=(!(x1 !=(6:Int)))
abbrev fO (x1:Int):=(!(x1==(5:Int)))
abbrev f115z6 (x1:Int):=(((x1==(1:Int))||(x1==(4:Int)))==false)
def f115 (x1:Int) (x2 x3 x4:aaA):Option (aaA×Int):=
 (f114 x1).bind fun r5=>
 gB ((r5==[])==false) (f148 x2) fun r6=>
 gB ((((r5==[])||(!((x1 !=(6:Int))==r6)))||((!(x1 !=(6:Int)))&&(!(x2==[]))))==false) (f148 x3) fun r7=>
 gB ((((((r5==[])||(!((x1 !=(6:Int))==r6)))||((!(x1 !=(6:Int)))&&(!(x2==[]))))||(!((x1==(5:Int))==r7)))||((!(x1==(5:Int)))&&(!(x3==[]))))==false) (f148 x4) fun r8=>
 chk ((((r5==[])||(!((x1 !=(6:Int))==r6)))==false)=true->(((r5==[])||(!((x1 !=(6:Int))==r6)))==false)=true->(!(x1 !=(6:Int)))=true->((((r5==[])||(!((x1 !=(6:Int))==r6)))==false)&&((!(x1 !=(6:Int)))==true))=true)<|
 chk ((((((r5==[])||(!((x1 !=(6:Int))==r6)))||((!(x1 !=(6:Int)))&&(!(x2==[]))))||(!((x1==(5:Int))==r7)))==false)=true->(((((r5==[])||(!((x1 !=(6:Int))==r6)))||((!(x1 !=(6:Int)))&&(!(x2==[]))))||(!((x1==(5:Int))==r7)))==false)=true->(!(x1==(5:Int)))=true->((((((r5==[])||(!((x1 !=(6:Int))==r6)))||((!(x1 !=(6:Int)))&&(!(x2==[]))))||(!((x1==(5:Int))==r7)))==false)&&((!(x1==(5:Int)))==true))=true)<|
 chk ((((((((r5==[])||(!((x1 !=(6:Int))==r6)))||((!(x1 !=(6:Int)))&&(!(x2==[]))))||(!((x1==(5:Int))==r7)))||((!(x1==(5:Int)))&&(!(x3==[]))))||(!((((x1==(1:Int))||(x1==(4:Int)))||(x1==(5:Int)))==r8)))==false)=true->(((((((r5==[])||(!((x1 !=(6:Int))==r6)))||((!(x1 !=(6:Int)))&&(!(x2==[]))))||(!((x1==(5:Int))==r7)))||((!(x1==(5:Int)))&&(!(x3==[]))))||(!((((x1==(1:Int))||(x1==(4:Int)))||(x1==(5:Int)))==r8)))==false)=true->(!(((x1==(1:Int))||(x1==(4:Int)))||(x1==(5:Int))))=true->((((((((r5==[])||(!((x1 !=(6:Int))==r6)))||((!(x1 !=(6:Int)))&&(!(x2==[]))))||(!((x1==(5:Int))==r7)))||((!(x1==(5:Int)))&&(!(x3==[]))))||(!((((x1==(1:Int))||(x1==(4:Int)))||(x1==(5:Int)))==r8)))==false)&&((!(((x1==(1:Int))||(x1==(4:Int)))||(x1==(5:Int))))==true))=true)<|
 if(((((((r5==[])||(!((x1 !=(6:Int))==r6)))||((!(x1 !=(6:Int)))&&(!(x2==[]))))||(!((x1==(5:Int))==r7)))||((!(x1==(5:Int)))&&(!(x3==[]))))||(!((((x1==(1:Int))||(x1==(4:Int)))||(x1==(5:Int)))==r8)))||((!(((x1==(1:Int))||(x1==(4:Int)))||(x1==(5:Int))))&&(!(x4==[]))))then(
 some ([],(1:Int))
 )else(
 (f114 x1).bind fun r9=>
 jn (fun(s10:aaA)=>
 jn (fun(s11:aaA)=>
 jn (fun(s12:aaA)=>
 some (s12,(0:Int))
 ) fun(K3:Ty1->Option (aaA×Int))=>
 if(((x1==(1:Int))||(x1==(4:Int)))||(x1==(5:Int)))then(
 chk (s11.length+([32]:aaA).length<=9223372036854775807)<|
 chk ((s11++([32]:aaA)).length+x4.length<=9223372036854775807)<|
 K3 ((s11++([32]:aaA))++x4)
 )else(
 K3 s11
 )
 ) fun(K2:Ty1->Option (aaA×Int))=>
 if(x1==(5:Int))then(
 chk (s10.length+([32]:aaA).length<=9223372036854775807)<|
 chk ((s10++([32]:aaA)).length+x3.length<=9223372036854775807)<|
 K2 ((s10++([32]:aaA))++x3)
 )else(
 K2 s10
 )
 ) fun(K1:Ty1->Option (aaA×Int))=>
 if(x1 !=(6:Int))then(
 chk (r9.length+([32]:aaA).length<=9223372036854775807)<|
 chk ((r9++([32]:aaA)).length+x2.length<=9223372036854775807)<|
 K1 ((r9++([32]:aaA))++x2)
 )else(
 K1 r9
 )
 )
theorem f115_ok (x1:Int) (x2 x3 x4:aaA) (r:aaA×Int) (h:f115 x1 x2 x3 x4=some r):aE Tryz.prog 115 [] [] [] [.agg [.i x1,.str x2,.str x3,.str x4]] (.tup [.str r.1,.i r.2]) []:=by
 unfold f115 at h;refine aE.body 0 _ _ Tryz.func115 rfl Tryz.ntmps115 rfl rfl ?_;refine aN [] [] [1] [1] trivial ?_;refine aN [] [] [1,4] [1] trivial ?_;refine aN [] [] [1,4,5] [1] trivial ?_;refine aaE ?_;have ob5:true=true->((x1==(1:Int))||(x1==(4:Int)))=false->(f115z6 x1)=true:=fun _ h=>beq_iff_eq.2 h;refine bG [] [] [1,4,5,6] [1] (an6 (an1 (idA (((x1==(1:Int))==false)=true))) (an1 (idA (((x1==(1:Int))==false)=true))) (bqA (x1==(1:Int)) false) (an1 (idA ((f115z6 x1)=true))) (an1 (idA ((f115z6 x1)=true))) ob5) ?_;refine tN (aaE (aaE ?_));obtain⟨r5,hr5,h⟩:=bind_ok h;obtain⟨r6,hr6,h⟩:=cF h;obtain⟨r7,hr7,h⟩:=cF h;obtain⟨r8,hr8,h⟩:=cF h;obtain⟨ob15,h⟩:=aB h;obtain⟨ob27,h⟩:=aB h;obtain⟨ob39,h⟩:=aB h;refine bG [] [(2,⟨[.i x1],[],[],[],.str r5,[],[],[]⟩),(8,⟨[.str x2],[],[],[],.bool r6,[],[],[]⟩),(24,⟨[.str x3],[],[],[],.bool r7,[],[],[]⟩),(40,⟨[.str x4],[],[],[],.bool r8,[],[],[]⟩)] [1,4,5,6,78] [1] (ac6 (cpT (zO _ _ hr5)) (an1 (idA (((r5==[])==false)=true))) (aaM (cpC fun hc=>(zH _ _ (hr6 hc))) (an1 (idA (((r5==[])==false)=true)))) (an2 (idA (((r5==[])==false)=true)) (idA (((r5==[])==false)=true))) (bqA (r5==[]) false) (an1 (idA ((((r5==[])||(cS x1 r6))==false)=true))) (ac6 (an1 (idA ((((r5==[])||(cS x1 r6))==false)=true))) (an1 (idA (((((r5==[])||(cS x1 r6))==false)&&((dE x1)==true))=true))) (an1 (idA (((((r5==[])||(cS x1 r6))==false)&&((dE x1)==true))=true))) (aaM ob15 (an1 (idA ((((r5==[])||(cS x1 r6))==false)=true)))) (bqA ((r5==[])||(cS x1 r6)) false) (an1 (idA (((((r5==[])||(cS x1 r6))||((dE x1)&&(!(x2==[]))))==false)=true))) (ac6 (aaM (cpC fun hc=>(zH _ _ (hr7 hc))) (an1 (idA (((((r5==[])||(cS x1 r6))||((dE x1)&&(!(x2==[]))))==false)=true)))) (an2 (idA (((((r5==[])||(cS x1 r6))||((dE x1)&&(!(x2==[]))))==false)=true)) (idA (((((r5==[])||(cS x1 r6))||((dE x1)&&(!(x2==[]))))==false)=true))) (bqA (((r5==[])||(cS x1 r6))||((dE x1)&&(!(x2==[])))) false) (an1 (idA ((((((r5==[])||(cS x1 r6))||((dE x1)&&(!(x2==[]))))||(eE x1 r7))==false)=true))) (an1 (idA ((((((r5==[])||(cS x1 r6))||((dE x1)&&(!(x2==[]))))||(eE x1 r7))==false)=true))) (an1 (idA (((((((r5==[])||(cS x1 r6))||((dE x1)&&(!(x2==[]))))||(eE x1 r7))==false)&&((fO x1)==true))=true))) (ac6 (an1 (idA (((((((r5==[])||(cS x1 r6))||((dE x1)&&(!(x2==[]))))||(eE x1 r7))==false)&&((fO x1)==true))=true))) (aaM ob27 (an1 (idA ((((((r5==[])||(cS x1 r6))||((dE x1)&&(!(x2==[]))))||(eE x1 r7))==false)=true)))) (bqA ((((r5==[])||(cS x1 r6))||((dE x1)&&(!(x2==[]))))||(eE x1 r7)) false) (an1 (idA (((((((r5==[])||(cS x1 r6))||((dE x1)&&(!(x2==[]))))||(eE x1 r7))||((fO x1)&&(!(x3==[]))))==false)=true))) (aaM (cpC fun hc=>(zH _ _ (hr8 hc))) (an1 (idA (((((((r5==[])||(cS x1 r6))||((dE x1)&&(!(x2==[]))))||(eE x1 r7))||((fO x1)&&(!(x3==[]))))==false)=true)))) (an2 (idA (((((((r5==[])||(cS x1 r6))||((dE x1)&&(!(x2==[]))))||(eE x1 r7))||((fO x1)&&(!(x3==[]))))==false)=true)) (idA (((((((r5==[])||(cS x1 r6))||((dE x1)&&(!(x2==[]))))||(eE x1 r7))||((fO x1)&&(!(x3==[]))))==false)=true))) (ac6 (bqA (((((r5==[])||(cS x1 r6))||((dE x1)&&(!(x2==[]))))||(eE x1 r7))||((fO x1)&&(!(x3==[])))) false) (an1 (idA ((((((((r5==[])||(cS x1 r6))||((dE x1)&&(!(x2==[]))))||(eE x1 r7))||((fO x1)&&(!(x3==[]))))||(!((fG x1)==r8)))==false)=true))) (an1 (idA ((((((((r5==[])||(cS x1 r6))||((dE x1)&&(!(x2==[]))))||(eE x1 r7))||((fO x1)&&(!(x3==[]))))||(!((fG x1)==r8)))==false)=true))) (an1 (idA (((((((((r5==[])||(cS x1 r6))||((dE x1)&&(!(x2==[]))))||(eE x1 r7))||((fO x1)&&(!(x3==[]))))||(!((fG x1)==r8)))==false)&&((!(fG x1))==true))=true))) (an1 (idA (((((((((r5==[])||(cS x1 r6))||((dE x1)&&(!(x2==[]))))||(eE x1 r7))||((fO x1)&&(!(x3==[]))))||(!((fG x1)==r8)))==false)&&((!(fG x1))==true))=true))) (aaM ob39 (an1 (idA ((((((((r5==[])||(cS x1 r6))||((dE x1)&&(!(x2==[]))))||(eE x1 r7))||((fO x1)&&(!(x3==[]))))||(!((fG x1)==r8)))==false)=true)))) (an1 (bqA ((((((r5==[])||(cS x1 r6))||((dE x1)&&(!(x2==[]))))||(eE x1 r7))||((fO x1)&&(!(x3==[]))))||(!((fG x1)==r8))) false))))))) ?_;refine tN (cK (((((((r5==[])||(cS x1 r6))||((dE x1)&&(!(x2==[]))))||(eE x1 r7))||((fO x1)&&(!(x3==[]))))||(!((fG x1)==r8)))||((!(fG x1))&&(!(x4==[])))) (fun hc1=> ?_) fun hc1=> ?_)
 ·replace h:=aF hc1 h;refine bJ [] [] ⟨101,[(2,.str []),(3,.i (1:Int))],[],[],0⟩ trivial ?_;obtain rfl:=aaD h;refine aaG (tR ?_);exact bK
 ·replace h:=aG hc1 h;refine aaF (tN (aaE ?_));obtain⟨r9,hr9,h⟩:=bind_ok h;refine bG [] [(2,⟨[.i x1],[],[],[],.str r9,[],[],[]⟩)] [1,4,5,6,7] [1] (an1 (cpT (zO _ _ hr9))) ?_;refine tN ?_;obtain⟨K1,hK1,h⟩:=aO h;refine aaU (α:=aaA) (fun(s10:aaA)=>⟨101,[(1,.ptr 1 0),(5,.bool (x1==(5:Int))),(6,.bool (fG x1)),(7,.str s10)],(aA2 x1 x2 x3 x4),[],0⟩) (fun x=>K1 x=some r) ?_ ?_
  ·refine bJ [] [] ⟨101,[(1,.ptr 1 0),(5,.bool (x1==(5:Int))),(6,.bool (fG x1)),(7,.str r9),(82,.bool (x1 !=(6:Int)))],(aA2 x1 x2 x3 x4),[],0⟩ trivial ?_;refine cK (x1 !=(6:Int)) (fun hc2=> ?_) fun hc2=> ?_
   ·replace h:=aF hc2 h;obtain⟨ob42,ob43,h⟩:=ck2 h;refine bG [] [] [1,5,6,7] [1] (an2 ob42 ob43) ?_;exact jN (((r9++([32]:aaA))++x2)) LR h
   ·replace h:=aG hc2 h;refine aaF ?_;exact jN (r9) LR h
  ·rintro s10 h;replace h:=(congrFun hK1 _).symm.trans h;obtain⟨K2,hK2,h⟩:=aO h;refine aaU (α:=aaA) (fun(s11:aaA)=>⟨101,[(1,.ptr 1 0),(6,.bool (fG x1)),(7,.str s11)],(aA2 x1 x2 x3 x4),[],0⟩) (fun x=>K2 x=some r) ?_ ?_
   ·refine aN [] [] [1,6,7,88] [1] trivial ?_;refine cK (x1==(5:Int)) (fun hc3=> ?_) fun hc3=> ?_
    ·replace h:=aF hc3 h;obtain⟨ob44,ob45,h⟩:=ck2 h;refine bH [] [] ⟨101,[(1,.ptr 1 0),(6,.bool (fG x1)),(7,.str ((s10++([32]:aaA))++x3))],(aA2 x1 x2 x3 x4),[],0⟩ (an2 ob44 ob45) ?_;exact jN (((s10++([32]:aaA))++x3)) LR h
    ·replace h:=aG hc3 h;refine aaF ?_;exact jN (s10) LR h
   ·rintro s11 h;replace h:=(congrFun hK2 _).symm.trans h;obtain⟨K3,hK3,h⟩:=aO h;refine aaU (α:=aaA) (fun(s12:aaA)=>⟨101,[(7,.str s12)],[],[],0⟩) (fun x=>K3 x=some r) ?_ ?_
    ·refine aN [] [] [1,7,94] [1] trivial ?_;refine cK (fG x1) (fun hc4=> ?_) fun hc4=> ?_
     ·replace h:=aF hc4 h;obtain⟨ob46,ob47,h⟩:=ck2 h;refine bH [] [] ⟨101,[(7,.str ((s11++([32]:aaA))++x4))],[],[],0⟩ (an2 ob46 ob47) ?_;exact jN (((s11++([32]:aaA))++x4)) LR h
     ·replace h:=aG hc4 h;refine aaF ?_;exact jN (s11) LR h
    ·rintro s12 h;replace h:=(congrFun hK3 _).symm.trans h;refine aN [] [] [2,3] [] trivial ?_;obtain rfl:=aaD h;refine aaG ?_;exact bK
def gG (x1:aaA) (r2:List Ty1) (K1:Unit->Option Tq9):Nat->Nat->Option Tq9
 |0,_=>none
 |k+1,n3=>
  if(decide ((n3:Int)<=(6:Int)))then(
  jn (fun(_:Unit)=>
  chk (((n3:Int)+(1:Int))<=9223372036854775807)<|
  (gG x1 r2 K1 k) (n3+1)
  ) fun(K2:Unit->Option Tq9)=>
  (f114 (n3:Int)).bind fun r4=>
  chk ((0:Int)<(((r2).length:Nat):Int))<|
  chk (0<(r2).length)<|
  if(!((r2.getD 0 [])==r4))then(
  K2 ()
  )else(
  jn (fun(s5:aaA)=>
  jn (fun(s6:aaA)=>
  jn (fun(s7:aaA)=>
  jn (fun(s8:aaA)=>
  (f115 (n3:Int) s5 s6 s8).bind fun r9=>
  if((r9.2==(0:Int))&&(r9.1==x1))then(
  some ((n3:Int),s5,s6,s8,(0:Int))
  )else(
  K2 ()
  )
  ) fun(K6:Ty1->Option Tq9)=>
  if(((n3:Int)==(5:Int))&&(decide ((((r2).length:Nat):Int)>(3:Int))))then(
  chk ((3:Int)<(((r2).length:Nat):Int))<|
  chk (3<(r2).length)<|
  K6 (r2.getD 3 [])
  )else(
  K6 s7
  )
  ) fun(K5:Ty1->Option Tq9)=>
  if(((n3:Int) !=(5:Int))&&(decide ((((r2).length:Nat):Int)>(2:Int))))then(
  chk ((2:Int)<(((r2).length:Nat):Int))<|
  chk (2<(r2).length)<|
  K5 (r2.getD 2 [])
  )else(
  K5 []
  )
  ) fun(K4:Ty1->Option Tq9)=>
  if(((n3:Int)==(5:Int))&&(decide ((((r2).length:Nat):Int)>(2:Int))))then(
  chk ((2:Int)<(((r2).length:Nat):Int))<|
  chk (2<(r2).length)<|
  K4 (r2.getD 2 [])
  )else(
  K4 []
  )
  ) fun(K3:Ty1->Option Tq9)=>
  if(decide ((((r2).length:Nat):Int)>(1:Int)))then(
  chk ((1:Int)<(((r2).length:Nat):Int))<|
  chk (1<(r2).length)<|
  K3 (r2.getD 1 [])
  )else(
  K3 []
  )
  )
  )else(
  K1 ()
  )
abbrev pM :List V:=[.i (0:Int),.str [],.str [],.str []]
abbrev yN (x1:aaA) (n3:Nat):List (Nat×V):=[(0,.str x1),(2,.ptr 2 0),(4,.own 6001),(5,.i (n3:Int)),(6,.ptr 6 0)]
abbrev f84z2 (r2:List Ty1):aJ:=[(2,.cells 164 (pM)),(6001,bL 9 1 eS [] r2)]
abbrev vV (n3:Nat):=((n3:Int)==(5:Int))
abbrev f84z4 (n3:Nat) (r2:List Ty1):aJ:=[(2,.cells 164 (pM)),(6,.cells 164 [.i (n3:Int),.str [],.str [],.str []]),(6001,bL 9 1 eS [] r2)]
abbrev f84z5 (x1:aaA) (n3:Nat):List (Nat×V):=[(0,.str x1),(2,.ptr 2 0),(4,.own 6001),(5,.i (n3:Int))]
abbrev f84z6 (n3:Nat) (s5:aaA) (r2:List Ty1):aJ:=[(2,.cells 164 (pM)),(6,.cells 164 [.i (n3:Int),.str s5,.str [],.str []]),(6001,bL 9 1 eS [] r2)]
abbrev f84z7 (n3:Nat):=((n3:Int) !=(5:Int))
abbrev f84z8 (n3:Nat) (s5 s6:aaA) (r2:List Ty1):aJ:=[(2,.cells 164 (pM)),(6,.cells 164 [.i (n3:Int),.str s5,.str s6,.str []]),(6001,bL 9 1 eS [] r2)]
abbrev f84z9 (n3:Nat) (s5 s6 s8:aaA):List V:=[.i (n3:Int),.str s5,.str s6,.str s8]
abbrev f84z10 (n3:Nat) (s5 s6 s7:aaA) (r2:List Ty1):aJ:=[(2,.cells 164 (pM)),(6,.cells 164 [.i (n3:Int),.str s5,.str s6,.str s7]),(6001,bL 9 1 eS [] r2)]
def f84 (x1:aaA):Option Tq9:=
 (f113 x1).bind fun r2=>
 jn (fun(_:Unit)=>
 some ((0:Int),[],[],[],(2:Int))
 ) fun(K1:Unit->Option Tq9)=>
 gG x1 r2 K1 bB 1
theorem f84_ok (x1:aaA) (r:Tq9) (h:f84 x1=some r):aE Tryz.prog 84 [] [] [] [.str x1] (.tup [.agg [.i r.1,.str r.2.1,.str r.2.2.1,.str r.2.2.2.1],.i r.2.2.2.2]) []:=by
 unfold f84 at h;refine aE.bodyD [2] 0 _ _ Tryz.func84 rfl Tryz.ntmps84 rfl rfl ?_;refine aN [] [] [0,2] [2] trivial ?_;refine aaE ?_;obtain⟨r2,hr2,h⟩:=bind_ok h;refine bH [] [(1,⟨[.str x1],[],[],[(6001,aK r2)],.own 6001,[6001],[],[]⟩)] ⟨77,[(0,.str x1),(2,.ptr 2 0),(4,.own 6001)],(f84z2 r2),[],0⟩ (an1 (cpT (aE.ren (aT 3000 6001) (aD 3000 6001) rfl (f113_ok _ _ hr2)))) ?_;refine tN ?_;obtain⟨K1,hK1,h⟩:=aO h;refine aaU (fun(x:Unit)=>match x with|()=>⟨77,[(2,.ptr 2 0)],[(2,.cells 164 (pM))],[],0⟩) (fun x=>K1 x=some r) ?_ ?_
 ·refine aN [] [] [0,2,4,5] [2,6001] trivial ?_;refine aaJ (abI (α:=Nat×Nat) (fun x=>match x with|(_,n3)=>⟨77,(f84z5 x1 n3),(f84z2 r2),[],0⟩) (fun x=>gG x1 r2 K1 x.1 x.2=some r) (fun x=>x.1) (bB,1) LR h ?_)
  rintro⟨k0,n3⟩ h
  cases k0 with
  |zero=>exact nEx h
  |succ k0=>
  obtain⟨C0,hC0⟩:∃C,C=gG x1 r2 K1 k0:=⟨_,rfl⟩;replace h:=(gG.eq_2 ..).symm.trans h
  try rw[<-hC0]at h
  refine aaE (aN [] [] [0,2,4,5,12] [2,6001] trivial ?_);refine cK (decide ((n3:Int)<=(6:Int))) (fun hc1=> ?_) fun hc1=> ?_
  ·replace h:=aF hc1 h;refine aaF (tN ?_);obtain⟨K2,hK2,h⟩:=aO h;refine aaU (fun(x:Unit)=>match x with|()=>⟨77,(f84z5 x1 n3),(f84z2 r2),[],0⟩) (fun x=>K2 x=some r) ?_ ?_
   ·refine aaJ (aaE (aaE ?_));obtain⟨r4,hr4,h⟩:=bind_ok h;obtain⟨ob0p,h⟩:=aB h;have ob0:0<=(0:Int)/\(0:Int)<(((r2).length:Nat):Int):=⟨by omega,ob0p⟩;obtain⟨ob1,h⟩:=aB h;refine bH [] [(4,⟨[.i (n3:Int)],[],[],[],.str r4,[],[],[]⟩)] ⟨77,[(0,.str x1),(2,.ptr 2 0),(4,.own 6001),(5,.i (n3:Int)),(20,.bool (!((r2.getD 0 [])==r4)))],(f84z2 r2),[],0⟩ (an3 ob0 ob1 (cpT (zO _ _ hr4))) ?_;refine tN (cK (!((r2.getD 0 [])==r4)) (fun hc2=> ?_) fun hc2=> ?_)
    ·replace h:=aF hc2 h;refine abK (tE (kS ?_));exact jN () LR h
    ·replace h:=aG hc2 h;refine aaF (tN (aN [] [] [0,2,4,5,6] [2,6,6001] (an1 trivial) ?_));obtain⟨K3,hK3,h⟩:=aO h;refine aaU (α:=aaA) (fun(s5:aaA)=>⟨77,(yN x1 n3),(f84z6 n3 s5 r2),[],0⟩) (fun x=>K3 x=some r) ?_ ?_
     ·refine bJ [] [] ⟨77,[(0,.str x1),(2,.ptr 2 0),(4,.own 6001),(5,.i (n3:Int)),(6,.ptr 6 0),(25,.bool (decide ((lZ r2)>(1:Int))))],(f84z4 n3 r2),[],0⟩ trivial ?_;refine cK (decide ((lZ r2)>(1:Int))) (fun hc3=> ?_) fun hc3=> ?_
      ·replace h:=aF hc3 h;obtain⟨ob2p,h⟩:=aB h;have ob2:0<=(1:Int)/\(1:Int)<(((r2).length:Nat):Int):=⟨by omega,ob2p⟩;obtain⟨ob3,h⟩:=aB h;refine bG [] [] [0,2,4,5,6] [2,6,6001] (an3 ob2 ob3 trivial) ?_;exact jN ((r2.getD 1 [])) LR h
      ·replace h:=aG hc3 h;refine aaF ?_;exact jN ([]) LR h
     ·rintro s5 h;replace h:=(congrFun hK3 _).symm.trans h;obtain⟨K4,hK4,h⟩:=aO h;refine aaU (α:=aaA) (fun(s6:aaA)=>⟨77,(yN x1 n3),(f84z8 n3 s5 s6 r2),[],0⟩) (fun x=>K4 x=some r) ?_ ?_
      ·refine aaE (bG [] [] [0,2,4,5,6,36] [2,6,6001] (an3 (an1 (idA (((vV n3)==true)=true))) (an1 (idA (((vV n3)==true)=true))) (bqA (vV n3) true)) ?_);refine tN (cK ((vV n3)&&(decide ((lZ r2)>(2:Int)))) (fun hc4=> ?_) fun hc4=> ?_)
       ·replace h:=aF hc4 h;obtain⟨ob7p,h⟩:=aB h;have ob7:0<=(2:Int)/\(2:Int)<(((r2).length:Nat):Int):=⟨by omega,ob7p⟩;obtain⟨ob8,h⟩:=aB h;refine bH [] [] ⟨77,(yN x1 n3),[(2,.cells 164 (pM)),(6,.cells 164 [.i (n3:Int),.str s5,.str (r2.getD 2 []),.str []]),(6001,aK r2)],[],0⟩ (an3 ob7 ob8 trivial) ?_;exact jN ((r2.getD 2 [])) LR h
       ·replace h:=aG hc4 h;refine aaF ?_;exact jN ([]) LR h
      ·rintro s6 h;replace h:=(congrFun hK4 _).symm.trans h;obtain⟨K5,hK5,h⟩:=aO h;refine aaU (α:=aaA) (fun(s7:aaA)=>⟨77,(yN x1 n3),(f84z10 n3 s5 s6 s7 r2),[],0⟩) (fun x=>K5 x=some r) ?_ ?_
       ·refine aaE (bG [] [] [0,2,4,5,6,47] [2,6,6001] (an3 (an1 (idA (((f84z7 n3)==true)=true))) (an1 (idA (((f84z7 n3)==true)=true))) (bqA (f84z7 n3) true)) ?_);refine tN (cK ((f84z7 n3)&&(decide ((lZ r2)>(2:Int)))) (fun hc5=> ?_) fun hc5=> ?_)
        ·replace h:=aF hc5 h;obtain⟨ob12p,h⟩:=aB h;have ob12:0<=(2:Int)/\(2:Int)<(((r2).length:Nat):Int):=⟨by omega,ob12p⟩;obtain⟨ob13,h⟩:=aB h;refine bH [] [] ⟨77,(yN x1 n3),[(2,.cells 164 (pM)),(6,.cells 164 [.i (n3:Int),.str s5,.str s6,.str (r2.getD 2 [])]),(6001,aK r2)],[],0⟩ (an3 ob12 ob13 trivial) ?_;exact jN ((r2.getD 2 [])) LR h
        ·replace h:=aG hc5 h;refine aaF ?_;exact jN ([]) LR h
       ·rintro s7 h;replace h:=(congrFun hK5 _).symm.trans h;obtain⟨K6,hK6,h⟩:=aO h;refine aaU (α:=aaA) (fun(s8:aaA)=>⟨77,(yN x1 n3),[(2,.cells 164 (pM)),(6,.cells 164 (f84z9 n3 s5 s6 s8)),(6001,aK r2)],[],0⟩) (fun x=>K6 x=some r) ?_ ?_
        ·refine aaE (bG [] [] [0,2,4,5,6,58] [2,6,6001] (an3 (an1 (idA (((vV n3)==true)=true))) (an1 (idA (((vV n3)==true)=true))) (bqA (vV n3) true)) ?_);refine tN (cK ((vV n3)&&(decide ((lZ r2)>(3:Int)))) (fun hc6=> ?_) fun hc6=> ?_)
         ·replace h:=aF hc6 h;obtain⟨ob17p,h⟩:=aB h;have ob17:0<=(3:Int)/\(3:Int)<(((r2).length:Nat):Int):=⟨by omega,ob17p⟩;obtain⟨ob18,h⟩:=aB h;refine bH [] [] ⟨77,(yN x1 n3),[(2,.cells 164 (pM)),(6,.cells 164 [.i (n3:Int),.str s5,.str s6,.str (r2.getD 3 [])]),(6001,aK r2)],[],0⟩ (an3 ob17 ob18 trivial) ?_;exact jN ((r2.getD 3 [])) LR h
         ·replace h:=aG hc6 h;refine aaF ?_;exact jN (s7) LR h
        ·rintro s8 h;replace h:=(congrFun hK6 _).symm.trans h;refine aaE ?_;obtain⟨r9,hr9,h⟩:=bind_ok h;refine bG [] [(1,⟨[.agg (f84z9 n3 s5 s6 s8)],[],[],[],.tup [.str r9.1,.i r9.2],[],[],[]⟩)] [0,2,4,5,6,7,8] [2,6,6001] (an1 (cpT (f115_ok _ _ _ _ _ hr9))) ?_;refine tN (aaE (bH [] [] ⟨77,[(0,.str x1),(2,.ptr 2 0),(4,.own 6001),(5,.i (n3:Int)),(6,.ptr 6 0),(74,.bool ((r9.2==(0:Int))&&(r9.1==x1)))],[(2,.cells 164 (pM)),(6,.cells 164 (f84z9 n3 s5 s6 s8)),(6001,aK r2)],[],0⟩ (an2 (an2 (idA (((r9.2==(0:Int))==true)=true)) (idA (((r9.2==(0:Int))==true)=true))) (bqA (r9.2==(0:Int)) true)) ?_));refine tN (cK ((r9.2==(0:Int))&&(r9.1==x1)) (fun hc7=> ?_) fun hc7=> ?_)
         ·replace h:=aF hc7 h;refine aN [] [] [2,3] [2] (an1 trivial) ?_;obtain rfl:=aaD h;refine aaG (kR (aS (tR (kR (aS ?_)))));exact bD
         ·replace h:=aG hc7 h;refine aaF (kN ?_);exact jN () LR h
   ·rintro⟨⟩ h;replace h:=(congrFun hK2 _).symm.trans h;obtain⟨ob22p,h⟩:=aB h;refine bG [] [] [0,2,4,5] [2,6001] (an1 (iP ob22p)) ?_;rw[hC0]at h;exact lN (_,(n3+1)) LR h (aaK _)
  ·replace h:=aG hc1 h;refine abK (tE (tE (kS ?_)));exact jN () LR h
 ·rintro⟨⟩ h;replace h:=(congrFun hK1 _).symm.trans h;refine aN [] [] [2,3] [2] (an1 trivial) ?_;obtain rfl:=aaD h;refine aaG ?_;exact bD
def dS (x1:List Tq2) (x2:aaA) (K1:Unit->Option Int):Nat->Nat->Option Int
 |0,_=>none
 |k+1,n3=>
  if(decide ((n3:Int)<(((x1).length:Nat):Int)))then(
  chk ((n3:Int)<(((x1).length:Nat):Int))<|
  if(((x1.getD n3 (default:Tq2)).1)==x2)then(
  some (n3:Int)
  )else(
  chk (((n3:Int)+(1:Int))<=9223372036854775807)<|
  (dS x1 x2 K1 k) (n3+1)
  )
  )else(
  K1 ()
  )
def f116 (x1:List Tq2) (x2:aaA):Option Int:=
 jn (fun(_:Unit)=>
 some (-1:Int)
 ) fun(K1:Unit->Option Int)=>
 dS x1 x2 K1 bB 0
theorem f116_ok (x1:List Tq2) (x2:aaA) (r:Int) (h:f116 x1 x2=some r):aE Tryz.prog 116 [] [] [] [vL 3 cH (default:Tq2) x1,.str x2] (.i r) []:=by
 unfold f116 at h;refine aE.body 0 _ _ Tryz.func116 rfl Tryz.ntmps116 rfl rfl ?_;refine aN [] [] [0,1] [] trivial ?_;obtain⟨K1,hK1,h⟩:=aO h;refine aaU (fun(x:Unit)=>match x with|()=>⟨20,[],[],[],0⟩) (fun x=>K1 x=some r) ?_ ?_
 ·refine bJ [] [] ⟨20,[(0,aY x1),(1,.str x2),(5,.i (0:Int))],[],[],0⟩ trivial ?_;refine aaJ (abI (α:=Nat×Nat) (fun x=>match x with|(_,n3)=>⟨20,[(0,aY x1),(1,.str x2),(5,.i (n3:Int))],[],[],0⟩) (fun x=>dS x1 x2 K1 x.1 x.2=some r) (fun x=>x.1) (bB,0) LR h ?_)
  rintro⟨k0,n3⟩ h
  cases k0 with
  |zero=>exact nEx h
  |succ k0=>
  obtain⟨C0,hC0⟩:∃C,C=dS x1 x2 K1 k0:=⟨_,rfl⟩;replace h:=(dS.eq_2 ..).symm.trans h
  try rw[<-hC0]at h
  refine aaE (aN [] [] [0,1,5,9] [] trivial ?_);refine cK (decide ((n3:Int)<(lZ x1))) (fun hc1=> ?_) fun hc1=> ?_
  ·replace h:=aF hc1 h;refine aaF (tN (aaE (aaJ (aaE ?_))));obtain⟨ob0p,h⟩:=aB h;refine bH [] [] ⟨20,[(0,aY x1),(1,.str x2),(5,.i (n3:Int)),(18,.bool (((x1.getD n3 aR).1)==x2))],[],[],0⟩ (an1 (iN ob0p)) ?_;refine tN (cK (((x1.getD n3 aR).1)==x2) (fun hc2=> ?_) fun hc2=> ?_)
   ·replace h:=aF hc2 h;refine aN [] [] [4] [] trivial ?_;obtain rfl:=aaD h;refine aaG (kR (tR (tR (kR (aS ?_)))));exact bK
   ·replace h:=aG hc2 h;refine aaF (kN (tN ?_));obtain⟨ob1p,h⟩:=aB h;refine bH [] [] ⟨20,[(0,aY x1),(1,.str x2),(5,.i (((n3+1):Nat):Int))],[],[],0⟩ (an1 (iP ob1p)) ?_;rw[hC0]at h;exact lN (_,(n3+1)) LR h (aaK _)
  ·replace h:=aG hc1 h;refine abK (tE (tE (kS ?_)));exact jN () LR h
 ·rintro⟨⟩ h;replace h:=(congrFun hK1 _).symm.trans h;refine aN [] [] [4] [] trivial ?_;obtain rfl:=aaD h;refine aaG ?_;exact bK
def f117 :Nat->Int->Option Ty1
 |0,_=>none
 |k+1,x1=>
  if(decide (x1<(10:Int)))then(
  chk (-9223372036854775808<=((48:Int)+x1)/\((48:Int)+x1)<=9223372036854775807)<|
  chk (0<=((48:Int)+x1)/\((48:Int)+x1)<=255)<|
  some [UInt8.ofNat ((((48:Int)+x1)).toNat)]
  )else(
  ((f117 k) (x1/(10:Int))).bind fun r2=>
  chk (0<=x1/\1<=(10:Int)/\ -9223372036854775808<=(x1/(10:Int))/\(x1/(10:Int))<=9223372036854775807)<|
  chk (0<=x1/\1<=(10:Int))<|
  chk (-9223372036854775808<=((48:Int)+(x1%(10:Int)))/\((48:Int)+(x1%(10:Int)))<=9223372036854775807)<|
  chk (0<=((48:Int)+(x1%(10:Int)))/\((48:Int)+(x1%(10:Int)))<=255)<|
  chk (r2.length+[UInt8.ofNat ((((48:Int)+(x1%(10:Int)))).toNat)].length<=9223372036854775807)<|
  some (r2++[UInt8.ofNat ((((48:Int)+(x1%(10:Int)))).toNat)])
  )
theorem zN :∀(k:Nat) (x1:Int) (r:aaA),f117 k x1=some r->aE Tryz.prog 117 [] [] [] [.i x1] (.str r) []:=by
 intro k
 induction k with
 |zero=>intro x1 r h;exact nEx h
 |succ k ih=>
 intro x1 r h;obtain⟨Frec,hFrec⟩:∃C,C=f117 k:=⟨_,rfl⟩;rw[f117.eq_2]at h;rw[<-hFrec]at h ih;refine aE.body 0 _ _ Tryz.func117 rfl Tryz.ntmps117 rfl rfl ?_;refine aN [] [] [0] [] trivial ?_;refine aaE (aN [] [] [0,4] [] trivial ?_);refine cK (decide (x1<(10:Int))) (fun hc1=> ?_) fun hc1=> ?_
 ·replace h:=aF hc1 h;refine aaE ?_;obtain⟨ob0,ob1,h⟩:=ck2 h;have ob2:∀i,i<1->isByte ((dN 1 [.int .u8 ((48:Int)+x1)]) i 0):=fun i hi=>match i,hi with|0,_=>trivial
  refine bH [] [] ⟨20,[(2,.str [UInt8.ofNat ((((48:Int)+x1)).toNat)])],[],[],0⟩ (an3 ob0 ob1 ob2) ?_;refine tN ?_;obtain rfl:=aaD h;refine aaG (tR ?_);exact bK
 ·replace h:=aG hc1 h;refine aaF (tN (aaE ?_));obtain⟨r2,hr2,h⟩:=bind_ok h;obtain⟨ob3,ob4,ob5,ob6,h⟩:=ck4 h;have ob7:∀i,i<1->isByte ((dN 1 [.int .u8 ((48:Int)+(x1%(10:Int)))]) i 0):=fun i hi=>match i,hi with|0,_=>trivial
  obtain⟨ob8,h⟩:=aB h;refine bG [] [(2,⟨[.i (x1/(10:Int))],[],[],[],.str r2,[],[],[]⟩)] [2] [] (ac6 ob3 (cpT (ih _ _ hr2)) ob4 ob5 ob6 ob7 (an1 ob8)) ?_;refine tN ?_;obtain rfl:=aaD h;refine aaG ?_;exact bK
def fY (x1:List Tq2) (x2 x3:aaA) (K1:(Bool×Ty6)->Option Ty6):Nat->(Bool×Nat×Ty6)->Option Ty6
 |0,_=>none
 |k+1,(b4,n5,l6)=>
  if(decide ((n5:Int)<(((x1).length:Nat):Int)))then(
  jn (fun((b7,l8):Bool×Ty6)=>
  chk (((n5:Int)+(1:Int))<=9223372036854775807)<|
  (fY x1 x2 x3 K1 k) (b7,(n5+1),l8)
  ) fun(K2:(Bool×Ty6)->Option Ty6)=>
  chk ((n5:Int)<(((x1).length:Nat):Int))<|
  if(((x1.getD n5 (default:Tq2)).1)==x2)then(
  chk ((n5:Int)<(((x1).length:Nat):Int))<|
  chk (-9223372036854775808<=((x1.getD n5 (default:Tq2)).2.2+(1:Int))/\((x1.getD n5 (default:Tq2)).2.2+(1:Int))<=9223372036854775807)<|
  chk (((l6).length+1) *40<=140737488355328)<|
  K2 (true,(l6++[(x2,x3,(min ((x1.getD n5 (default:Tq2)).2.2+(1:Int)) (1000000000000:Int)))]))
  )else(
  jn (fun((b9,l10):Bool×Ty6)=>
  chk ((n5:Int)<(((x1).length:Nat):Int))<|
  chk (((l10).length+1) *40<=140737488355328)<|
  K2 (b9,(l10++[((x1.getD n5 (default:Tq2)).1,(x1.getD n5 (default:Tq2)).2.1,(x1.getD n5 (default:Tq2)).2.2)]))
  ) fun(K3:(Bool×Ty6)->Option Ty6)=>
  chk ((n5:Int)<(((x1).length:Nat):Int))<|
  if((!((Op.bytesLess ((x1.getD n5 (default:Tq2)).1) x2)||(((x1.getD n5 (default:Tq2)).1)==x2)))&&(!b4))then(
  chk (((l6).length+1) *40<=140737488355328)<|
  K3 (true,(l6++[(x2,x3,(1:Int))]))
  )else(
  K3 (b4,l6)
  )
  )
  )else(
  K1 (b4,l6)
  )
abbrev dI (x1:List Tq2) (n5:Nat):=(x1.getD n5 (default:Tq2))
abbrev f118z1 (x1:List Tq2) (x2 x3:aaA) (n5:Nat):List (Nat×V):=[(0,vL 3 cH (default:Tq2) x1),(1,.str x2),(2,.str x3),(7,.own 5007),(8,.bool true),(9,.i (n5:Int))]
abbrev xB (x1:List Tq2) (n5:Nat) (x2:aaA):=(!((Op.bytesLess ((dI x1 n5).1) x2)||(((dI x1 n5).1)==x2)))
abbrev f118z3 (x1:List Tq2) (x2 x3:aaA) (b9:Bool) (n5:Nat):List (Nat×V):=[(0,vL 3 cH (default:Tq2) x1),(1,.str x2),(2,.str x3),(7,.own 52),(8,.bool b9),(9,.i (n5:Int))]
abbrev aA1 (x1:List Tq2) (x2 x3:aaA) (n5:Nat):List (Nat×V):=[(0,vL 3 cH (default:Tq2) x1),(1,.str x2),(2,.str x3),(7,.own 5007),(9,.i (n5:Int))]
abbrev f118z5 (l6:List Tq2):aJ:=[(5007,bL 202 3 cH (default:Tq2) l6)]
abbrev rX :=Tq2
abbrev f118z7 (l6:List Tq2) (x2 x3:aaA) (x1:List Tq2) (n5:Nat):aJ:=[(5007,bL 202 3 cH (default:Tq2) (l6++[(x2,x3,(min ((dI x1 n5).2.2+(1:Int)) (1000000000000:Int)))]))]
def f118 (x1:List Tq2) (x2 x3:aaA):Option Ty6:=
 jn (fun((b11,l12):Bool×Ty6)=>
 jn (fun(l13:List Tq2)=>
 some l13
 ) fun(K4:Ty6->Option Ty6)=>
 if(!b11)then(
 chk (((l12).length+1) *40<=140737488355328)<|
 K4 (l12++[(x2,x3,(1:Int))])
 )else(
 K4 l12
 )
 ) fun(K1:(Bool×Ty6)->Option Ty6)=>
 fY x1 x2 x3 K1 bB (false,0,[])
theorem f118_ok (x1:List Tq2) (x2 x3:aaA) (r:List Tq2) (h:f118 x1 x2 x3=some r):aE Tryz.prog 118 [] [] [] [vL 3 cH (default:Tq2) x1,.str x2,.str x3] (.own 3000) [(3000,bL 202 3 cH (default:Tq2) r)]:=by
 unfold f118 at h;refine aE.body 0 _ _ Tryz.func118 rfl Tryz.ntmps118 rfl rfl ?_;refine aN [] [] [0,1,2] [] trivial ?_;refine aN [] [] [0,1,2,7] [] trivial ?_;refine bJ [] [] ⟨69,[(0,aY x1),(1,.str x2),(2,.str x3),(7,.nils),(8,.bool false)],[],[],0⟩ trivial ?_;obtain⟨K1,hK1,h⟩:=aO h;refine aaU (fun(x:Bool×(List (rX)))=>match x with|(b11,l12)=>⟨69,[(1,.str x2),(2,.str x3),(7,.own 5007),(8,.bool b11)],[(5007,aV l12)],[],0⟩) (fun x=>K1 x=some r) ?_ ?_
 ·refine bJ [] [] ⟨69,[(0,aY x1),(1,.str x2),(2,.str x3),(7,.nils),(8,.bool false),(9,.i (0:Int))],[],[],0⟩ trivial ?_;refine aaJ (abI (α:=Nat×(Bool×Nat×(List (rX)))) (fun x=>match x with|(_,b4,n5,l6)=>⟨69,[(0,aY x1),(1,.str x2),(2,.str x3),(7,.own 5007),(8,.bool b4),(9,.i (n5:Int))],(f118z5 l6),[],0⟩) (fun x=>fY x1 x2 x3 K1 x.1 x.2=some r) (fun x=>x.1) (bB,false,0,[]) (aaL (aaL (adM 7 5007 202 3 (cE cH aR []) rfl rfl (aaW rfl)) (LR (s':=⟨69,[(0,aY x1),(1,.str x2),(2,.str x3),(7,.own 5007),(8,.bool false),(9,.i (0:Int))],[(5007,aV [])],[],0⟩))) LR) h ?_)
  rintro⟨k0,b4,n5,l6⟩ h
  cases k0 with
  |zero=>exact nEx h
  |succ k0=>
  obtain⟨C0,hC0⟩:∃C,C=fY x1 x2 x3 K1 k0:=⟨_,rfl⟩;replace h:=(fY.eq_2 ..).symm.trans h
  try rw[<-hC0]at h
  refine aaE (aN [] [] [0,1,2,7,8,9,13] [5007] trivial ?_);refine cK (decide ((n5:Int)<(lZ x1))) (fun hc1=> ?_) fun hc1=> ?_
  ·replace h:=aF hc1 h;refine aaF (tN ?_);obtain⟨K2,hK2,h⟩:=aO h;refine aaU (fun(x:Bool×(List (rX)))=>match x with|(b7,l8)=>⟨69,[(0,aY x1),(1,.str x2),(2,.str x3),(7,.own 35),(8,.bool b7),(9,.i (n5:Int))],[(35,aV l8)],[],0⟩) (fun x=>K2 x=some r) ?_ ?_
   ·refine aaJ (aaE (aaE ?_));obtain⟨ob0p,h⟩:=aB h;refine bH [] [] ⟨69,[(0,aY x1),(1,.str x2),(2,.str x3),(7,.own 5007),(8,.bool b4),(9,.i (n5:Int)),(22,.bool (((dI x1 n5).1)==x2))],(f118z5 l6),[],0⟩ (an1 (iN ob0p)) ?_;refine tN (cK (((dI x1 n5).1)==x2) (fun hc2=> ?_) fun hc2=> ?_)
    ·replace h:=aF hc2 h;refine aaE ?_;obtain⟨ob1p,h⟩:=aB h;obtain⟨ob2,ob3,h⟩:=ck2 h;refine bH [] [] ⟨69,(aA1 x1 x2 x3 n5),[(5007,.rows 202 3 ((l6).length+1) (gK (l6).length (cE cH aR l6) (dN 3 [.str x2,.str x3,.i (min ((dI x1 n5).2.2+(1:Int)) (1000000000000:Int))])))],[],0⟩ (an3 (iN ob1p) ob2 ob3) ?_;refine tN (aaX (acZ (s':=⟨69,(aA1 x1 x2 x3 n5),(f118z7 l6 x2 x3 x1 n5),[],0⟩) rfl rfl ⟨.refl _,.refl _,.refl _,.refl _,.refl _,trivial⟩ ⟨⟨_,rfl,(acK (adQ (acX _) (acV (enc:=cH) [(x2,x3,(min ((dI x1 n5).2.2+(1:Int)) (1000000000000:Int)))] rfl rfl (fun _=>rfl))))⟩,trivial⟩) ?_);refine bJ [] [] ⟨69,(f118z1 x1 x2 x3 n5),(f118z7 l6 x2 x3 x1 n5),[],0⟩ trivial ?_;refine abK (tE (kS ?_));exact jN (true,(l6++[(x2,x3,(min ((dI x1 n5).2.2+(1:Int)) (1000000000000:Int)))])) (aaL (aaL (acQ (aT 5007 35) (aD 5007 35) rfl) (LR (s':=⟨69,[(0,aY x1),(1,.str x2),(2,.str x3),(7,.own 35),(8,.bool true),(9,.i (n5:Int))],[(35,aV (l6++[(x2,x3,(min ((dI x1 n5).2.2+(1:Int)) (1000000000000:Int)))]))],[],0⟩))) LR) h
    ·replace h:=aG hc2 h;refine aaF (tN ?_);obtain⟨K3,hK3,h⟩:=aO h;refine aaU (fun(x:Bool×(List (rX)))=>match x with|(b9,l10)=>⟨69,(f118z3 x1 x2 x3 b9 n5),[(52,aV l10)],[],0⟩) (fun x=>K3 x=some r) ?_ ?_
     ·refine aaE ?_;obtain⟨ob4p,h⟩:=aB h;refine bH [] [] ⟨69,[(0,aY x1),(1,.str x2),(2,.str x3),(7,.own 5007),(8,.bool b4),(9,.i (n5:Int)),(46,.bool ((xB x1 n5 x2)&&(!b4)))],(f118z5 l6),[],0⟩ (an3 (iN ob4p) (an1 (idA (((xB x1 n5 x2)==true)=true))) (bqA (xB x1 n5 x2) true)) ?_;refine tN (cK ((xB x1 n5 x2)&&(!b4)) (fun hc3=> ?_) fun hc3=> ?_)
      ·replace h:=aF hc3 h;refine aaE ?_;obtain⟨ob7,h⟩:=aB h;refine bH [] [] ⟨69,(aA1 x1 x2 x3 n5),[(5007,.rows 202 3 ((l6).length+1) (gK (l6).length (cE cH aR l6) (dN 3 [.str x2,.str x3,.i (1:Int)])))],[],0⟩ (an1 ob7) ?_;refine tN (aaX (acZ (s':=⟨69,(aA1 x1 x2 x3 n5),[(5007,aV (l6++[(x2,x3,(1:Int))]))],[],0⟩) rfl rfl ⟨.refl _,.refl _,.refl _,.refl _,.refl _,trivial⟩ ⟨⟨_,rfl,(acK (adQ (acX _) (acV (enc:=cH) [(x2,x3,(1:Int))] rfl rfl (fun _=>rfl))))⟩,trivial⟩) ?_);refine bH [] [] ⟨69,(f118z1 x1 x2 x3 n5),[(5007,aV (l6++[(x2,x3,(1:Int))]))],[],0⟩ trivial ?_;exact jN (true,(l6++[(x2,x3,(1:Int))])) (aaL (aaL (acQ (aT 5007 52) (aD 5007 52) rfl) (LR (s':=⟨69,[(0,aY x1),(1,.str x2),(2,.str x3),(7,.own 52),(8,.bool true),(9,.i (n5:Int))],[(52,aV (l6++[(x2,x3,(1:Int))]))],[],0⟩))) LR) h
      ·replace h:=aG hc3 h;refine aaF ?_;exact jN (b4,l6) (aaL (aaL (acQ (aT 5007 52) (aD 5007 52) rfl) (LR (s':=⟨69,[(0,aY x1),(1,.str x2),(2,.str x3),(7,.own 52),(8,.bool b4),(9,.i (n5:Int)),(46,.bool ((xB x1 n5 x2)&&(!b4)))],[(52,aV l6)],[],0⟩))) LR) h
     ·rintro⟨b9,l10⟩ h;replace h:=(congrFun hK3 _).symm.trans h;obtain⟨ob8p,h⟩:=aB h;obtain⟨ob9,h⟩:=aB h;refine bH [] [] ⟨69,(f118z3 x1 x2 x3 b9 n5),[(52,.rows 202 3 ((l10).length+1) (gK (l10).length (cE cH aR l10) (dN 3 [.str (dI x1 n5).1,.str (dI x1 n5).2.1,.i (dI x1 n5).2.2])))],[],0⟩ (an2 (iN ob8p) ob9) ?_;refine kN ?_;exact jN (b9,(l10++[((dI x1 n5).1,(dI x1 n5).2.1,(dI x1 n5).2.2)])) (aaL (acZ (s':=⟨69,(f118z3 x1 x2 x3 b9 n5),[(52,aV (l10++[((dI x1 n5).1,(dI x1 n5).2.1,(dI x1 n5).2.2)]))],[],0⟩) rfl rfl ⟨.refl _,.refl _,.refl _,.refl _,.refl _,.refl _,trivial⟩ ⟨⟨_,rfl,(acK (adQ (acX _) (acV (enc:=cH) [((dI x1 n5).1,(dI x1 n5).2.1,(dI x1 n5).2.2)] rfl rfl (fun _=>rfl))))⟩,trivial⟩) (aaL (aaL (acQ (aT 52 35) (aD 52 35) rfl) (LR (s':=⟨69,[(0,aY x1),(1,.str x2),(2,.str x3),(7,.own 35),(8,.bool b9),(9,.i (n5:Int))],[(35,aV (l10++[((dI x1 n5).1,(dI x1 n5).2.1,(dI x1 n5).2.2)]))],[],0⟩))) LR)) h
   ·rintro⟨b7,l8⟩ h;replace h:=(congrFun hK2 _).symm.trans h;obtain⟨ob10p,h⟩:=aB h;refine bH [] [] ⟨69,[(0,aY x1),(1,.str x2),(2,.str x3),(7,.own 35),(8,.bool b7),(9,.i (((n5+1):Nat):Int))],[(35,aV l8)],[],0⟩ (an1 (iP ob10p)) ?_;rw[hC0]at h;exact lN (_,b7,(n5+1),l8) (aaL (aaL (acQ (aT 35 5007) (aD 35 5007) rfl) (LR (s':=⟨69,[(0,aY x1),(1,.str x2),(2,.str x3),(7,.own 5007),(8,.bool b7),(9,.i (((n5+1):Nat):Int))],[(5007,aV l8)],[],0⟩))) LR) h (aaK _)
  ·replace h:=aG hc1 h;refine abK (tE (tE (kS ?_)));exact jN (b4,l6) LR h
 ·rintro⟨b11,l12⟩ h;replace h:=(congrFun hK1 _).symm.trans h;obtain⟨K4,hK4,h⟩:=aO h;refine aaU (α:=List (rX)) (fun(l13:List (rX))=>⟨69,[(7,.own 5007)],[(5007,aV l13)],[],0⟩) (fun x=>K4 x=some r) ?_ ?_
  ·refine aN [] [] [1,2,7,61] [5007] trivial ?_;refine cK (!b11) (fun hc4=> ?_) fun hc4=> ?_
   ·replace h:=aF hc4 h;obtain⟨ob11,h⟩:=aB h;refine bH [] [] ⟨69,[(7,.own 5007)],[(5007,.rows 202 3 ((l12).length+1) (gK (l12).length (cE cH aR l12) (dN 3 [.str x2,.str x3,.i (1:Int)])))],[],0⟩ (an1 ob11) ?_;exact jN ((l12++[(x2,x3,(1:Int))])) (aaL (acZ (s':=⟨69,[(7,.own 5007)],[(5007,aV (l12++[(x2,x3,(1:Int))]))],[],0⟩) rfl rfl ⟨.refl _,trivial⟩ ⟨⟨_,rfl,(acK (adQ (acX _) (acV (enc:=cH) [(x2,x3,(1:Int))] rfl rfl (fun _=>rfl))))⟩,trivial⟩) LR) h
   ·replace h:=aG hc4 h;refine aaF ?_;exact jN (l12) LR h
  ·rintro l13 h;replace h:=(congrFun hK4 _).symm.trans h;refine bJ [] [] ⟨69,[(6,.own 5007)],[(5007,aV l13)],[],0⟩ trivial ?_;refine aaX (aaL (acQ (aT 5007 3000) (aD 5007 3000) rfl) (LR (s':=⟨69,[(6,.own 3000)],[(3000,aV l13)],[],0⟩))) ?_;obtain rfl:=aaD h;refine aaX (LR (s':=⟨69,[(6,.own 3000)],[(3000,aV l13)],[],0⟩)) ?_;refine aaG ?_;exact bK
abbrev aBE (x2:Int) (x3 x4 x5:aaA) (x1:List Tq2):aJ:=[(3,.cells 164 [.i x2,.str x3,.str x4,.str x5]),(12,bL 202 3 cH (default:Tq2) ([]++x1))]
abbrev sX (x1:List Tq2):aJ:=[(12,bL 202 3 cH (default:Tq2) ([]++x1))]
abbrev iF (x1:List Tq2):aJ:=[(3000,bL 202 3 cH (default:Tq2) ([]++x1))]
abbrev f85z3 :=([110,111,110,101]:aaA)
abbrev f85z4 (x1:List Tq2) (r7:Int) (x5:aaA):List (Nat×V):=[(0,vL 3 cH (default:Tq2) x1),(3,.ptr 3 0),(6,.own 12),(9,.i r7),(10,.str x5)]
abbrev yM (r7:Int):=(decide (r7<(0:Int)))
abbrev aBD :List (Nat×V):=[(4,.own 3000),(5,.str (f85z3))]
abbrev f85z7 :List (Nat×V):=[(4,.own 12),(5,.str (f85z3))]
abbrev f85z8 (r12:List Tq2):aJ:=[(6001,bL 202 3 cH (default:Tq2) r12)]
abbrev f85z9 :List (Nat×V):=[(4,.own 63),(5,.str ([111,107]:aaA))]
abbrev f85z10 :=([108,111,110,103]:aaA)
abbrev f85z11 :=([102,117,108,108]:aaA)
def f85 (x1:List Tq2) (x2:Int) (x3 x4 x5:aaA):Option (aaA×Ty6):=
 chk ((0+(x1).length) *40<=140737488355328)<|
 (f115 x2 x3 x4 x5).bind fun r6=>
 if(r6.2 !=(0:Int))then(
 some (cs3,([]++x1))
 )else(
 (f116 x1 x3).bind fun r7=>
 jn (fun(s10:aaA)=>
 if((decide (r7<(0:Int)))&&(decide ((((x1).length:Nat):Int)>=(64:Int))))then(
 some (([102,117,108,108]:aaA),([]++x1))
 )else(
 (f118 x1 x3 s10).bind fun r12=>
 (f116 r12 x3).bind fun r13=>
 (f117 bB ((r12.getD ((r13).toNat) (default:Tq2)).2.2)).bind fun r14=>
 chk (0<=r13/\r13<(((r12).length:Nat):Int))<|
 chk (((r13).toNat)<(r12).length)<|
 chk (([111,107,32]:aaA).length+r14.length<=9223372036854775807)<|
 some ((([111,107,32]:aaA)++r14),r12)
 )
 ) fun(K1:Ty1->Option (aaA×Ty6))=>
 if(x2==(6:Int))then(
 (f117 bB (((x1).length:Nat):Int)).bind fun r8=>
 chk (cs9.length+r8.length<=9223372036854775807)<|
 some ((cs9++r8),([]++x1))
 )else(
 if(x2==(2:Int))then(
 if(decide (r7<(0:Int)))then(
 some (([110,111,110,101]:aaA),([]++x1))
 )else(
 (f117 bB ((x1.getD ((r7).toNat) (default:Tq2)).2.2)).bind fun r9=>
 chk (0<=r7/\r7<(((x1).length:Nat):Int))<|
 chk (qI.length+((x1.getD ((r7).toNat) (default:Tq2)).2.1).length<=9223372036854775807)<|
 chk ((qI++((x1.getD ((r7).toNat) (default:Tq2)).2.1)).length+([32]:aaA).length<=9223372036854775807)<|
 chk (0<=r7/\r7<(((x1).length:Nat):Int))<|
 chk (((qI++((x1.getD ((r7).toNat) (default:Tq2)).2.1))++([32]:aaA)).length+r9.length<=9223372036854775807)<|
 some ((((qI++((x1.getD ((r7).toNat) (default:Tq2)).2.1))++([32]:aaA))++r9),([]++x1))
 )
 )else(
 if(x2==(3:Int))then(
 if(decide (r7<(0:Int)))then(
 some (([110,111,110,101]:aaA),([]++x1))
 )else(
 chk (0<=r7/\r7<=(((x1).length:Nat):Int))<|
 chk ((0+((r7).toNat)) *40<=140737488355328)<|
 chk (-9223372036854775808<=(r7+(1:Int))/\(r7+(1:Int))<=9223372036854775807)<|
 chk (0<=(r7+(1:Int))/\(r7+(1:Int))<=(((x1).length:Nat):Int))<|
 chk (((0+((r7).toNat))+((x1).length-((r7+(1:Int))).toNat)) *40<=140737488355328)<|
 some (([111,107]:aaA),(([]++(x1.take ((r7).toNat)))++(x1.drop (((r7+(1:Int))).toNat))))
 )
 )else(
 if(x2==(5:Int))then(
 if(decide (r7<(0:Int)))then(
 some (([110,111,110,101]:aaA),([]++x1))
 )else(
 chk (0<=r7/\r7<(((x1).length:Nat):Int))<|
 if(!(((x1.getD ((r7).toNat) (default:Tq2)).2.1)==x4))then(
 chk (0<=r7/\r7<(((x1).length:Nat):Int))<|
 chk (([110,111,32]:aaA).length+((x1.getD ((r7).toNat) (default:Tq2)).2.1).length<=9223372036854775807)<|
 some ((([110,111,32]:aaA)++((x1.getD ((r7).toNat) (default:Tq2)).2.1)),([]++x1))
 )else(
 K1 x5
 )
 )
 )else(
 if(x2==(4:Int))then(
 jn (fun(s11:aaA)=>
 if(decide (((s11.length:Nat):Int)>(256:Int)))then(
 some (([108,111,110,103]:aaA),([]++x1))
 )else(
 K1 s11
 )
 ) fun(K2:Ty1->Option (aaA×Ty6))=>
 if(decide (r7>=(0:Int)))then(
 chk (0<=r7/\r7<(((x1).length:Nat):Int))<|
 chk (((x1.getD ((r7).toNat) (default:Tq2)).2.1).length+x5.length<=9223372036854775807)<|
 K2 (((x1.getD ((r7).toNat) (default:Tq2)).2.1)++x5)
 )else(
 K2 x5
 )
 )else(
 K1 x5
 )
 )
 )
 )
 )
 )
theorem f85_ok (x1:List Tq2) (x2:Int) (x3 x4 x5:aaA) (r:aaA×Ty6) (h:f85 x1 x2 x3 x4 x5=some r):aE Tryz.prog 85 [] [] [] [vL 3 cH (default:Tq2) x1,.agg [.i x2,.str x3,.str x4,.str x5]] (.tup [.own 3000,.str r.1]) [(3000,bL 202 3 cH (default:Tq2) r.2)]:=by
 unfold f85 at h;refine aE.body 0 _ _ Tryz.func85 rfl Tryz.ntmps85 rfl rfl ?_;refine aN [] [] [0,3] [3] trivial ?_;refine aaE ?_;obtain⟨ob0,h⟩:=aB h;refine bH [] [] ⟨133,[(0,aY x1),(3,.ptr 3 0),(6,.own 12)],[(3,.cells 164 [.i x2,.str x3,.str x4,.str x5]),(12,.rows 202 3 (0+(x1).length) (gK 0 (dN 3 []) (cE cH aR x1)))],[],0⟩ (an1 ob0) ?_;refine tN (aaX (acZ (s':=⟨133,[(0,aY x1),(3,.ptr 3 0),(6,.own 12)],(aBE x2 x3 x4 x5 x1),[],0⟩) rfl rfl ⟨.refl _,.refl _,.refl _,trivial⟩ ⟨⟨_,rfl,.refl _⟩,⟨_,rfl,(acK (adQ (acV (enc:=cH) [] rfl rfl (fun _=>rfl)) (acX _)))⟩,trivial⟩) ?_);refine aaE (aaE ?_);obtain⟨r6,hr6,h⟩:=bind_ok h;refine bG [] [(1,⟨[.agg [.i x2,.str x3,.str x4,.str x5]],[],[],[],.tup [.str r6.1,.i r6.2],[],[],[]⟩)] [0,3,6,8] [3,12] (an1 (cpT (f115_ok _ _ _ _ _ hr6))) ?_;refine tN (aN [] [] [0,3,6,21] [3,12] trivial ?_);refine cK (r6.2 !=(0:Int)) (fun hc1=> ?_) fun hc1=> ?_
 ·replace h:=aF hc1 h;refine bJ [] [] ⟨133,[(4,.own 12),(5,.str cs3)],(sX x1),[],0⟩ trivial ?_;refine aaX (aaL (acQ (aT 12 3000) (aD 12 3000) rfl) (LR (s':=⟨133,[(4,.own 3000),(5,.str cs3)],(iF x1),[],0⟩))) ?_;obtain rfl:=aaD h;refine aaX (LR (s':=⟨133,[(4,.own 3000),(5,.str cs3)],(iF x1),[],0⟩)) ?_;refine aaG (tR ?_);exact bK
 ·replace h:=aG hc1 h;refine aaF (tN (aaE ?_));obtain⟨r7,hr7,h⟩:=bind_ok h;refine bG [] [(3,⟨[aY x1,.str x3],[],[],[],.i r7,[],[],[]⟩)] [0,3,6,9] [3,12] (an1 (cpT (f116_ok _ _ _ hr7))) ?_;refine tN (bJ [] [] ⟨133,(f85z4 x1 r7 x5),(aBE x2 x3 x4 x5 x1),[],0⟩ trivial ?_);obtain⟨K1,hK1,h⟩:=aO h;refine aaU (α:=aaA) (fun(s10:aaA)=>⟨133,[(0,aY x1),(3,.ptr 3 0),(6,.own 12),(9,.i r7),(10,.str s10)],(aBE x2 x3 x4 x5 x1),[],0⟩) (fun x=>K1 x=some r) ?_ ?_
  ·refine aN [] [] [0,3,6,9,10,30] [3,12] trivial ?_;refine aaJ (aN [] [] [0,3,6,9,10,30,31] [3,12] trivial ?_);refine cK (x2==(6:Int)) (fun hc2=> ?_) fun hc2=> ?_
   ·replace h:=aF hc2 h;refine aaE ?_;obtain⟨r8,hr8,h⟩:=bind_ok h;obtain⟨ob1,h⟩:=aB h;refine bH [] [(3,⟨[.i (lZ x1)],[],[],[],.str r8,[],[],[]⟩)] ⟨133,[(4,.own 12),(5,.str (cs9++r8))],(sX x1),[],0⟩ (an2 (cpT (zN bB _ _ hr8)) ob1) ?_;refine tN (aaX (aaL (acQ (aT 12 3000) (aD 12 3000) rfl) (LR (s':=⟨133,[(4,.own 3000),(5,.str (cs9++r8))],(iF x1),[],0⟩))) ?_);obtain rfl:=aaD h;refine aaX (LR (s':=⟨133,[(4,.own 3000),(5,.str (cs9++r8))],(iF x1),[],0⟩)) ?_;refine aaG (kR (aS ?_));exact bK
   ·replace h:=aG hc2 h;refine aN [] [] [0,3,6,9,10,30,38] [3,12] trivial ?_;refine cK (x2==(2:Int)) (fun hc3=> ?_) fun hc3=> ?_
    ·replace h:=aF hc3 h;refine aaE (aN [] [] [0,6,9,41] [12] trivial ?_);refine cK (yM r7) (fun hc4=> ?_) fun hc4=> ?_
     ·replace h:=aF hc4 h;refine bJ [] [] ⟨133,(f85z7),(sX x1),[],0⟩ trivial ?_;refine aaX (aaL (acQ (aT 12 3000) (aD 12 3000) rfl) (LR (s':=⟨133,(aBD),(iF x1),[],0⟩))) ?_;obtain rfl:=aaD h;refine aaX (LR (s':=⟨133,(aBD),(iF x1),[],0⟩)) ?_;refine aaG (tR (kR (aS ?_)));exact bK
     ·replace h:=aG hc4 h;refine aaF (tN (aaE ?_));obtain⟨r9,hr9,h⟩:=bind_ok h;obtain⟨ob2,ob3,ob4,ob5,ob6,h⟩:=ck5 h;refine bH [] [(13,⟨[.i (x1.getD ((r7).toNat) aR).2.2],[],[],[],.str r9,[],[],[]⟩)] ⟨133,[(4,.own 12),(5,.str (((qI++((x1.getD ((r7).toNat) aR).2.1))++([32]:aaA))++r9))],(sX x1),[],0⟩ (an6 ob2 ob3 ob4 ob5 (cpT (zN bB _ _ hr9)) ob6) ?_;refine tN (aaX (aaL (acQ (aT 12 3000) (aD 12 3000) rfl) (LR (s':=⟨133,[(4,.own 3000),(5,.str (((qI++((x1.getD ((r7).toNat) aR).2.1))++([32]:aaA))++r9))],(iF x1),[],0⟩))) ?_);obtain rfl:=aaD h;refine aaX (LR (s':=⟨133,[(4,.own 3000),(5,.str (((qI++((x1.getD ((r7).toNat) aR).2.1))++([32]:aaA))++r9))],(iF x1),[],0⟩)) ?_;refine aaG (kR (aS ?_));exact bK
    ·replace h:=aG hc3 h;refine aN [] [] [0,3,6,9,10,30,58] [3,12] trivial ?_;refine cK (x2==(3:Int)) (fun hc5=> ?_) fun hc5=> ?_
     ·replace h:=aF hc5 h;refine aaE (aN [] [] [0,6,9,61] [12] trivial ?_);refine cK (yM r7) (fun hc6=> ?_) fun hc6=> ?_
      ·replace h:=aF hc6 h;refine bJ [] [] ⟨133,(f85z7),(sX x1),[],0⟩ trivial ?_;refine aaX (aaL (acQ (aT 12 3000) (aD 12 3000) rfl) (LR (s':=⟨133,(aBD),(iF x1),[],0⟩))) ?_;obtain rfl:=aaD h;refine aaX (LR (s':=⟨133,(aBD),(iF x1),[],0⟩)) ?_;refine aaG (tR (kR (aS ?_)));exact bK
      ·replace h:=aG hc6 h;refine aaF (tN (aaE ?_));obtain⟨ob7,ob8,ob9,ob10,ob11,h⟩:=ck5 h;refine bH [] [] ⟨133,(f85z9),[(63,.rows 202 3 ((0+((r7).toNat))+((x1).length-((r7+(1:Int))).toNat)) (gK (0+((r7).toNat)) (gK 0 (dN 3 []) (cE cH aR x1)) (fun i j=>(cE cH aR x1) (i+(((r7+(1:Int))).toNat)) j)))],[],0⟩ (an5 ob7 ob8 ob9 ob10 ob11) ?_;refine tN ?_;refine aaX (acZ (s':=⟨133,(f85z9),[(63,aV (([]++(x1.take ((r7).toNat)))++(x1.drop (((r7+(1:Int))).toNat))))],[],0⟩) rfl rfl ⟨.refl _,.refl _,trivial⟩ ⟨⟨_,rfl,(acK (adQ (adQ (acV (enc:=cH) [] rfl rfl (fun _=>rfl)) (RL.takeL (by first|omega|(simp only[aaH,aaS,abT,abG,aaZ]at *;omega)|(simp;done)|(simp_all;done)|(simp_all;omega)|rfl))) RL.dropL))⟩,trivial⟩) ?_;refine aaX (aaL (acQ (aT 63 3000) (aD 63 3000) rfl) (LR (s':=⟨133,[(4,.own 3000),(5,.str ([111,107]:aaA))],[(3000,aV (([]++(x1.take ((r7).toNat)))++(x1.drop (((r7+(1:Int))).toNat))))],[],0⟩))) ?_;obtain rfl:=aaD h;refine aaX (LR (s':=⟨133,[(4,.own 3000),(5,.str ([111,107]:aaA))],[(3000,aV (([]++(x1.take ((r7).toNat)))++(x1.drop (((r7+(1:Int))).toNat))))],[],0⟩)) ?_;refine aaG (kR (aS ?_));exact bK
     ·replace h:=aG hc5 h;refine aN [] [] [0,3,6,9,10,30,73] [3,12] trivial ?_;refine cK (x2==(5:Int)) (fun hc7=> ?_) fun hc7=> ?_
      ·replace h:=aF hc7 h;refine aaE (aN [] [] [0,3,6,9,10,76] [3,12] trivial ?_);refine cK (yM r7) (fun hc8=> ?_) fun hc8=> ?_
       ·replace h:=aF hc8 h;refine bJ [] [] ⟨133,(f85z7),(sX x1),[],0⟩ trivial ?_;refine aaX (aaL (acQ (aT 12 3000) (aD 12 3000) rfl) (LR (s':=⟨133,(aBD),(iF x1),[],0⟩))) ?_;obtain rfl:=aaD h;refine aaX (LR (s':=⟨133,(aBD),(iF x1),[],0⟩)) ?_;refine aaG (tR (kR (aS ?_)));exact bK
       ·replace h:=aG hc8 h;refine aaF (tN (aaE ?_));obtain⟨ob12,h⟩:=aB h;refine bG [] [] [0,3,6,9,10,85] [3,12] (an1 ob12) ?_;refine tN (cK (!(((x1.getD ((r7).toNat) aR).2.1)==x4)) (fun hc9=> ?_) fun hc9=> ?_)
        ·replace h:=aF hc9 h;refine aaE ?_;obtain⟨ob13,ob14,h⟩:=ck2 h;refine bH [] [] ⟨133,[(4,.own 12),(5,.str (([110,111,32]:aaA)++((x1.getD ((r7).toNat) aR).2.1)))],(sX x1),[],0⟩ (an2 ob13 ob14) ?_;refine tN (aaX (aaL (acQ (aT 12 3000) (aD 12 3000) rfl) (LR (s':=⟨133,[(4,.own 3000),(5,.str (([110,111,32]:aaA)++((x1.getD ((r7).toNat) aR).2.1)))],(iF x1),[],0⟩))) ?_);obtain rfl:=aaD h;refine aaX (LR (s':=⟨133,[(4,.own 3000),(5,.str (([110,111,32]:aaA)++((x1.getD ((r7).toNat) aR).2.1)))],(iF x1),[],0⟩)) ?_;refine aaG (kR (aS ?_));exact bK
        ·replace h:=aG hc9 h;refine aaF (kN ?_);exact jN (x5) LR h
      ·replace h:=aG hc7 h;refine bJ [] [] ⟨133,[(0,aY x1),(3,.ptr 3 0),(6,.own 12),(9,.i r7),(10,.str x5),(93,.bool (x2==(4:Int)))],(aBE x2 x3 x4 x5 x1),[],0⟩ trivial ?_;refine cK (x2==(4:Int)) (fun hc10=> ?_) fun hc10=> ?_
       ·replace h:=aF hc10 h;obtain⟨K2,hK2,h⟩:=aO h;refine aaU (α:=aaA) (fun(s11:aaA)=>⟨133,[(0,aY x1),(3,.ptr 3 0),(6,.own 12),(9,.i r7),(10,.str s11)],(aBE x2 x3 x4 x5 x1),[],0⟩) (fun x=>K2 x=some r) ?_ ?_
        ·refine aN [] [] [0,3,6,9,10,96] [3,12] trivial ?_;refine cK (decide (r7>=(0:Int))) (fun hc11=> ?_) fun hc11=> ?_
         ·replace h:=aF hc11 h;obtain⟨ob15,ob16,h⟩:=ck2 h;refine bH [] [] ⟨133,[(0,aY x1),(3,.ptr 3 0),(6,.own 12),(9,.i r7),(10,.str (((x1.getD ((r7).toNat) aR).2.1)++x5))],(aBE x2 x3 x4 x5 x1),[],0⟩ (an2 ob15 ob16) ?_;exact jN ((((x1.getD ((r7).toNat) aR).2.1)++x5)) LR h
         ·replace h:=aG hc11 h;refine aaF ?_;exact jN (x5) LR h
        ·rintro s11 h;replace h:=(congrFun hK2 _).symm.trans h;refine aN [] [] [0,3,6,9,10,107] [3,12] trivial ?_;refine cK (decide ((lZ s11)>(256:Int))) (fun hc12=> ?_) fun hc12=> ?_
         ·replace h:=aF hc12 h;refine bJ [] [] ⟨133,[(4,.own 12),(5,.str (f85z10))],(sX x1),[],0⟩ trivial ?_;refine aaX (aaL (acQ (aT 12 3000) (aD 12 3000) rfl) (LR (s':=⟨133,[(4,.own 3000),(5,.str (f85z10))],(iF x1),[],0⟩))) ?_;obtain rfl:=aaD h;refine aaX (LR (s':=⟨133,[(4,.own 3000),(5,.str (f85z10))],(iF x1),[],0⟩)) ?_;refine aaG (kR (aS ?_));exact bK
         ·replace h:=aG hc12 h;refine aaF (kN ?_);exact jN (s11) LR h
       ·replace h:=aG hc10 h;refine aaF (kN ?_);exact jN (x5) LR h
  ·rintro s10 h;replace h:=(congrFun hK1 _).symm.trans h;refine aaE (aaE (bG [] [] [0,3,6,10,115] [3,12] (an3 (an1 (idA (((yM r7)==true)=true))) (an1 (idA (((yM r7)==true)=true))) (bqA (yM r7) true)) ?_));refine tN (cK ((yM r7)&&(decide ((lZ x1)>=(64:Int)))) (fun hc13=> ?_) fun hc13=> ?_)
   ·replace h:=aF hc13 h;refine bJ [] [] ⟨133,[(4,.own 12),(5,.str (f85z11))],(sX x1),[],0⟩ trivial ?_;refine aaX (aaL (acQ (aT 12 3000) (aD 12 3000) rfl) (LR (s':=⟨133,[(4,.own 3000),(5,.str (f85z11))],(iF x1),[],0⟩))) ?_;obtain rfl:=aaD h;refine aaX (LR (s':=⟨133,[(4,.own 3000),(5,.str (f85z11))],(iF x1),[],0⟩)) ?_;refine aaG (tR ?_);exact bK
   ·replace h:=aG hc13 h;refine aaF (tN (aaE ?_));obtain⟨r12,hr12,h⟩:=bind_ok h;refine bG [] [(4,⟨[aY x1,.str x3,.str s10],[],[],(f85z8 r12),.own 6001,[6001],[],[]⟩)] [3,11] [3,6001] (an1 (cpT (aE.ren (aT 3000 6001) (aD 3000 6001) rfl (f118_ok _ _ _ _ hr12)))) ?_;refine tN (aaE ?_);obtain⟨r13,hr13,h⟩:=bind_ok h;obtain⟨r14,hr14,h⟩:=bind_ok h;obtain⟨ob20,ob21,ob22,h⟩:=ck3 h;refine bH [] [(5,⟨[aY r12,.str x3],[],[],[],.i r13,[],[6001],[]⟩),(9,⟨[.i (r12.getD ((r13).toNat) aR).2.2],[],[],[],.str r14,[],[],[]⟩)] ⟨133,[(4,.own 6001),(5,.str (([111,107,32]:aaA)++r14))],(f85z8 r12),[],0⟩ (an5 (cpL (c:=true) (f85z8 r12) [6001] [.own 6001,.str x3] (fun _=>(f116_ok _ _ _ hr13)) (fun _=>⟨.refl _,.refl _,trivial⟩) (.inr ⟨rfl,trivial⟩)) ob20 ob21 (cpT (zN bB _ _ hr14)) ob22) ?_;refine tN (aaX (aaL (acQ (aT 6001 3000) (aD 6001 3000) rfl) (LR (s':=⟨133,[(4,.own 3000),(5,.str (([111,107,32]:aaA)++r14))],[(3000,aV r12)],[],0⟩))) ?_);obtain rfl:=aaD h;refine aaX (LR (s':=⟨133,[(4,.own 3000),(5,.str (([111,107,32]:aaA)++r14))],[(3000,aV r12)],[],0⟩)) ?_;refine aaG ?_;exact bK
def lL (x2:List Tq0) (x3:Int) (K2:Ty4->Option aBZ):Nat->(Nat×Ty4)->Option aBZ
 |0,_=>none
 |k+1,(n12,l13)=>
  if(decide ((n12:Int)<(((x2).length:Nat):Int)))then(
  jn (fun(l14:List Tq0)=>
  chk (((n12:Int)+(1:Int))<=9223372036854775807)<|
  (lL x2 x3 K2 k) ((n12+1),l14)
  ) fun(K3:Ty4->Option aBZ)=>
  chk ((n12:Int)<(((x2).length:Nat):Int))<|
  if(decide ((x2.getD n12 (default:Tq0)).1<x3))then(
  chk ((n12:Int)<(((x2).length:Nat):Int))<|
  chk (((l13).length+1) *32<=140737488355328)<|
  K3 (l13++[((x2.getD n12 (default:Tq0)).1,(x2.getD n12 (default:Tq0)).2.1,(x2.getD n12 (default:Tq0)).2.2)])
  )else(
  K3 l13
  )
  )else(
  K2 l13
  )
def lK (x2:List Tq0) (x3:Int) (K4:Ty4->Option aBZ):Nat->(Nat×Ty4)->Option aBZ
 |0,_=>none
 |k+1,(n16,l17)=>
  if(decide ((n16:Int)<(((x2).length:Nat):Int)))then(
  jn (fun(l18:List Tq0)=>
  chk (((n16:Int)+(1:Int))<=9223372036854775807)<|
  (lK x2 x3 K4 k) ((n16+1),l18)
  ) fun(K5:Ty4->Option aBZ)=>
  chk ((n16:Int)<(((x2).length:Nat):Int))<|
  if(decide ((x2.getD n16 (default:Tq0)).1>x3))then(
  chk ((n16:Int)<(((x2).length:Nat):Int))<|
  chk (((l17).length+1) *32<=140737488355328)<|
  K5 (l17++[((x2.getD n16 (default:Tq0)).1,(x2.getD n16 (default:Tq0)).2.1,(x2.getD n16 (default:Tq0)).2.2)])
  )else(
  K5 l17
  )
  )else(
  K4 l17
  )
abbrev eQ (x1:List Tq2) (x2:List Tq0):List V:=[vL 3 cH (default:Tq2) x1,vL 3 bX (default:Tq0) x2]
abbrev lJ (l11:List Tq2):List V:=[vL 3 cH (default:Tq2) l11,.own 6301]
abbrev fU (x3 x4:Int) (x5:aaA):List V:=[.i x3,.i x4,.str x5]
abbrev jA (x2:List Tq0) (n12:Nat):=(x2.getD n12 (default:Tq0))
abbrev f62z4 (s10:aaA) (n12:Nat):List (Nat×V):=[(2,.ptr 2 0),(3,.ptr 3 0),(4,.ptr 4 0),(8,.ptr 8 0),(9,.str s10),(12,.i (n12:Int))]
abbrev lI (x2:List Tq0) (n16:Nat):=(x2.getD n16 (default:Tq0))
abbrev f62z6 (s10:aaA) (n16:Nat):List (Nat×V):=[(2,.ptr 2 0),(3,.ptr 3 0),(4,.ptr 4 0),(8,.ptr 8 0),(9,.str s10),(13,.i (n16:Int))]
abbrev f62z7 (x1:List Tq2) (x2:List Tq0) (x3 x4:Int) (x5:aaA) (l11:List Tq2) (l13:List Tq0):aJ:=[(2,.cells 92 (eQ x1 x2)),(3,.cells 88 (fU x3 x4 x5)),(4,.cells 92 [.nils,.nils]),(8,.cells 92 (lJ l11)),(6301,bL 160 3 bX (default:Tq0) l13)]
abbrev f62z8 (l11:List Tq2):List V:=[vL 3 cH (default:Tq2) l11,.own 90]
abbrev f62z9 (s10:aaA) (n12:Nat):List (Nat×V):=[(2,.ptr 2 0),(3,.ptr 3 0),(4,.ptr 4 0),(8,.ptr 8 0),(9,.str s10),(12,.i (((n12+1):Nat):Int))]
abbrev f62z10 (s10:aaA):List (Nat×V):=[(2,.ptr 2 0),(3,.ptr 3 0),(4,.ptr 4 0),(8,.ptr 8 0),(9,.str s10),(12,.i (0:Int))]
abbrev f62z11 (x1:List Tq2) (x2:List Tq0) (x3 x4:Int) (x5:aaA) (l11:List Tq2) (l17:List Tq0):aJ:=[(2,.cells 92 (eQ x1 x2)),(3,.cells 88 (fU x3 x4 x5)),(4,.cells 92 [.nils,.nils]),(8,.cells 92 (lJ l11)),(6301,bL 160 3 bX (default:Tq0) l17)]
abbrev aAC (s10:aaA):List (Nat×V):=[(2,.ptr 2 0),(3,.ptr 3 0),(4,.ptr 4 0),(8,.ptr 8 0),(9,.str s10)]
abbrev f62z13 (s10:aaA) (n12:Nat) (x2:List Tq0) (x3:Int):List (Nat×V):=[(2,.ptr 2 0),(3,.ptr 3 0),(4,.ptr 4 0),(8,.ptr 8 0),(9,.str s10),(12,.i (n12:Int)),(81,.bool (decide ((jA x2 n12).1<x3)))]
abbrev kD :=Tq0
abbrev f62z16 (r9:aaA×Ty6):List (Nat×V):=[(2,.ptr 2 0),(3,.ptr 3 0),(4,.ptr 4 0),(8,.ptr 8 0),(9,.str r9.1)]
abbrev f62z17 (x1:List Tq2) (x2:List Tq0) (x3 x4:Int) (x5:aaA) (l11:List Tq2):aJ:=[(2,.cells 92 (eQ x1 x2)),(3,.cells 88 (fU x3 x4 x5)),(4,.cells 92 [.nils,.nils]),(8,.cells 92 [vL 3 cH (default:Tq2) l11,.nils])]
abbrev f62z19 (r8:Tq9):List V:=[.i r8.1,.str r8.2.1,.str r8.2.2.1,.str r8.2.2.2.1]
abbrev f62z20 (x1:List Tq2) (x2:List Tq0) (x3 x4:Int) (x5:aaA) (l11:List Tq2) (l15:List Tq0) (s10:aaA):aJ:=[(2,.cells 92 (eQ x1 x2)),(3,.cells 88 (fU x3 x4 x5)),(4,.cells 92 [.nils,.nils]),(8,.cells 92 (lJ l11)),(6301,bL 160 3 bX (default:Tq0) (l15++[(x3,x4,s10)]))]
abbrev f62z21 (x1:List Tq2) (x2:List Tq0) (x3 x4:Int) (x5:aaA) (l11:List Tq2) (l18:List Tq0):aJ:=[(2,.cells 92 (eQ x1 x2)),(3,.cells 88 (fU x3 x4 x5)),(4,.cells 92 [.nils,.nils]),(8,.cells 92 (lJ l11)),(6301,bL 160 3 bX (default:Tq0) l18)]
def f62 (x1:List Tq2) (x2:List Tq0) (x3 x4:Int) (x5:aaA):Option aBZ:=
 (f64 (1:Int) (0:Int) [(x3,x4,x5)]).bind fun r6=>
 if(r6 !=(0:Int))then(
 some (x1,x2,cs3)
 )else(
 (f83 x1 x2 x3).bind fun r7=>
 if(r7.2.2.2&&(decide (r7.2.1>x4)))then(
 some (x1,x2,cs4)
 )else(
 if(r7.2.2.2&&(r7.2.1==x4))then(
 some (x1,x2,r7.2.2.1)
 )else(
 (f84 x5).bind fun r8=>
 jn (fun((s10,l11):aaA×Ty6)=>
 jn (fun(l15:List Tq0)=>
 chk (((l15).length+1) *32<=140737488355328)<|
 jn (fun(l19:List Tq0)=>
 some (l11,l19,s10)
 ) fun(K4:Ty4->Option aBZ)=>
 lK x2 x3 K4 bB (0,(l15++[(x3,x4,s10)]))
 ) fun(K2:Ty4->Option aBZ)=>
 lL x2 x3 K2 bB (0,[])
 ) fun(K1:(aaA×Ty6)->Option aBZ)=>
 if(r8.2.2.2.2==(0:Int))then(
 (f85 x1 r8.1 r8.2.1 r8.2.2.1 r8.2.2.2.1).bind fun r9=>
 K1 (r9.1,r9.2)
 )else(
 K1 (cs5,x1)
 )
 )
 )
 )
theorem f62_ok (x1:List Tq2) (x2:List Tq0) (x3 x4:Int) (x5:aaA) (r:Ty6×Ty4×aaA) (h:f62 x1 x2 x3 x4 x5=some r):aE Tryz.prog 62 [] [] [] [.agg [vL 3 cH (default:Tq2) x1,vL 3 bX (default:Tq0) x2],.agg [.i x3,.i x4,.str x5]] (.tup [.agg [vL 3 cH (default:Tq2) r.1,vL 3 bX (default:Tq0) r.2.1],.str r.2.2]) []:=by
 unfold f62 at h;refine aE.bodyD [4] 0 _ _ Tryz.func62 rfl Tryz.ntmps62 rfl rfl ?_;refine aN [] [] [2,3,4] [2,3,4] trivial ?_;refine aaE (aaE ?_);obtain⟨r6,hr6,h⟩:=bind_ok h;refine bG [] [(3,⟨[.agg [.i (1:Int),.i (0:Int),bC [(x3,x4,x5)]]],[],[],[],.i r6,[],[15],[]⟩)] [2,3,4,18] [2,3,4] (an1 (cpL (c:=true) [(15,.rows 88 3 1 (dN 3 (fU x3 x4 x5)))] [15] [.agg [.i (1:Int),.i (0:Int),.own 15]] (fun _=>(f64_ok _ _ _ _ hr6)) (fun _=>⟨(.aggs ⟨.refl _,.refl _,(VLe.of (acV (enc:=bX) [(x3,x4,x5)] rfl rfl (fun _=>rfl))),trivial⟩),trivial⟩) (.inr ⟨rfl,trivial⟩))) ?_;refine tN (cK (r6 !=(0:Int)) (fun hc1=> ?_) fun hc1=> ?_)
 ·replace h:=aF hc1 h;refine bJ [] [] ⟨131,[(4,.ptr 4 0),(5,.str cs3)],[(4,.cells 92 (eQ x1 x2))],[],0⟩ (an1 trivial) ?_;obtain rfl:=aaD h;refine aaG (tR ?_);exact bD
 ·replace h:=aG hc1 h;refine aaF (tN (aaE ?_));obtain⟨r7,hr7,h⟩:=bind_ok h;refine bG [] [(3,⟨[.agg (eQ x1 x2),.i x3],[],[],[],.tup [.agg [.i r7.1,.i r7.2.1,.str r7.2.2.1],.bool r7.2.2.2],[],[],[]⟩)] [2,3,4,6,7] [2,3,4,6] (an2 (cpT (f83_ok _ _ _ _ hr7)) trivial) ?_;refine tN (aaE (aaE (bG [] [] [2,3,4,6,7,34] [2,3,4,6] (an4 (an1 (idA ((r7.2.2.2==true)=true))) (an1 (idA ((r7.2.2.2==true)=true))) (an2 (idA ((r7.2.2.2==true)=true)) (idA ((r7.2.2.2==true)=true))) (bqA (r7.2.2.2) true)) ?_)));refine tN (cK (r7.2.2.2&&(decide (r7.2.1>x4))) (fun hc2=> ?_) fun hc2=> ?_)
  ·replace h:=aF hc2 h;refine bJ [] [] ⟨131,[(4,.ptr 4 0),(5,.str cs4)],[(4,.cells 92 (eQ x1 x2))],[],0⟩ (an1 trivial) ?_;obtain rfl:=aaD h;refine aaG (tR ?_);exact bD
  ·replace h:=aG hc2 h;refine aaF (tN (aaE (aaE (bG [] [] [2,3,4,6,43] [2,3,4,6] (an4 (an1 (idA ((r7.2.2.2==true)=true))) (an1 (idA ((r7.2.2.2==true)=true))) (an2 (idA ((r7.2.2.2==true)=true)) (idA ((r7.2.2.2==true)=true))) (bqA (r7.2.2.2) true)) ?_))));refine tN (cK (r7.2.2.2&&(r7.2.1==x4)) (fun hc3=> ?_) fun hc3=> ?_)
   ·replace h:=aF hc3 h;refine bJ [] [] ⟨131,[(4,.ptr 4 0),(5,.str r7.2.2.1)],[(4,.cells 92 (eQ x1 x2))],[],0⟩ (an1 trivial) ?_;obtain rfl:=aaD h;refine aaG (tR ?_);exact bD
   ·replace h:=aG hc3 h;refine aaF (tN (aN [] [] [2,3,4,8] [2,3,4,8] (an1 trivial) ?_));refine aN [] [] [2,3,4,8,9] [2,3,4,8] trivial ?_;refine aaE ?_;obtain⟨r8,hr8,h⟩:=bind_ok h;refine bH [] [(2,⟨[.str x5],[],[],[],.tup [.agg (f62z19 r8),.i r8.2.2.2.2],[],[],[]⟩)] ⟨131,[(2,.ptr 2 0),(3,.ptr 3 0),(4,.ptr 4 0),(8,.ptr 8 0),(9,.str cs5),(10,.ptr 10 0),(11,.i r8.2.2.2.2)],[(2,.cells 92 (eQ x1 x2)),(3,.cells 88 (fU x3 x4 x5)),(4,.cells 92 [.nils,.nils]),(8,.cells 92 [aY x1,.nils]),(10,.cells 164 (f62z19 r8))],[],0⟩ (an2 (cpT (f84_ok _ _ hr8)) trivial) ?_;refine tN ?_;obtain⟨K1,hK1,h⟩:=aO h;refine aaU (fun(x:aaA×Ty6)=>match x with|(s10,l11)=>⟨131,(aAC s10),(f62z17 x1 x2 x3 x4 x5 l11),[],0⟩) (fun x=>K1 x=some r) ?_ ?_
    ·refine aN [] [] [2,3,4,8,9,10,57] [2,3,4,8,10] trivial ?_;refine cK (r8.2.2.2.2==(0:Int)) (fun hc4=> ?_) fun hc4=> ?_
     ·replace h:=aF hc4 h;obtain⟨r9,hr9,h⟩:=bind_ok h;refine bH [] [(3,⟨[aY x1,.agg (f62z19 r8)],[],[],[(6001,aV r9.2)],.tup [.own 6001,.str r9.1],[6001],[],[]⟩)] ⟨131,(f62z16 r9),[(2,.cells 92 (eQ x1 x2)),(3,.cells 88 (fU x3 x4 x5)),(4,.cells 92 [.nils,.nils]),(8,.cells 92 [.own 6001,.nils]),(6001,aV r9.2)],[],0⟩ (an2 (cpT (aE.ren (aT 3000 6001) (aD 3000 6001) rfl (f85_ok _ _ _ _ _ _ hr9))) trivial) ?_;exact jN (r9.1,r9.2) (aaL (aaL (aeU 6001 rfl rfl) (LR (s':=⟨131,(f62z16 r9),[(2,.cells 92 (eQ x1 x2)),(3,.cells 88 (fU x3 x4 x5)),(4,.cells 92 [.nils,.nils]),(8,.cells 92 [aY r9.2,.nils])],[],0⟩))) LR) h
     ·replace h:=aG hc4 h;refine aaF ?_;exact jN (cs5,x1) LR h
    ·rintro⟨s10,l11⟩ h;replace h:=(congrFun hK1 _).symm.trans h;obtain⟨K2,hK2,h⟩:=aO h;refine aaU (α:=List (kD)) (fun(l15:List (kD))=>⟨131,(aAC s10),[(2,.cells 92 (eQ x1 x2)),(3,.cells 88 (fU x3 x4 x5)),(4,.cells 92 [.nils,.nils]),(8,.cells 92 (lJ l11)),(6301,bI l15)],[],0⟩) (fun x=>K2 x=some r) ?_ ?_
     ·refine bJ [] [] ⟨131,(f62z10 s10),(f62z17 x1 x2 x3 x4 x5 l11),[],0⟩ trivial ?_;refine aaJ (abI (α:=Nat×(Nat×(List (kD)))) (fun x=>match x with|(_,n12,l13)=>⟨131,(f62z4 s10 n12),(f62z7 x1 x2 x3 x4 x5 l11 l13),[],0⟩) (fun x=>lL x2 x3 K2 x.1 x.2=some r) (fun x=>x.1) (bB,0,[]) (aaL (aaL (Le.nilOwnC 8 1 6301 160 3 (cE bX aZ []) rfl rfl rfl) (LR (s':=⟨131,(f62z10 s10),[(2,.cells 92 (eQ x1 x2)),(3,.cells 88 (fU x3 x4 x5)),(4,.cells 92 [.nils,.nils]),(8,.cells 92 (lJ l11)),(6301,bI [])],[],0⟩))) LR) h ?_)
      rintro⟨k0,n12,l13⟩ h
      cases k0 with
      |zero=>exact nEx h
      |succ k0=>
      obtain⟨C0,hC0⟩:∃C,C=lL x2 x3 K2 k0:=⟨_,rfl⟩;replace h:=(lL.eq_2 ..).symm.trans h
      try rw[<-hC0]at h
      refine aaE (aN [] [] [2,3,4,8,9,12,70] [2,3,4,8,6301] trivial ?_);refine cK (decide ((n12:Int)<(lZ x2))) (fun hc5=> ?_) fun hc5=> ?_
      ·replace h:=aF hc5 h;refine aaF (tN ?_);obtain⟨K3,hK3,h⟩:=aO h;refine aaU (α:=List (kD)) (fun(l14:List (kD))=>⟨131,(f62z4 s10 n12),[(2,.cells 92 (eQ x1 x2)),(3,.cells 88 (fU x3 x4 x5)),(4,.cells 92 [.nils,.nils]),(8,.cells 92 (f62z8 l11)),(90,bI l14)],[],0⟩) (fun x=>K3 x=some r) ?_ ?_
       ·refine aaJ (aaE ?_);obtain⟨ob10p,h⟩:=aB h;refine bH [] [] ⟨131,(f62z13 s10 n12 x2 x3),(f62z7 x1 x2 x3 x4 x5 l11 l13),[],0⟩ (an1 (iN ob10p)) ?_;refine tN (cK (decide ((jA x2 n12).1<x3)) (fun hc6=> ?_) fun hc6=> ?_)
        ·replace h:=aF hc6 h;obtain⟨ob11p,h⟩:=aB h;obtain⟨ob12,h⟩:=aB h;refine bH [] [] ⟨131,(f62z4 s10 n12),[(2,.cells 92 (eQ x1 x2)),(3,.cells 88 (fU x3 x4 x5)),(4,.cells 92 [.nils,.nils]),(8,.cells 92 (lJ l11)),(6301,.rows 160 3 ((l13).length+1) (gK (l13).length (cE bX aZ l13) (dN 3 [.i (jA x2 n12).1,.i (jA x2 n12).2.1,.str (jA x2 n12).2.2])))],[],0⟩ (an3 (iN ob11p) ob12 trivial) ?_;refine kN ?_;exact jN ((l13++[((jA x2 n12).1,(jA x2 n12).2.1,(jA x2 n12).2.2)])) (aaL (acZ (s':=⟨131,(f62z4 s10 n12),[(2,.cells 92 (eQ x1 x2)),(3,.cells 88 (fU x3 x4 x5)),(4,.cells 92 [.nils,.nils]),(8,.cells 92 (lJ l11)),(6301,bI (l13++[((jA x2 n12).1,(jA x2 n12).2.1,(jA x2 n12).2.2)]))],[],0⟩) rfl rfl ⟨.refl _,.refl _,.refl _,.refl _,.refl _,.refl _,trivial⟩ ⟨⟨_,rfl,.refl _⟩,⟨_,rfl,.refl _⟩,⟨_,rfl,.refl _⟩,⟨_,rfl,.refl _⟩,⟨_,rfl,(acK (adQ (acX _) (acV (enc:=bX) [((jA x2 n12).1,(jA x2 n12).2.1,(jA x2 n12).2.2)] rfl rfl (fun _=>rfl))))⟩,trivial⟩) (aaL (aaL (acQ (aT 6301 90) (aD 6301 90) rfl) (LR (s':=⟨131,(f62z4 s10 n12),[(2,.cells 92 (eQ x1 x2)),(3,.cells 88 (fU x3 x4 x5)),(4,.cells 92 [.nils,.nils]),(8,.cells 92 (f62z8 l11)),(90,bI (l13++[((jA x2 n12).1,(jA x2 n12).2.1,(jA x2 n12).2.2)]))],[],0⟩))) LR)) h
        ·replace h:=aG hc6 h;refine aaF (kN ?_);exact jN (l13) (aaL (aaL (acQ (aT 6301 90) (aD 6301 90) rfl) (LR (s':=⟨131,(f62z13 s10 n12 x2 x3),[(2,.cells 92 (eQ x1 x2)),(3,.cells 88 (fU x3 x4 x5)),(4,.cells 92 [.nils,.nils]),(8,.cells 92 (f62z8 l11)),(90,bI l13)],[],0⟩))) LR) h
       ·rintro l14 h;replace h:=(congrFun hK3 _).symm.trans h;obtain⟨ob13p,h⟩:=aB h;refine bH [] [] ⟨131,(f62z9 s10 n12),[(2,.cells 92 (eQ x1 x2)),(3,.cells 88 (fU x3 x4 x5)),(4,.cells 92 [.nils,.nils]),(8,.cells 92 (f62z8 l11)),(90,bI l14)],[],0⟩ (an1 (iP ob13p)) ?_;rw[hC0]at h;exact lN (_,(n12+1),l14) (aaL (aaL (acQ (aT 90 6301) (aD 90 6301) rfl) (LR (s':=⟨131,(f62z9 s10 n12),[(2,.cells 92 (eQ x1 x2)),(3,.cells 88 (fU x3 x4 x5)),(4,.cells 92 [.nils,.nils]),(8,.cells 92 (lJ l11)),(6301,bI l14)],[],0⟩))) LR) h (aaK _)
      ·replace h:=aG hc5 h;refine abK (tE (tE (kS ?_)));exact jN (l13) LR h
     ·rintro l15 h;replace h:=(congrFun hK2 _).symm.trans h;refine aaE ?_;obtain⟨ob14,h⟩:=aB h;refine bH [] [] ⟨131,(aAC s10),[(2,.cells 92 (eQ x1 x2)),(3,.cells 88 (fU x3 x4 x5)),(4,.cells 92 [.nils,.nils]),(8,.cells 92 (lJ l11)),(6301,.rows 160 3 ((l15).length+1) (gK (l15).length (cE bX aZ l15) (dN 3 [.i x3,.i x4,.str s10])))],[],0⟩ (an2 ob14 trivial) ?_;refine tN (aaX (acZ (s':=⟨131,(aAC s10),(f62z20 x1 x2 x3 x4 x5 l11 l15 s10),[],0⟩) rfl rfl ⟨.refl _,.refl _,.refl _,.refl _,.refl _,trivial⟩ ⟨⟨_,rfl,.refl _⟩,⟨_,rfl,.refl _⟩,⟨_,rfl,.refl _⟩,⟨_,rfl,.refl _⟩,⟨_,rfl,(acK (adQ (acX _) (acV (enc:=bX) [(x3,x4,s10)] rfl rfl (fun _=>rfl))))⟩,trivial⟩) ?_);obtain⟨K4,hK4,h⟩:=aO h;refine aaU (α:=List (kD)) (fun(l19:List (kD))=>⟨131,[(4,.ptr 4 0),(8,.ptr 8 0),(9,.str s10)],[(4,.cells 92 [.nils,.nils]),(8,.cells 92 (lJ l11)),(6301,bI l19)],[],0⟩) (fun x=>K4 x=some r) ?_ ?_
      ·refine aN [] [] [2,3,4,8,9,13] [2,3,4,8,6301] trivial ?_;refine aaJ (abI (α:=Nat×(Nat×(List (kD)))) (fun x=>match x with|(_,n16,l17)=>⟨131,(f62z6 s10 n16),(f62z11 x1 x2 x3 x4 x5 l11 l17),[],0⟩) (fun x=>lK x2 x3 K4 x.1 x.2=some r) (fun x=>x.1) (bB,0,(l15++[(x3,x4,s10)])) LR h ?_)
       rintro⟨k1,n16,l17⟩ h
       cases k1 with
       |zero=>exact nEx h
       |succ k1=>
       obtain⟨C1,hC1⟩:∃C,C=lK x2 x3 K4 k1:=⟨_,rfl⟩;replace h:=(lK.eq_2 ..).symm.trans h
       try rw[<-hC1]at h
       refine aaE (aN [] [] [2,3,4,8,9,13,107] [2,3,4,8,6301] trivial ?_);refine cK (decide ((n16:Int)<(lZ x2))) (fun hc7=> ?_) fun hc7=> ?_
       ·replace h:=aF hc7 h;refine aaF (tN ?_);obtain⟨K5,hK5,h⟩:=aO h;refine aaU (α:=List (kD)) (fun(l18:List (kD))=>⟨131,(f62z6 s10 n16),(f62z21 x1 x2 x3 x4 x5 l11 l18),[],0⟩) (fun x=>K5 x=some r) ?_ ?_
        ·refine aaJ (aaE ?_);obtain⟨ob15p,h⟩:=aB h;refine bH [] [] ⟨131,[(2,.ptr 2 0),(3,.ptr 3 0),(4,.ptr 4 0),(8,.ptr 8 0),(9,.str s10),(13,.i (n16:Int)),(118,.bool (decide ((lI x2 n16).1>x3)))],(f62z11 x1 x2 x3 x4 x5 l11 l17),[],0⟩ (an1 (iN ob15p)) ?_;refine tN (cK (decide ((lI x2 n16).1>x3)) (fun hc8=> ?_) fun hc8=> ?_)
         ·replace h:=aF hc8 h;obtain⟨ob16p,h⟩:=aB h;obtain⟨ob17,h⟩:=aB h;refine bH [] [] ⟨131,(f62z6 s10 n16),[(2,.cells 92 (eQ x1 x2)),(3,.cells 88 (fU x3 x4 x5)),(4,.cells 92 [.nils,.nils]),(8,.cells 92 (lJ l11)),(6301,.rows 160 3 ((l17).length+1) (gK (l17).length (cE bX aZ l17) (dN 3 [.i (lI x2 n16).1,.i (lI x2 n16).2.1,.str (lI x2 n16).2.2])))],[],0⟩ (an3 (iN ob16p) ob17 trivial) ?_;refine kN ?_;exact jN ((l17++[((lI x2 n16).1,(lI x2 n16).2.1,(lI x2 n16).2.2)])) (aaL (acZ (s':=⟨131,(f62z6 s10 n16),[(2,.cells 92 (eQ x1 x2)),(3,.cells 88 (fU x3 x4 x5)),(4,.cells 92 [.nils,.nils]),(8,.cells 92 (lJ l11)),(6301,bI (l17++[((lI x2 n16).1,(lI x2 n16).2.1,(lI x2 n16).2.2)]))],[],0⟩) rfl rfl ⟨.refl _,.refl _,.refl _,.refl _,.refl _,.refl _,trivial⟩ ⟨⟨_,rfl,.refl _⟩,⟨_,rfl,.refl _⟩,⟨_,rfl,.refl _⟩,⟨_,rfl,.refl _⟩,⟨_,rfl,(acK (adQ (acX _) (acV (enc:=bX) [((lI x2 n16).1,(lI x2 n16).2.1,(lI x2 n16).2.2)] rfl rfl (fun _=>rfl))))⟩,trivial⟩) LR) h
         ·replace h:=aG hc8 h;refine aaF (kN ?_);exact jN (l17) LR h
        ·rintro l18 h;replace h:=(congrFun hK5 _).symm.trans h;obtain⟨ob18p,h⟩:=aB h;refine bG [] [] [2,3,4,8,9,13] [2,3,4,8,6301] (an1 (iP ob18p)) ?_;rw[hC1]at h;exact lN (_,(n16+1),l18) LR h (aaK _)
       ·replace h:=aG hc7 h;refine abK (tE (tE (kS ?_)));exact jN (l17) LR h
      ·rintro l19 h;replace h:=(congrFun hK4 _).symm.trans h;refine bJ [] [] ⟨131,[(4,.ptr 4 0),(5,.str s10)],[(4,.cells 92 (lJ l11)),(6301,bI l19)],[],0⟩ (an1 trivial) ?_;refine aaX (aaL (aeU 6301 rfl rfl) (LR (s':=⟨131,[(4,.ptr 4 0),(5,.str s10)],[(4,.cells 92 [aY l11,bC l19])],[],0⟩))) ?_;obtain rfl:=aaD h;refine aaX (LR (s':=⟨131,[(4,.ptr 4 0),(5,.str s10)],[(4,.cells 92 [aY l11,bC l19])],[],0⟩)) ?_;refine aaG ?_;exact bD
def nK (r4:Int×Int×Ty4×Int) (K1:(Ty6×Ty4×Ty4)->Option (Ty6×Ty4×Ty4)):Nat->(Nat×Ty6×Ty4×Ty4)->Option (Ty6×Ty4×Ty4)
 |0,_=>none
 |k+1,(n5,l6,l7,l8)=>
  if(decide ((n5:Int)<(((r4.2.2.1).length:Nat):Int)))then(
  chk ((n5:Int)<(((r4.2.2.1).length:Nat):Int))<|
  (f62 l6 l7 ((r4.2.2.1.getD n5 (default:Tq0)).1) ((r4.2.2.1.getD n5 (default:Tq0)).2.1) ((r4.2.2.1.getD n5 (default:Tq0)).2.2)).bind fun r9=>
  chk (((l8).length+1) *32<=140737488355328)<|
  chk (((n5:Int)+(1:Int))<=9223372036854775807)<|
  (nK r4 K1 k) ((n5+1),r9.1,r9.2.1,(l8++[((r4.2.2.1.getD n5 (default:Tq0)).1,(r4.2.2.1.getD n5 (default:Tq0)).2.1,r9.2.2)]))
  )else(
  K1 (l6,l7,l8)
  )
abbrev aBL (r4:Int×Int×Ty4×Int):List V:=[.i r4.1,.i r4.2.1,vL 3 bX (default:Tq0) r4.2.2.1]
abbrev f37z1 (x1:List Tq2) (x2:List Tq0):List V:=[vL 3 cH (default:Tq2) x1,vL 3 bX (default:Tq0) x2]
abbrev pU (r4:Int×Int×Ty4×Int) (n5:Nat):=(r4.2.2.1.getD n5 (default:Tq0))
abbrev f37z3 (r9:Ty6×Ty4×aaA):List V:=[vL 3 cH (default:Tq2) r9.1,vL 3 bX (default:Tq0) r9.2.1]
abbrev f37z4 (l6:List Tq2) (l7:List Tq0):List V:=[vL 3 cH (default:Tq2) l6,vL 3 bX (default:Tq0) l7]
abbrev f37z5 (l10:List Tq2) (l11:List Tq0):List V:=[vL 3 cH (default:Tq2) l10,vL 3 bX (default:Tq0) l11]
abbrev f37z6 (n5:Nat):List (Nat×V):=[(2,.ptr 2 0),(4,.ptr 4 0),(6,.ptr 6 0),(8,.own 5008),(9,.i (n5:Int))]
abbrev f37z7 (r9:Ty6×Ty4×aaA) (r4:Int×Int×Ty4×Int) (l8:List Tq0) (n5:Nat):aJ:=[(2,.cells 92 (f37z3 r9)),(4,.cells 92 [.nils,.nils]),(6,.cells 100 (aBL r4)),(5008,bL 98 3 bX (default:Tq0) (l8++[((pU r4 n5).1,(pU r4 n5).2.1,r9.2.2)]))]
abbrev f37z8 (x1:List Tq2) (x2:List Tq0) (r4:Int×Int×Ty4×Int):aJ:=[(2,.cells 92 (f37z1 x1 x2)),(4,.cells 92 [.nils,.nils]),(6,.cells 100 (aBL r4))]
abbrev f37z9 (r4:Int×Int×Ty4×Int) (n5:Nat):List V:=[.i (pU r4 n5).1,.i (pU r4 n5).2.1,.str (pU r4 n5).2.2]
abbrev aAL :=Ty4
def f37 (x1:List Tq2) (x2:List Tq0) (x3:aaA):Option (Ty6×Ty4×Ty4):=
 (f61 x3).bind fun r4=>
 if(r4.2.2.2 !=(0:Int))then(
 some (x1,x2,[])
 )else(
 jn (fun((l10,l11,l12):Ty6×Ty4×Ty4)=>
 some (l10,l11,l12)
 ) fun(K1:(Ty6×Ty4×Ty4)->Option (Ty6×Ty4×Ty4))=>
 nK r4 K1 bB (0,x1,x2,[])
 )
theorem aAM (x1:List Tq2) (x2:List Tq0) (x3:aaA) (r:Ty6×Ty4×Ty4) (h:f37 x1 x2 x3=some r):aE Tryz.prog 37 [] [] [] [.agg [vL 3 cH (default:Tq2) x1,vL 3 bX (default:Tq0) x2],.str x3] (.tup [.agg [vL 3 cH (default:Tq2) r.1,vL 3 bX (default:Tq0) r.2.1],.own 3000]) [(3000,bL 98 3 bX (default:Tq0) r.2.2)]:=by
 unfold f37 at h;refine aE.bodyD [4] 0 _ _ Tryz.func37 rfl Tryz.ntmps37 rfl rfl ?_;refine aN [] [] [1,2,4] [2,4] trivial ?_;refine aaE ?_;obtain⟨r4,hr4,h⟩:=bind_ok h;refine bG [] [(1,⟨[.str x3],[],[],[],.tup [.agg (aBL r4),.i r4.2.2.2],[],[],[]⟩)] [2,4,6,7] [2,4,6] (an2 (cpT (f61_ok _ _ hr4)) trivial) ?_;refine tN (aaE (aN [] [] [2,4,6,19] [2,4,6] trivial ?_));refine cK (r4.2.2.2 !=(0:Int)) (fun hc1=> ?_) fun hc1=> ?_
 ·replace h:=aF hc1 h;refine bJ [] [] ⟨51,[(4,.ptr 4 0),(5,.nils)],[(4,.cells 92 (f37z1 x1 x2))],[],0⟩ (an1 trivial) ?_;refine aaX (aaL (adM 5 3000 98 3 (cE bX aZ []) rfl rfl (aaW rfl)) (LR (s':=⟨51,[(4,.ptr 4 0),(5,.own 3000)],[(4,.cells 92 (f37z1 x1 x2)),(3000,bR [])],[],0⟩))) ?_;obtain rfl:=aaD h;refine aaX (LR (s':=⟨51,[(4,.ptr 4 0),(5,.own 3000)],[(3000,bR []),(4,.cells 92 (f37z1 x1 x2))],[],0⟩)) ?_;refine aaG (tR ?_);exact bD
 ·replace h:=aG hc1 h;refine aaF (tN (aN [] [] [2,4,6,8] [2,4,6] trivial ?_));obtain⟨K1,hK1,h⟩:=aO h;refine aaU (fun(x:Ty6×(aAL)×(aAL))=>match x with|(l10,l11,l12)=>⟨51,[(2,.ptr 2 0),(4,.ptr 4 0),(8,.own 5008)],[(2,.cells 92 (f37z5 l10 l11)),(4,.cells 92 [.nils,.nils]),(5008,bR l12)],[],0⟩) (fun x=>K1 x=some r) ?_ ?_
  ·refine bJ [] [] ⟨51,[(2,.ptr 2 0),(4,.ptr 4 0),(6,.ptr 6 0),(8,.nils),(9,.i (0:Int))],(f37z8 x1 x2 r4),[],0⟩ trivial ?_;refine aaJ (abI (α:=Nat×(Nat×Ty6×(aAL)×(aAL))) (fun x=>match x with|(_,n5,l6,l7,l8)=>⟨51,(f37z6 n5),[(2,.cells 92 (f37z4 l6 l7)),(4,.cells 92 [.nils,.nils]),(6,.cells 100 (aBL r4)),(5008,bR l8)],[],0⟩) (fun x=>nK r4 K1 x.1 x.2=some r) (fun x=>x.1) (bB,0,x1,x2,[]) (aaL (aaL (adM 8 5008 98 3 (cE bX aZ []) rfl rfl (aaW rfl)) (LR (s':=⟨51,[(2,.ptr 2 0),(4,.ptr 4 0),(6,.ptr 6 0),(8,.own 5008),(9,.i (0:Int))],[(2,.cells 92 (f37z1 x1 x2)),(4,.cells 92 [.nils,.nils]),(6,.cells 100 (aBL r4)),(5008,bR [])],[],0⟩))) LR) h ?_)
   rintro⟨k0,n5,l6,l7,l8⟩ h
   cases k0 with
   |zero=>exact nEx h
   |succ k0=>
   obtain⟨C0,hC0⟩:∃C,C=nK r4 K1 k0:=⟨_,rfl⟩;replace h:=(nK.eq_2 ..).symm.trans h
   try rw[<-hC0]at h
   refine aaE (aN [] [] [2,4,6,8,9,25] [2,4,6,5008] trivial ?_);refine cK (decide ((n5:Int)<(lZ r4.2.2.1))) (fun hc2=> ?_) fun hc2=> ?_
   ·replace h:=aF hc2 h;refine aaF (tN (aaE (aaJ (aaE ?_))));obtain⟨ob0p,h⟩:=aB h;refine bG [] [] [2,4,6,8,9,10] [2,4,6,10,5008] (an2 (iN ob0p) trivial) ?_;refine tN (aaE ?_);obtain⟨r9,hr9,h⟩:=bind_ok h;refine bG [] [(2,⟨[.agg (f37z4 l6 l7),.agg (f37z9 r4 n5)],[],[],[],.tup [.agg (f37z3 r9),.str r9.2.2],[],[],[]⟩)] [2,4,6,8,9,10,11,12] [2,4,6,10,11,5008] (an2 (cpT (f62_ok _ _ _ _ _ _ hr9)) trivial) ?_;refine tN (aN [] [] [2,4,6,8,9,10,12] [2,4,6,10,5008] (an1 trivial) ?_);obtain⟨ob1,h⟩:=aB h;refine bH [] [] ⟨51,(f37z6 n5),[(2,.cells 92 (f37z3 r9)),(4,.cells 92 [.nils,.nils]),(6,.cells 100 (aBL r4)),(5008,.rows 98 3 ((l8).length+1) (gK (l8).length (cE bX aZ l8) (dN 3 [.i (pU r4 n5).1,.i (pU r4 n5).2.1,.str r9.2.2])))],[],0⟩ (an1 ob1) ?_;refine kN (tN (aaX (acZ (s':=⟨51,(f37z6 n5),(f37z7 r9 r4 l8 n5),[],0⟩) rfl rfl ⟨.refl _,.refl _,.refl _,.refl _,.refl _,trivial⟩ ⟨⟨_,rfl,.refl _⟩,⟨_,rfl,.refl _⟩,⟨_,rfl,.refl _⟩,⟨_,rfl,(acK (adQ (acX _) (acV (enc:=bX) [((pU r4 n5).1,(pU r4 n5).2.1,r9.2.2)] rfl rfl (fun _=>rfl))))⟩,trivial⟩) ?_));obtain⟨ob2p,h⟩:=aB h;refine bG [] [] [2,4,6,8,9] [2,4,6,5008] (an1 (iP ob2p)) ?_;rw[hC0]at h;exact lN (_,(n5+1),r9.1,r9.2.1,(l8++[((pU r4 n5).1,(pU r4 n5).2.1,r9.2.2)])) LR h (aaK _)
   ·replace h:=aG hc2 h;refine abK (tE (tE (kS ?_)));exact jN (l6,l7,l8) LR h
  ·rintro⟨l10,l11,l12⟩ h;replace h:=(congrFun hK1 _).symm.trans h;refine bJ [] [] ⟨51,[(4,.ptr 4 0),(5,.own 5008)],[(4,.cells 92 (f37z5 l10 l11)),(5008,bR l12)],[],0⟩ (an1 trivial) ?_;refine aaX (aaL (acQ (aT 5008 3000) (aD 5008 3000) rfl) (LR (s':=⟨51,[(4,.ptr 4 0),(5,.own 3000)],[(4,.cells 92 (f37z5 l10 l11)),(3000,bR l12)],[],0⟩))) ?_;obtain rfl:=aaD h;refine aaX (LR (s':=⟨51,[(4,.ptr 4 0),(5,.own 3000)],[(3000,bR l12),(4,.cells 92 (f37z5 l10 l11))],[],0⟩)) ?_;refine aaG ?_;exact bD
def nF (x3:Nat) (x4:List Ty1) (K1:(Ty6×Ty4)->Option (Ty6×Ty4)):Nat->(Nat×Ty6×Ty4)->Option (Ty6×Ty4)
 |0,_=>none
 |k+1,(n5,l6,l7)=>
  if(decide ((n5:Int)<(x3:Int)))then(
  (f37 l6 l7 (x4.getD (0+n5) [])).bind fun r8=>
  chk ((n5:Int)<(x3:Int))<|
  chk ((0+n5)<(x4).length)<|
  chk (((n5:Int)+(1:Int))<=9223372036854775807)<|
  (nF x3 x4 K1 k) ((n5+1),r8.1,r8.2.1)
  )else(
  K1 (l6,l7)
  )
abbrev f63z0 (x1:List Tq2) (x2:List Tq0) (x4:List Ty1):aJ:=[(2,.cells 92 [vL 3 cH (default:Tq2) x1,vL 3 bX (default:Tq0) x2]),(4,.cells 92 [.nils,.nils]),(2000,bL 9 1 eS [] x4)]
abbrev f63z1 (l6:List Tq2) (l7:List Tq0) (x4:List Ty1):aJ:=[(2,.cells 92 [vL 3 cH (default:Tq2) l6,vL 3 bX (default:Tq0) l7]),(4,.cells 92 [.nils,.nils]),(2000,bL 9 1 eS [] x4)]
abbrev f63z2 (r8:Ty6×Ty4×Ty4) (x4:List Ty1):aJ:=[(2,.cells 92 [vL 3 cH (default:Tq2) r8.1,vL 3 bX (default:Tq0) r8.2.1]),(4,.cells 92 [.nils,.nils]),(2000,bL 9 1 eS [] x4)]
abbrev f63z3 (l9:List Tq2) (l10:List Tq0):List V:=[vL 3 cH (default:Tq2) l9,vL 3 bX (default:Tq0) l10]
def f63 (x1:List Tq2) (x2:List Tq0) (x3:Nat) (x4:List Ty1):Option (Ty6×Ty4):=
 jn (fun((l9,l10):Ty6×Ty4)=>
 some (l9,l10)
 ) fun(K1:(Ty6×Ty4)->Option (Ty6×Ty4))=>
 nF x3 x4 K1 bB (0,x1,x2)
theorem f63_ok (x1:List Tq2) (x2:List Tq0) (x3:Nat) (x4:List Ty1) (r:Ty6×Ty4) (h:f63 x1 x2 x3 x4=some r):aE Tryz.prog 63 [] [2000] [(2000,bL 9 1 eS [] x4)] [.agg [vL 3 cH (default:Tq2) x1,vL 3 bX (default:Tq0) x2],.osl 2000 1 0 x3] (.agg [vL 3 cH (default:Tq2) r.1,vL 3 bX (default:Tq0) r.2]) [(2000,bL 9 1 eS [] x4)]:=by
 unfold f63 at h;refine aE.bodyD [4] 0 _ _ Tryz.func63 rfl Tryz.ntmps63 rfl rfl ?_;refine aN [] [] [1,2,4] [2,4,2000] trivial ?_;obtain⟨K1,hK1,h⟩:=aO h;refine aaU (fun(x:Ty6×Ty4)=>match x with|(l9,l10)=>⟨22,[(2,.ptr 2 0),(4,.ptr 4 0)],[(2,.cells 92 (f63z3 l9 l10)),(4,.cells 92 [.nils,.nils]),(2000,aK x4)],[2000],0⟩) (fun x=>K1 x=some r) ?_ ?_
 ·refine bJ [] [] ⟨22,[(1,.osl 2000 1 0 x3),(2,.ptr 2 0),(4,.ptr 4 0),(5,.i (0:Int))],(f63z0 x1 x2 x4),[2000],0⟩ trivial ?_;refine aaJ (abI (α:=Nat×(Nat×Ty6×Ty4)) (fun x=>match x with|(_,n5,l6,l7)=>⟨22,[(1,.osl 2000 1 0 x3),(2,.ptr 2 0),(4,.ptr 4 0),(5,.i (n5:Int))],(f63z1 l6 l7 x4),[2000],0⟩) (fun x=>nF x3 x4 K1 x.1 x.2=some r) (fun x=>x.1) (bB,0,x1,x2) LR h ?_)
  rintro⟨k0,n5,l6,l7⟩ h
  cases k0 with
  |zero=>exact nEx h
  |succ k0=>
  obtain⟨C0,hC0⟩:∃C,C=nF x3 x4 K1 k0:=⟨_,rfl⟩;replace h:=(nF.eq_2 ..).symm.trans h
  try rw[<-hC0]at h
  refine aaE (aN [] [] [1,2,4,5,9] [2,4,2000] trivial ?_);refine cK (decide ((n5:Int)<(x3:Int))) (fun hc1=> ?_) fun hc1=> ?_
  ·replace h:=aF hc1 h;refine aaF (tN (aaE (aaJ ?_)));obtain⟨r8,hr8,h⟩:=bind_ok h;obtain⟨ob0p,h⟩:=aB h;obtain⟨ob1,h⟩:=aB h;refine bH [] [(5,⟨[.agg [aY l6,bC l7],.str (x4.getD (0+n5) [])],[],[],[(6001,bR r8.2.2)],.tup [.agg [aY r8.1,bC r8.2.1],.own 6001],[6001],[],[]⟩)] ⟨22,[(1,.osl 2000 1 0 x3),(2,.ptr 2 0),(4,.ptr 4 0),(5,.i (n5:Int))],(f63z2 r8 x4),[2000],0⟩ (an4 (iN ob0p) ob1 (cpT (aE.ren (aT 3000 6001) (aD 3000 6001) rfl (aAM _ _ _ _ hr8))) trivial) ?_;refine kN (tN ?_);obtain⟨ob2p,h⟩:=aB h;refine bG [] [] [1,2,4,5] [2,4,2000] (an1 (iP ob2p)) ?_;rw[hC0]at h;exact lN (_,(n5+1),r8.1,r8.2.1) LR h (aaK _)
  ·replace h:=aG hc1 h;refine abK (tE (tE (kS ?_)));exact jN (l6,l7) LR h
 ·rintro⟨l9,l10⟩ h;replace h:=(congrFun hK1 _).symm.trans h;refine aN [] [] [4] [2000,4] (an1 trivial) ?_;obtain rfl:=aaD h;refine aaG ?_;exact bD
abbrev f38z0 (r3:Ty6×Ty4):List V:=[vL 3 cH (default:Tq2) r3.1,vL 3 bX (default:Tq0) r3.2]
def f38 (x1:Nat) (x2:List Ty1):Option (Ty6×Ty4):=
 (f63 [] [] x1 x2).bind fun r3=>
 some (r3.1,r3.2)
theorem f38_ok (x1:Nat) (x2:List Ty1) (r:Ty6×Ty4) (h:f38 x1 x2=some r):aE Tryz.prog 38 [] [2000] [(2000,bL 9 1 eS [] x2)] [.osl 2000 1 0 x1] (.agg [vL 3 cH (default:Tq2) r.1,vL 3 bX (default:Tq0) r.2]) [(2000,bL 9 1 eS [] x2)]:=by
 unfold f38 at h;refine aE.bodyD [2] 0 _ _ Tryz.func38 rfl Tryz.ntmps38 rfl rfl ?_;refine aN [] [] [0,2] [2,2000] trivial ?_;refine aaE ?_;obtain⟨r3,hr3,h⟩:=bind_ok h;refine bH [] [(2,⟨[.agg [aY [],bC []],.osl 2000 1 0 x1],[2000],[2000],[(2000,aK x2)],.agg (f38z0 r3),[],[2000],[]⟩)] ⟨6,[(2,.ptr 2 0)],[(2000,aK x2),(2,.cells 92 (f38z0 r3))],[2000],0⟩ (an2 (cpR (cpL (c:=true) [] [] [.agg [.nils,.nils],.osl 2000 1 0 x1] (fun _=>(f63_ok _ _ _ _ _ hr3)) (fun _=>⟨(.aggs ⟨.nilL,.nilL,trivial⟩),.refl _,trivial⟩) (.inl rfl)) [(2000,aK x2)]) trivial) ?_;refine tN ?_;obtain rfl:=aaD h;refine aaG ?_;exact bD
abbrev f39z0 (x1 x2:Int) (x3:List Tq0):List V:=[.i x1,.i x2,vL 3 bX (default:Tq0) x3]
def f39 (x1 x2:Int) (x3:List Tq0):Option (aaA×Int):=
 (f64 x1 x2 x3).bind fun r4=>
 if(r4 !=(0:Int))then(
 some ([],r4)
 )else(
 (f65 x1 x2 x3).bind fun r5=>
 some (r5,(0:Int))
 )
theorem f39_ok (x1 x2:Int) (x3:List Tq0) (r:aaA×Int) (h:f39 x1 x2 x3=some r):aE Tryz.prog 39 [] [] [] [.agg [.i x1,.i x2,vL 3 bX (default:Tq0) x3]] (.tup [.str r.1,.i r.2]) []:=by
 unfold f39 at h;refine aE.body 0 _ _ Tryz.func39 rfl Tryz.ntmps39 rfl rfl ?_;refine aN [] [] [1] [1] trivial ?_;refine aaE (aaE ?_);obtain⟨r4,hr4,h⟩:=bind_ok h;refine bG [] [(1,⟨[.agg (f39z0 x1 x2 x3)],[],[],[],.i r4,[],[],[]⟩)] [1,4] [1] (an1 (cpT (f64_ok _ _ _ _ hr4))) ?_;refine tN (aN [] [] [1,4,8] [1] trivial ?_);refine cK (r4 !=(0:Int)) (fun hc1=> ?_) fun hc1=> ?_
 ·replace h:=aF hc1 h;refine bJ [] [] ⟨12,[(2,.str []),(3,.i r4)],[],[],0⟩ trivial ?_;obtain rfl:=aaD h;refine aaG (tR ?_);exact bK
 ·replace h:=aG hc1 h;refine aaF (tN (aaE ?_));obtain⟨r5,hr5,h⟩:=bind_ok h;refine bG [] [(1,⟨[.agg (f39z0 x1 x2 x3)],[],[],[],.str r5,[],[],[]⟩)] [2,3] [] (an1 (cpT (f65_ok _ _ _ _ hr5))) ?_;refine tN ?_;obtain rfl:=aaD h;refine aaG ?_;exact bK
abbrev yY :List V:=[.i (0:Int),.i (0:Int),.i (0:Int),.i (0:Int),.i (0:Int),.str [],.str [],.i (0:Int),.i (0:Int),.i (0:Int),.i (0:Int),.i (0:Int),.str [],.i (0:Int),.i (0:Int),.i (0:Int),.i (0:Int),.i (0:Int),.str [],.str [],.nils,.nils,.i (0:Int),.str [],.nils,.nils,.nils,.nils]
abbrev yX :List (Nat×V):=[(2,.ptr 2 0),(4,.ptr 4 0)]
abbrev f40z3 (x1 x2 i9 i10 i11:Int) (s12 s13:aaA):List V:=[.i x1,.i x2,.i i9,.i i10,.i i11,.str s12,.str s13,.opq,.opq,.opq,.opq,.opq,.opq,.opq,.opq,.opq,.opq,.opq,.opq,.opq,.opq,.opq,.opq,.opq,.opq,.opq,.opq,.opq]
def f40 (x1 x2 x3 x4 x5:Int) (x6 x7:aaA) (x8:Int):Option Tq10:=
 jn (fun((i9,i10,i11,s12,s13):Int×Int×Int×aaA×aaA)=>
 some (x1,x2,i9,i10,i11,s12,s13)
 ) fun(K1:(Int×Int×Int×aaA×aaA)->Option Tq10)=>
 if(x8==(1:Int))then(
 chk (-9223372036854775808<=(x4+(1:Int))/\(x4+(1:Int))<=9223372036854775807)<|
 K1 (x3,(x4+(1:Int)),x5,x6,x7)
 )else(
 if(x8==(2:Int))then(
 chk (-9223372036854775808<=(x5+(1:Int))/\(x5+(1:Int))<=9223372036854775807)<|
 K1 (x3,x4,(x5+(1:Int)),x6,x7)
 )else(
 if(x8==(3:Int))then(
 chk (-9223372036854775808<=(x3+(1:Int))/\(x3+(1:Int))<=9223372036854775807)<|
 chk (0<=(x3+(1:Int))/\1<=(2:Int))<|
 K1 (((x3+(1:Int))%(2:Int)),x4,x5,x6,x7)
 )else(
 if(x8==(4:Int))then(
 chk (x7.length+([120]:aaA).length<=9223372036854775807)<|
 K1 (x3,x4,x5,x6,(x7++([120]:aaA)))
 )else(
 if(x8==(5:Int))then(
 (f39 (3:Int) (0:Int) []).bind fun r14=>
 K1 (x3,x4,x5,r14.1,x7)
 )else(
 if(x8==(6:Int))then(
 K1 ((40:Int),x4,x5,x6,x7)
 )else(
 K1 (x3,x4,x5,x6,x7)
 )
 )
 )
 )
 )
 )
theorem f40_ok (x1 x2 x3 x4 x5:Int) (x6 x7:aaA) (x8:Int) (r:Tq10) (h:f40 x1 x2 x3 x4 x5 x6 x7 x8=some r):aE Tryz.prog 40 [] [] [] [.agg [.i x1,.i x2,.i x3,.i x4,.i x5,.str x6,.str x7,.opq,.opq,.opq,.opq,.opq,.opq,.opq,.opq,.opq,.opq,.opq,.opq,.opq,.opq,.opq,.opq,.opq,.opq,.opq,.opq,.opq],.int .u8 x8] (.agg [.i r.1,.i r.2.1,.i r.2.2.1,.i r.2.2.2.1,.i r.2.2.2.2.1,.str r.2.2.2.2.2.1,.str r.2.2.2.2.2.2,.opq,.opq,.opq,.opq,.opq,.opq,.opq,.opq,.opq,.opq,.opq,.opq,.opq,.opq,.opq,.opq,.opq,.opq,.opq,.opq,.opq]) []:=by
 unfold f40 at h;refine aE.bodyD [4] 0 _ _ Tryz.func40 rfl Tryz.ntmps40 rfl rfl ?_;refine aN [] [] [1,2,4] [2,4] trivial ?_;obtain⟨K1,hK1,h⟩:=aO h;refine aaU (fun(x:Int×Int×Int×aaA×aaA)=>match x with|(i9,i10,i11,s12,s13)=>⟨43,(yX),[(2,.cells 51 (f40z3 x1 x2 i9 i10 i11 s12 s13)),(4,.cells 51 (yY))],[],0⟩) (fun x=>K1 x=some r) ?_ ?_
 ·refine aN [] [] [2,4,5] [2,4] trivial ?_;refine aaJ (aN [] [] [2,4,5,6] [2,4] trivial ?_);refine cK (x8==(1:Int)) (fun hc1=> ?_) fun hc1=> ?_
  ·replace h:=aF hc1 h;obtain⟨ob0,h⟩:=aB h;refine bH [] [] ⟨43,(yX),[(2,.cells 51 [.i x1,.i x2,.i x3,.i (x4+(1:Int)),.i x5,.str x6,.str x7,.opq,.opq,.opq,.opq,.opq,.opq,.opq,.opq,.opq,.opq,.opq,.opq,.opq,.opq,.opq,.opq,.opq,.opq,.opq,.opq,.opq]),(4,.cells 51 (yY))],[],0⟩ (an2 ob0 trivial) ?_;refine kN ?_;exact jN (x3,(x4+(1:Int)),x5,x6,x7) LR h
  ·replace h:=aG hc1 h;refine aN [] [] [2,4,5,12] [2,4] trivial ?_;refine cK (x8==(2:Int)) (fun hc2=> ?_) fun hc2=> ?_
   ·replace h:=aF hc2 h;obtain⟨ob1,h⟩:=aB h;refine bH [] [] ⟨43,(yX),[(2,.cells 51 [.i x1,.i x2,.i x3,.i x4,.i (x5+(1:Int)),.str x6,.str x7,.opq,.opq,.opq,.opq,.opq,.opq,.opq,.opq,.opq,.opq,.opq,.opq,.opq,.opq,.opq,.opq,.opq,.opq,.opq,.opq,.opq]),(4,.cells 51 (yY))],[],0⟩ (an2 ob1 trivial) ?_;refine kN ?_;exact jN (x3,x4,(x5+(1:Int)),x6,x7) LR h
   ·replace h:=aG hc2 h;refine aN [] [] [2,4,5,18] [2,4] trivial ?_;refine cK (x8==(3:Int)) (fun hc3=> ?_) fun hc3=> ?_
    ·replace h:=aF hc3 h;obtain⟨ob2,ob3,h⟩:=ck2 h;refine bH [] [] ⟨43,(yX),[(2,.cells 51 [.i x1,.i x2,.i ((x3+(1:Int))%(2:Int)),.i x4,.i x5,.str x6,.str x7,.opq,.opq,.opq,.opq,.opq,.opq,.opq,.opq,.opq,.opq,.opq,.opq,.opq,.opq,.opq,.opq,.opq,.opq,.opq,.opq,.opq]),(4,.cells 51 (yY))],[],0⟩ (an3 ob2 ob3 trivial) ?_;refine kN ?_;exact jN (((x3+(1:Int))%(2:Int)),x4,x5,x6,x7) LR h
    ·replace h:=aG hc3 h;refine aN [] [] [2,4,5,25] [2,4] trivial ?_;refine cK (x8==(4:Int)) (fun hc4=> ?_) fun hc4=> ?_
     ·replace h:=aF hc4 h;obtain⟨ob4,h⟩:=aB h;refine bH [] [] ⟨43,(yX),[(2,.cells 51 [.i x1,.i x2,.i x3,.i x4,.i x5,.str x6,.str (x7++([120]:aaA)),.opq,.opq,.opq,.opq,.opq,.opq,.opq,.opq,.opq,.opq,.opq,.opq,.opq,.opq,.opq,.opq,.opq,.opq,.opq,.opq,.opq]),(4,.cells 51 (yY))],[],0⟩ (an2 ob4 trivial) ?_;refine kN ?_;exact jN (x3,x4,x5,x6,(x7++([120]:aaA))) LR h
     ·replace h:=aG hc4 h;refine aN [] [] [2,4,5,31] [2,4] trivial ?_;refine cK (x8==(5:Int)) (fun hc5=> ?_) fun hc5=> ?_
      ·replace h:=aF hc5 h;obtain⟨r14,hr14,h⟩:=bind_ok h;refine bH [] [(1,⟨[.agg [.i (3:Int),.i (0:Int),bC []]],[],[],[],.tup [.str r14.1,.i r14.2],[],[],[]⟩)] ⟨43,(yX),[(2,.cells 51 [.i x1,.i x2,.i x3,.i x4,.i x5,.str r14.1,.str x7,.opq,.opq,.opq,.opq,.opq,.opq,.opq,.opq,.opq,.opq,.opq,.opq,.opq,.opq,.opq,.opq,.opq,.opq,.opq,.opq,.opq]),(4,.cells 51 (yY))],[],0⟩ (an2 (cpL (c:=true) [] [] [.agg [.i (3:Int),.i (0:Int),.nils]] (fun _=>(f39_ok _ _ _ _ hr14)) (fun _=>⟨(.aggs ⟨.refl _,.refl _,.nilL,trivial⟩),trivial⟩) (.inl rfl)) trivial) ?_;refine kN ?_;exact jN (x3,x4,x5,r14.1,x7) LR h
      ·replace h:=aG hc5 h;refine aN [] [] [2,4,39] [2,4] trivial ?_;refine cK (x8==(6:Int)) (fun hc6=> ?_) fun hc6=> ?_
       ·replace h:=aF hc6 h;refine bH [] [] ⟨43,(yX),[(2,.cells 51 [.i x1,.i x2,.i (40:Int),.i x4,.i x5,.str x6,.str x7,.opq,.opq,.opq,.opq,.opq,.opq,.opq,.opq,.opq,.opq,.opq,.opq,.opq,.opq,.opq,.opq,.opq,.opq,.opq,.opq,.opq]),(4,.cells 51 (yY))],[],0⟩ (an1 trivial) ?_;refine kN ?_;exact jN ((40:Int),x4,x5,x6,x7) LR h
       ·replace h:=aG hc6 h;refine aaF (kN ?_);exact jN (x3,x4,x5,x6,x7) LR h
 ·rintro⟨i9,i10,i11,s12,s13⟩ h;replace h:=(congrFun hK1 _).symm.trans h;refine aN [] [] [4] [4] (an1 trivial) ?_;obtain rfl:=aaD h;refine aaG ?_;exact bD
def gI (x1:List Tq4) (n2:Nat) (l3:List Int) (n19:Nat) (K3:(Nat×aaA)->Option (List Y51)) (r24:Ty6×Ty4×Ty4):Nat->(Nat×Nat×aaA)->Option (List Y51)
 |0,_=>none
 |k+1,(n25,n26,s27)=>
  if(decide ((n25:Int)<(((r24.2.2).length:Nat):Int)))then(
  jn (fun((n28,s29):Nat×aaA)=>
  chk (((n25:Int)+(1:Int))<=9223372036854775807)<|
  (gI x1 n2 l3 n19 K3 r24 k) ((n25+1),n28,s29)
  ) fun(K4:(Nat×aaA)->Option (List Y51))=>
  chk ((n25:Int)<(((r24.2.2).length:Nat):Int))<|
  chk (n25<(r24.2.2).length)<|
  chk ((((r24.2.2.getD n25 (default:Tq0)).1==(((x1.getD n2 (default:Tq4)).2.1%(4:Int))%(2:Int)))==true)=true->0<=(n25:Int)/\(n25:Int)<(((r24.2.2).length:Nat):Int))<|
  chk ((((r24.2.2.getD n25 (default:Tq0)).1==(((x1.getD n2 (default:Tq4)).2.1%(4:Int))%(2:Int)))==true)=true->n25<(r24.2.2).length)<|
  if(((r24.2.2.getD n25 (default:Tq0)).1==(((x1.getD n2 (default:Tq4)).2.1%(4:Int))%(2:Int)))&&((r24.2.2.getD n25 (default:Tq0)).2.1==((1:Int)+((x1.getD n2 (default:Tq4)).2.2.1%(max (1:Int) (l3.getD (((((x1.getD n2 (default:Tq4)).2.1%(4:Int))%(2:Int))).toNat) 0))))))then(
  chk ((n25:Int)<(((r24.2.2).length:Nat):Int))<|
  chk (n25<(r24.2.2).length)<|
  K4 (n19,(r24.2.2.getD n25 (default:Tq0)).2.2)
  )else(
  K4 (n26,s27)
  )
  )else(
  K3 (n26,s27)
  )
def lP (x1:List Tq4) (n2:Nat) (l3:List Int) (l4:List Tq0) (l5:List Int) (K2:(Nat×Int×Int×Int×aaA×aaA×List Int×Ty4×List Int×List Ty1)->Option (List Y51)):Nat->(Nat×Nat×aaA×List Ty1)->Option (List Y51)
 |0,_=>none
 |k+1,(n19,n20,s21,l22)=>
  chk (-9223372036854775808<=((2:Int)+(((x1.getD n2 (default:Tq4)).2.1%(4:Int))%(2:Int)))/\((2:Int)+(((x1.getD n2 (default:Tq4)).2.1%(4:Int))%(2:Int)))<=9223372036854775807)<|
  chk (0<=((2:Int)+(((x1.getD n2 (default:Tq4)).2.1%(4:Int))%(2:Int)))/\((2:Int)+(((x1.getD n2 (default:Tq4)).2.1%(4:Int))%(2:Int)))<(((l5).length:Nat):Int))<|
  chk (((((2:Int)+(((x1.getD n2 (default:Tq4)).2.1%(4:Int))%(2:Int)))).toNat)<(l5).length)<|
  if(decide ((n19:Int)<(l5.getD ((((2:Int)+(((x1.getD n2 (default:Tq4)).2.1%(4:Int))%(2:Int)))).toNat) 0)))then(
  jn (fun((n30,s31):Nat×aaA)=>
  chk (((n19:Int)+(1:Int))<=9223372036854775807)<|
  (lP x1 n2 l3 l4 l5 K2 k) ((n19+1),n30,s31,l22)
  ) fun(K3:(Nat×aaA)->Option (List Y51))=>
  (f38 n19 l22).bind fun r23=>
  (f37 r23.1 r23.2 (l22.getD n19 [])).bind fun r24=>
  chk ((n19:Int)<=(((l22).length:Nat):Int))<|
  chk ((n19:Int)<(((l22).length:Nat):Int))<|
  chk (n19<(l22).length)<|
  gI x1 n2 l3 n19 K3 r24 bB (0,n20,s21)
  )else(
  K2 (2,(((x1.getD n2 (default:Tq4)).2.1%(4:Int))%(2:Int)),(n20:Int),((1:Int)+((x1.getD n2 (default:Tq4)).2.2.1%(max (1:Int) (l3.getD (((((x1.getD n2 (default:Tq4)).2.1%(4:Int))%(2:Int))).toNat) 0)))),[],s21,l3,l4,l5,l22)
  )
def eN (x1:List Tq4) (K1:(List Y51)->Option (List Y51)):Nat->(Nat×List Int×Ty4×List Int×List Y51×List Ty1)->Option (List Y51)
 |0,_=>none
 |k+1,(n2,l3,l4,l5,l6,l7)=>
  if((decide ((n2:Int)<(((x1).length:Nat):Int)))&&(decide ((n2:Int)<(50:Int))))then(
  chk ((n2:Int)<(((x1).length:Nat):Int))<|
  chk (0<=(x1.getD n2 (default:Tq4)).2.1/\1<=(4:Int))<|
  chk (-9223372036854775808<=((x1.getD n2 (default:Tq4)).2.1%(4:Int))/\((x1.getD n2 (default:Tq4)).2.1%(4:Int))<=9223372036854775807)<|
  jn (fun((n9,i10,i11,i12,s13,s14,l15,l16,l17,l18):Nat×Int×Int×Int×aaA×aaA×List Int×Ty4×List Int×List Ty1)=>
  (f40 (n2:Int) (n9:Int) i10 i11 i12 s13 s14 ((x1.getD n2 (default:Tq4)).2.2.2)).bind fun r41=>
  chk (((l6).length+1) *368<=140737488355328)<|
  chk (((n2:Int)+(1:Int))<=9223372036854775807)<|
  (eN x1 K1 k) ((n2+1),l15,l16,l17,(l6++[((r41.1,r41.2.1,r41.2.2.1,r41.2.2.2.1,r41.2.2.2.2.1,r41.2.2.2.2.2.1,r41.2.2.2.2.2.2):Y51)]),l18)
  ) fun(K2:(Nat×Int×Int×Int×aaA×aaA×List Int×Ty4×List Int×List Ty1)->Option (List Y51))=>
  chk (0<=(x1.getD n2 (default:Tq4)).1/\1<=(5:Int))<|
  if(((x1.getD n2 (default:Tq4)).1%(5:Int))==(0:Int))then(
  chk (0<=((x1.getD n2 (default:Tq4)).2.1%(4:Int))/\1<=(2:Int))<|
  chk (0<=(((x1.getD n2 (default:Tq4)).2.1%(4:Int))%(2:Int))/\(((x1.getD n2 (default:Tq4)).2.1%(4:Int))%(2:Int))<(((l3).length:Nat):Int))<|
  chk ((((((x1.getD n2 (default:Tq4)).2.1%(4:Int))%(2:Int))).toNat)<(l3).length)<|
  chk (-9223372036854775808<=((l3.getD (((((x1.getD n2 (default:Tq4)).2.1%(4:Int))%(2:Int))).toNat) 0)+(1:Int))/\((l3.getD (((((x1.getD n2 (default:Tq4)).2.1%(4:Int))%(2:Int))).toNat) 0)+(1:Int))<=9223372036854775807)<|
  chk (0<=(((x1.getD n2 (default:Tq4)).2.1%(4:Int))%(2:Int))/\(((x1.getD n2 (default:Tq4)).2.1%(4:Int))%(2:Int))<(((l3).length:Nat):Int))<|
  chk ((((((x1.getD n2 (default:Tq4)).2.1%(4:Int))%(2:Int))).toNat)<(l3).length)<|
  (f36 ((x1.getD n2 (default:Tq4)).2.2.1)).bind fun r8=>
  chk (0<=(((x1.getD n2 (default:Tq4)).2.1%(4:Int))%(2:Int))/\(((x1.getD n2 (default:Tq4)).2.1%(4:Int))%(2:Int))<((((l3.set (((((x1.getD n2 (default:Tq4)).2.1%(4:Int))%(2:Int))).toNat) ((l3.getD (((((x1.getD n2 (default:Tq4)).2.1%(4:Int))%(2:Int))).toNat) 0)+(1:Int)))).length:Nat):Int))<|
  chk ((((((x1.getD n2 (default:Tq4)).2.1%(4:Int))%(2:Int))).toNat)<((l3.set (((((x1.getD n2 (default:Tq4)).2.1%(4:Int))%(2:Int))).toNat) ((l3.getD (((((x1.getD n2 (default:Tq4)).2.1%(4:Int))%(2:Int))).toNat) 0)+(1:Int)))).length)<|
  chk (-9223372036854775808<=(x1.getD n2 (default:Tq4)).2.2.1/\(x1.getD n2 (default:Tq4)).2.2.1<=9223372036854775807)<|
  chk (0<=(((x1.getD n2 (default:Tq4)).2.1%(4:Int))%(2:Int))/\(((x1.getD n2 (default:Tq4)).2.1%(4:Int))%(2:Int))<((((l3.set (((((x1.getD n2 (default:Tq4)).2.1%(4:Int))%(2:Int))).toNat) ((l3.getD (((((x1.getD n2 (default:Tq4)).2.1%(4:Int))%(2:Int))).toNat) 0)+(1:Int)))).length:Nat):Int))<|
  chk ((((((x1.getD n2 (default:Tq4)).2.1%(4:Int))%(2:Int))).toNat)<((l3.set (((((x1.getD n2 (default:Tq4)).2.1%(4:Int))%(2:Int))).toNat) ((l3.getD (((((x1.getD n2 (default:Tq4)).2.1%(4:Int))%(2:Int))).toNat) 0)+(1:Int)))).length)<|
  chk (((l4).length+1) *32<=140737488355328)<|
  K2 (1,(((x1.getD n2 (default:Tq4)).2.1%(4:Int))%(2:Int)),(0:Int),((l3.set (((((x1.getD n2 (default:Tq4)).2.1%(4:Int))%(2:Int))).toNat) ((l3.getD (((((x1.getD n2 (default:Tq4)).2.1%(4:Int))%(2:Int))).toNat) 0)+(1:Int))).getD (((((x1.getD n2 (default:Tq4)).2.1%(4:Int))%(2:Int))).toNat) 0),r8,[],(l3.set (((((x1.getD n2 (default:Tq4)).2.1%(4:Int))%(2:Int))).toNat) ((l3.getD (((((x1.getD n2 (default:Tq4)).2.1%(4:Int))%(2:Int))).toNat) 0)+(1:Int))),(l4++[((((x1.getD n2 (default:Tq4)).2.1%(4:Int))%(2:Int)),((l3.set (((((x1.getD n2 (default:Tq4)).2.1%(4:Int))%(2:Int))).toNat) ((l3.getD (((((x1.getD n2 (default:Tq4)).2.1%(4:Int))%(2:Int))).toNat) 0)+(1:Int))).getD (((((x1.getD n2 (default:Tq4)).2.1%(4:Int))%(2:Int))).toNat) 0),r8)]),l5,l7)
  )else(
  if(((x1.getD n2 (default:Tq4)).1%(5:Int))==(4:Int))then(
  chk (0<=((x1.getD n2 (default:Tq4)).2.1%(4:Int))/\1<=(2:Int))<|
  chk (-9223372036854775808<=(x1.getD n2 (default:Tq4)).2.2.1/\(x1.getD n2 (default:Tq4)).2.2.1<=9223372036854775807)<|
  chk (0<=(((x1.getD n2 (default:Tq4)).2.1%(4:Int))%(2:Int))/\(((x1.getD n2 (default:Tq4)).2.1%(4:Int))%(2:Int))<(((l3).length:Nat):Int))<|
  chk ((((((x1.getD n2 (default:Tq4)).2.1%(4:Int))%(2:Int))).toNat)<(l3).length)<|
  chk (0<=(x1.getD n2 (default:Tq4)).2.2.1/\1<=(max (1:Int) (l3.getD (((((x1.getD n2 (default:Tq4)).2.1%(4:Int))%(2:Int))).toNat) 0)))<|
  chk (-9223372036854775808<=((1:Int)+((x1.getD n2 (default:Tq4)).2.2.1%(max (1:Int) (l3.getD (((((x1.getD n2 (default:Tq4)).2.1%(4:Int))%(2:Int))).toNat) 0))))/\((1:Int)+((x1.getD n2 (default:Tq4)).2.2.1%(max (1:Int) (l3.getD (((((x1.getD n2 (default:Tq4)).2.1%(4:Int))%(2:Int))).toNat) 0))))<=9223372036854775807)<|
  lP x1 n2 l3 l4 l5 K2 bB (0,0,[],l7)
  )else(
  jn (fun((l37,l38):Ty4×List Ty1)=>
  chk (0<=((x1.getD n2 (default:Tq4)).2.1%(4:Int))/\((x1.getD n2 (default:Tq4)).2.1%(4:Int))<(((l5).length:Nat):Int))<|
  chk (((((x1.getD n2 (default:Tq4)).2.1%(4:Int))).toNat)<(l5).length)<|
  chk (0<=((x1.getD n2 (default:Tq4)).2.1%(4:Int))/\((x1.getD n2 (default:Tq4)).2.1%(4:Int))<(((l5).length:Nat):Int))<|
  chk (((((x1.getD n2 (default:Tq4)).2.1%(4:Int))).toNat)<(l5).length)<|
  chk (0<=(l5.getD ((((x1.getD n2 (default:Tq4)).2.1%(4:Int))).toNat) 0)/\(l5.getD ((((x1.getD n2 (default:Tq4)).2.1%(4:Int))).toNat) 0)<(((l38).length:Nat):Int))<|
  chk ((((l5.getD ((((x1.getD n2 (default:Tq4)).2.1%(4:Int))).toNat) 0)).toNat)<(l38).length)<|
  jn (fun((n39,i40):Nat×Int)=>
  chk (0<=((x1.getD n2 (default:Tq4)).2.1%(4:Int))/\((x1.getD n2 (default:Tq4)).2.1%(4:Int))<(((l5).length:Nat):Int))<|
  chk (((((x1.getD n2 (default:Tq4)).2.1%(4:Int))).toNat)<(l5).length)<|
  chk (-9223372036854775808<=((l5.getD ((((x1.getD n2 (default:Tq4)).2.1%(4:Int))).toNat) 0)+(1:Int))/\((l5.getD ((((x1.getD n2 (default:Tq4)).2.1%(4:Int))).toNat) 0)+(1:Int))<=9223372036854775807)<|
  chk (0<=((x1.getD n2 (default:Tq4)).2.1%(4:Int))/\((x1.getD n2 (default:Tq4)).2.1%(4:Int))<(((l5).length:Nat):Int))<|
  chk (((((x1.getD n2 (default:Tq4)).2.1%(4:Int))).toNat)<(l5).length)<|
  K2 (n39,i40,(l5.getD ((((x1.getD n2 (default:Tq4)).2.1%(4:Int))).toNat) 0),(0:Int),(l38.getD (((l5.getD ((((x1.getD n2 (default:Tq4)).2.1%(4:Int))).toNat) 0)).toNat) []),[],l3,l37,(l5.set ((((x1.getD n2 (default:Tq4)).2.1%(4:Int))).toNat) ((l5.getD ((((x1.getD n2 (default:Tq4)).2.1%(4:Int))).toNat) 0)+(1:Int))),l38)
  ) fun(K7:(Nat×Int)->Option (List Y51))=>
  if(decide (((x1.getD n2 (default:Tq4)).2.1%(4:Int))>=(2:Int)))then(
  chk (-9223372036854775808<=(((x1.getD n2 (default:Tq4)).2.1%(4:Int))-(2:Int))/\(((x1.getD n2 (default:Tq4)).2.1%(4:Int))-(2:Int))<=9223372036854775807)<|
  K7 (3,(((x1.getD n2 (default:Tq4)).2.1%(4:Int))-(2:Int)))
  )else(
  K7 (4,((x1.getD n2 (default:Tq4)).2.1%(4:Int)))
  )
  ) fun(K5:(Ty4×List Ty1)->Option (List Y51))=>
  chk (0<=((x1.getD n2 (default:Tq4)).2.1%(4:Int))/\((x1.getD n2 (default:Tq4)).2.1%(4:Int))<(((l5).length:Nat):Int))<|
  chk (((((x1.getD n2 (default:Tq4)).2.1%(4:Int))).toNat)<(l5).length)<|
  if((l5.getD ((((x1.getD n2 (default:Tq4)).2.1%(4:Int))).toNat) 0)==(((l7).length:Nat):Int))then(
  jn (fun((n32,n33,l34,l35):Nat×Nat×Ty4×Ty4)=>
  (f39 (n32:Int) (n33:Int) l35).bind fun r36=>
  chk (((l7).length+1) *16<=140737488355328)<|
  K5 (l34,(l7++[r36.1]))
  ) fun(K6:(Nat×Nat×Ty4×Ty4)->Option (List Y51))=>
  chk (0<=(x1.getD n2 (default:Tq4)).2.2.1/\1<=(4:Int))<|
  if(((x1.getD n2 (default:Tq4)).2.2.1%(4:Int))==(3:Int))then(
  K6 (2,1,l4,[])
  )else(
  if(decide ((((l4).length:Nat):Int)>(0:Int)))then(
  chk ((0:Int)<(((l4).length:Nat):Int))<|
  chk (0<(l4).length)<|
  chk ((1:Int)<=(((l4).length:Nat):Int))<|
  chk ((0+((l4).length-1)) *32<=140737488355328)<|
  K6 (1,0,([]++(l4.drop 1)),[((l4.getD 0 (default:Tq0)).1,(l4.getD 0 (default:Tq0)).2.1,(l4.getD 0 (default:Tq0)).2.2)])
  )else(
  K6 (1,0,l4,[])
  )
  )
  )else(
  K5 (l4,l7)
  )
  )
  )
  )else(
  K1 l6
  )
abbrev bA (x1:List Tq4) (n2:Nat):=(x1.getD n2 (default:Tq4))
abbrev fX (n2:Nat):List V:=[.i (n2:Int),.i (0:Int),.i (0:Int),.i (0:Int),.i (0:Int),.str [],.str [],.i (0:Int),.i (0:Int),.i (0:Int),.i (0:Int),.i (0:Int),.str [],.i (0:Int),.i (0:Int),.i (0:Int),.i (0:Int),.i (0:Int),.str [],.str [],.nils,.nils,.i (0:Int),.str [],.nils,.nils,.nils,.nils]
abbrev dH (x1:List Tq4) (n2:Nat):List V:=[.int .u8 (bA x1 n2).1,.int .u8 (bA x1 n2).2.1,.int .u8 (bA x1 n2).2.2.1,.int .u8 (bA x1 n2).2.2.2]
abbrev zK (x1:List Tq4) (n2:Nat):List (Nat×V):=[(0,vL 4 cP (default:Tq4) x1),(3,.own 5003),(4,.own 5004),(5,.own 21),(6,.own 22),(7,.own 23),(8,.i (n2:Int)),(9,.ptr 9 0),(10,.i ((bA x1 n2).2.1%(4:Int))),(11,.ptr 11 0),(18,.ptr 18 0)]
abbrev f12z4 (n2:Nat) (x1:List Tq4) (n20:Nat) (l3:List Int) (s21:aaA):List V:=[.i (n2:Int),.i (2:Int),.i (((bA x1 n2).2.1%(4:Int))%(2:Int)),.i (n20:Int),.i ((1:Int)+((bA x1 n2).2.2.1%(max (1:Int) (l3.getD (((((bA x1 n2).2.1%(4:Int))%(2:Int))).toNat) 0)))),.str [],.str s21,.i (0:Int),.i (0:Int),.i (0:Int),.i (0:Int),.i (0:Int),.str [],.i (0:Int),.i (0:Int),.i (0:Int),.i (0:Int),.i (0:Int),.str [],.str [],.nils,.nils,.i (0:Int),.str [],.nils,.nils,.nils,.nils]
abbrev f12z5 (n2 n39:Nat) (i40:Int) (l5:List Int) (x1:List Tq4) (l38:List Ty1):List V:=[.i (n2:Int),.i (n39:Int),.i i40,.i (l5.getD ((((bA x1 n2).2.1%(4:Int))).toNat) 0),.i (0:Int),.str (l38.getD (((l5.getD ((((bA x1 n2).2.1%(4:Int))).toNat) 0)).toNat) []),.str [],.i (0:Int),.i (0:Int),.i (0:Int),.i (0:Int),.i (0:Int),.str [],.i (0:Int),.i (0:Int),.i (0:Int),.i (0:Int),.i (0:Int),.str [],.str [],.nils,.nils,.i (0:Int),.str [],.nils,.nils,.nils,.nils]
abbrev f12z6 (n2:Nat) (x1:List Tq4) (n26:Nat) (l3:List Int) (s27:aaA):List V:=[.i (n2:Int),.i (2:Int),.i (((bA x1 n2).2.1%(4:Int))%(2:Int)),.i (n26:Int),.i ((1:Int)+((bA x1 n2).2.2.1%(max (1:Int) (l3.getD (((((bA x1 n2).2.1%(4:Int))%(2:Int))).toNat) 0)))),.str [],.str s27,.i (0:Int),.i (0:Int),.i (0:Int),.i (0:Int),.i (0:Int),.str [],.i (0:Int),.i (0:Int),.i (0:Int),.i (0:Int),.i (0:Int),.str [],.str [],.nils,.nils,.i (0:Int),.str [],.nils,.nils,.nils,.nils]
abbrev f12z7 (x1:List Tq4) (n2:Nat):List (Nat×V):=[(0,vL 4 cP (default:Tq4) x1),(3,.own 5003),(4,.own 80),(5,.own 21),(6,.own 22),(7,.own 23),(8,.i (n2:Int)),(9,.ptr 9 0),(10,.i ((bA x1 n2).2.1%(4:Int))),(11,.ptr 11 0)]
abbrev eJ (l4:List Tq0):=(l4.getD 0 (default:Tq0))
abbrev f12z9 (x1:List Tq4) (n2 n19 n25:Nat):List (Nat×V):=[(0,vL 4 cP (default:Tq4) x1),(3,.own 5003),(4,.own 5004),(5,.own 21),(6,.own 22),(7,.own 23),(8,.i (n2:Int)),(9,.ptr 9 0),(11,.ptr 11 0),(13,.i (((bA x1 n2).2.1%(4:Int))%(2:Int))),(14,.i (n19:Int)),(16,.own 6001),(17,.i (n25:Int))]
abbrev f12z10 (n2:Nat) (x1:List Tq4) (l3:List Int):List V:=[.i (n2:Int),.i (2:Int),.i (((bA x1 n2).2.1%(4:Int))%(2:Int)),.i (0:Int),.i ((1:Int)+((bA x1 n2).2.2.1%(max (1:Int) (l3.getD (((((bA x1 n2).2.1%(4:Int))%(2:Int))).toNat) 0)))),.str [],.str [],.i (0:Int),.i (0:Int),.i (0:Int),.i (0:Int),.i (0:Int),.str [],.i (0:Int),.i (0:Int),.i (0:Int),.i (0:Int),.i (0:Int),.str [],.str [],.nils,.nils,.i (0:Int),.str [],.nils,.nils,.nils,.nils]
abbrev aAP (x1:List Tq4) (n2:Nat):List (Nat×V):=[(0,vL 4 cP (default:Tq4) x1),(3,.own 5003),(4,.own 5004),(5,.own 21),(6,.own 22),(7,.own 23),(8,.i (n2:Int)),(9,.ptr 9 0),(11,.ptr 11 0)]
abbrev f12z12 (n2:Nat) (x1:List Tq4) (n30:Nat) (l3:List Int) (s31:aaA):List V:=[.i (n2:Int),.i (2:Int),.i (((bA x1 n2).2.1%(4:Int))%(2:Int)),.i (n30:Int),.i ((1:Int)+((bA x1 n2).2.2.1%(max (1:Int) (l3.getD (((((bA x1 n2).2.1%(4:Int))%(2:Int))).toNat) 0)))),.str [],.str s31,.i (0:Int),.i (0:Int),.i (0:Int),.i (0:Int),.i (0:Int),.str [],.i (0:Int),.i (0:Int),.i (0:Int),.i (0:Int),.i (0:Int),.str [],.str [],.nils,.nils,.i (0:Int),.str [],.nils,.nils,.nils,.nils]
abbrev f12z13 (n2:Nat) (x1:List Tq4) (n28:Nat) (l3:List Int) (s29:aaA):List V:=[.i (n2:Int),.i (2:Int),.i (((bA x1 n2).2.1%(4:Int))%(2:Int)),.i (n28:Int),.i ((1:Int)+((bA x1 n2).2.2.1%(max (1:Int) (l3.getD (((((bA x1 n2).2.1%(4:Int))%(2:Int))).toNat) 0)))),.str [],.str s29,.i (0:Int),.i (0:Int),.i (0:Int),.i (0:Int),.i (0:Int),.str [],.i (0:Int),.i (0:Int),.i (0:Int),.i (0:Int),.i (0:Int),.str [],.str [],.nils,.nils,.i (0:Int),.str [],.nils,.nils,.nils,.nils]
abbrev f12z14 (n2:Nat) (x1:List Tq4) (l5:List Int) (l38:List Ty1):List V:=[.i (n2:Int),.i (4:Int),.i ((bA x1 n2).2.1%(4:Int)),.i (l5.getD ((((bA x1 n2).2.1%(4:Int))).toNat) 0),.i (0:Int),.str (l38.getD (((l5.getD ((((bA x1 n2).2.1%(4:Int))).toNat) 0)).toNat) []),.str [],.i (0:Int),.i (0:Int),.i (0:Int),.i (0:Int),.i (0:Int),.str [],.i (0:Int),.i (0:Int),.i (0:Int),.i (0:Int),.i (0:Int),.str [],.str [],.nils,.nils,.i (0:Int),.str [],.nils,.nils,.nils,.nils]
abbrev f12z15 (x1:List Tq4) (n2:Nat):List (Nat×V):=[(0,vL 4 cP (default:Tq4) x1),(3,.own 5003),(4,.own 5004),(5,.own 21),(6,.own 22),(7,.own 23),(8,.i (n2:Int)),(9,.ptr 9 0),(11,.ptr 11 0),(12,.i (((bA x1 n2).2.1%(4:Int))%(2:Int)))]
abbrev fN (r24:Ty6×Ty4×Ty4) (n25:Nat):=(r24.2.2.getD n25 (default:Tq0))
abbrev f12z17 (x1:List Tq4) (n2:Nat):List (Nat×V):=[(0,vL 4 cP (default:Tq4) x1),(3,.own 5003),(4,.own 5004),(5,.own 21),(6,.own 22),(7,.own 23),(8,.i (n2:Int)),(9,.ptr 9 0),(10,.i ((bA x1 n2).2.1%(4:Int))),(11,.ptr 11 0)]
abbrev f12z18 (x1:List Tq4) (n2:Nat) (l4:List Tq0):List (Nat×V):=[(0,vL 4 cP (default:Tq4) x1),(3,.own 5003),(4,.own 5004),(5,.own 21),(6,.own 22),(7,.own 23),(8,.i (n2:Int)),(9,.ptr 9 0),(10,.i ((bA x1 n2).2.1%(4:Int))),(11,.ptr 11 0),(18,.ptr 18 0),(62,.bool (decide ((((l4).length:Nat):Int)>(0:Int))))]
abbrev f12z19 (x1:List Tq4) (n2 n19:Nat):List (Nat×V):=[(0,vL 4 cP (default:Tq4) x1),(3,.own 5003),(4,.own 5004),(5,.own 21),(6,.own 22),(7,.own 23),(8,.i (n2:Int)),(9,.ptr 9 0),(11,.ptr 11 0),(13,.i (((bA x1 n2).2.1%(4:Int))%(2:Int))),(14,.i (n19:Int))]
abbrev f12z20 (x1:List Tq4) (n2:Nat):List (Nat×V):=[(0,vL 4 cP (default:Tq4) x1),(3,.own 5003),(4,.own 5004),(5,.own 21),(6,.own 68),(7,.own 23),(8,.i (n2:Int)),(9,.ptr 9 0),(10,.i ((bA x1 n2).2.1%(4:Int))),(11,.ptr 11 0),(18,.ptr 18 0)]
abbrev rR :List V:=[.i (1:Int),.i (0:Int),.own 66]
abbrev f12z22 (x1:List Tq4) (n2:Nat):List (Nat×V):=[(0,vL 4 cP (default:Tq4) x1),(3,.own 5003),(4,.own 80),(5,.own 21),(6,.own 22),(7,.own 23),(8,.i (n2:Int)),(9,.ptr 9 0),(11,.ptr 11 0)]
abbrev f12z23 :aJ:=[(21,bL 3 1 eI 0 [(0:Int),(0:Int)]),(22,bL 88 3 bX (default:Tq0) []),(23,bL 3 1 eI 0 (List.replicate 4 ((0:Int):Int)))]
abbrev f12z24 (x1:List Tq4) (n2:Nat):List (Nat×V):=[(0,vL 4 cP (default:Tq4) x1),(3,.own 5003),(4,.own 5004),(5,.own 21),(6,.own 22),(7,.own 23),(8,.i (n2:Int))]
abbrev wV :=Ty4
abbrev f12z26 :List V:=[.i (1:Int),.i (0:Int),.own 7302]
abbrev f12z27 :List V:=[.i (1:Int),.i (0:Int),.nils]
abbrev f12z28 :=(List.replicate 4 ((0:Int):Int))
def f12 (x1:List Tq4):Option (List Y51):=
 jn (fun(l42:List Y51)=>
 some l42
 ) fun(K1:(List Y51)->Option (List Y51))=>
 eN x1 K1 bB (0,[(0:Int),(0:Int)],[],(List.replicate 4 ((0:Int):Int)),[],[])
theorem f12_ok (x1:List Tq4) (r:List Y51) (h:f12 x1=some r):aE Tryz.prog 12 [] [] [] [vL 4 cP (default:Tq4) x1] (.own 3000) [(3000,bL 51 28 kT (default:Y51) r)]:=by
 unfold f12 at h;refine aE.body 0 _ _ Tryz.func12 rfl Tryz.ntmps12 rfl rfl ?_;refine aN [] [] [0] [] trivial ?_;refine aN [] [] [0,3] [] trivial ?_;refine aN [] [] [0,3,4] [] trivial ?_;refine bJ [] [] ⟨220,[(0,bZ x1),(3,.nils),(4,.nils),(5,.own 21)],[(21,.rows 3 1 2 (dN 1 [.i (0:Int),.i (0:Int)]))],[],0⟩ trivial ?_;refine aaX (acZ (s':=⟨220,[(0,bZ x1),(3,.nils),(4,.nils),(5,.own 21)],[(21,aX [(0:Int),(0:Int)])],[],0⟩) rfl rfl ⟨.refl _,.refl _,.refl _,.refl _,trivial⟩ ⟨⟨_,rfl,(acK (acV (enc:=eI) [(0:Int),(0:Int)] rfl rfl (fun _=>rfl)))⟩,trivial⟩) ?_;refine bJ [] [] ⟨220,[(0,bZ x1),(3,.nils),(4,.nils),(5,.own 21),(6,.own 22)],[(21,aX [(0:Int),(0:Int)]),(22,.rows 88 3 0 (dN 3 []))],[],0⟩ trivial ?_;refine aaX (acZ (s':=⟨220,[(0,bZ x1),(3,.nils),(4,.nils),(5,.own 21),(6,.own 22)],[(21,aX [(0:Int),(0:Int)]),(22,aM [])],[],0⟩) rfl rfl ⟨.refl _,.refl _,.refl _,.refl _,.refl _,trivial⟩ ⟨⟨_,rfl,.refl _⟩,⟨_,rfl,(acK (acV (enc:=bX) [] rfl rfl (fun _=>rfl)))⟩,trivial⟩) ?_;refine aaE ?_;have ob0:0<=(4:Int)/\(4:Int)<=(4:Int)/\(8:Int) *(4:Int)<=281474976710656/\(4:Int)<=9223372036854775807:=by first|decide|omega|simp|(intro h;cases h)
 refine bH [] [] ⟨220,[(0,bZ x1),(3,.nils),(4,.nils),(5,.own 21),(6,.own 22),(7,.own 23)],[(21,aX [(0:Int),(0:Int)]),(22,aM []),(23,.rows 3 1 4 (repF [.i (0:Int)]))],[],0⟩ (an1 ob0) ?_;refine tN (aaX (acZ (s':=⟨220,[(0,bZ x1),(3,.nils),(4,.nils),(5,.own 21),(6,.own 22),(7,.own 23)],(f12z23),[],0⟩) rfl rfl ⟨.refl _,.refl _,.refl _,.refl _,.refl _,.refl _,trivial⟩ ⟨⟨_,rfl,.refl _⟩,⟨_,rfl,.refl _⟩,⟨_,rfl,(acK (RL.rep ((0:Int):Int) rfl))⟩,trivial⟩) ?_);obtain⟨K1,hK1,h⟩:=aO h;refine aaU (α:=List Y51) (fun(l42:List Y51)=>⟨220,[(3,.own 5003)],[(5003,aU l42)],[],0⟩) (fun x=>K1 x=some r) ?_ ?_
 ·refine bJ [] [] ⟨220,[(0,bZ x1),(3,.nils),(4,.nils),(5,.own 21),(6,.own 22),(7,.own 23),(8,.i (0:Int))],(f12z23),[],0⟩ trivial ?_;refine aaJ (abI (α:=Nat×(Nat×List Int×(wV)×List Int×List Y51×List Ty1)) (fun x=>match x with|(_,n2,l3,l4,l5,l6,l7)=>⟨220,(f12z24 x1 n2),[(21,aX l3),(22,aM l4),(23,aX l5),(5003,aU l6),(5004,aK l7)],[],0⟩) (fun x=>eN x1 K1 x.1 x.2=some r) (fun x=>x.1) (bB,0,[(0:Int),(0:Int)],[],(f12z28),[],[]) (aaL (aaL (adM 3 5003 51 28 (cE kT aH []) rfl rfl (aaW rfl)) (LR (s':=⟨220,[(0,bZ x1),(3,.own 5003),(4,.nils),(5,.own 21),(6,.own 22),(7,.own 23),(8,.i (0:Int))],[(21,aX [(0:Int),(0:Int)]),(22,aM []),(23,aX (f12z28)),(5003,aU [])],[],0⟩))) (aaL (aaL (adM 4 5004 9 1 (cE eS [] []) rfl rfl (aaW rfl)) (LR (s':=⟨220,[(0,bZ x1),(3,.own 5003),(4,.own 5004),(5,.own 21),(6,.own 22),(7,.own 23),(8,.i (0:Int))],[(21,aX [(0:Int),(0:Int)]),(22,aM []),(23,aX (f12z28)),(5003,aU []),(5004,aK [])],[],0⟩))) LR)) h ?_)
  rintro⟨k0,n2,l3,l4,l5,l6,l7⟩ h
  cases k0 with
  |zero=>exact nEx h
  |succ k0=>
  obtain⟨C0,hC0⟩:∃C,C=eN x1 K1 k0:=⟨_,rfl⟩;replace h:=(eN.eq_2 ..).symm.trans h
  try rw[<-hC0]at h
  refine aaE (aaE (bG [] [] [0,3,4,5,6,7,8,31] [21,22,23,5003,5004] (an2 (an1 (idA (((decide ((n2:Int)<(lZ x1)))==true)=true))) (bqA (decide ((n2:Int)<(lZ x1))) true)) ?_));refine tN (cK ((decide ((n2:Int)<(lZ x1)))&&(decide ((n2:Int)<(50:Int)))) (fun hc1=> ?_) fun hc1=> ?_)
  ·replace h:=aF hc1 h;refine aaF (tN (aaE (aaJ (aaE ?_))));obtain⟨ob3p,h⟩:=aB h;refine bG [] [] [0,3,4,5,6,7,8,9] [9,21,22,23,5003,5004] (an2 (iN ob3p) trivial) ?_;refine tN (aaE ?_);obtain⟨ob4,ob5,h⟩:=ck2 h;refine bG [] [] [0,3,4,5,6,7,8,9,10] [9,21,22,23,5003,5004] (an2 ob4 ob5) ?_;refine tN (bJ [] [] ⟨220,(f12z17 x1 n2),[(9,.cells 85 (dH x1 n2)),(11,.cells 51 (fX n2)),(21,aX l3),(22,aM l4),(23,aX l5),(5003,aU l6),(5004,aK l7)],[],0⟩ (an1 trivial) ?_);obtain⟨K2,hK2,h⟩:=aO h;refine aaU (fun(x:Nat×Int×Int×Int×aaA×aaA×List Int×(wV)×List Int×List Ty1)=>match x with|(n9,i10,i11,i12,s13,s14,l15,l16,l17,l18)=>⟨220,(aAP x1 n2),[(9,.cells 85 (dH x1 n2)),(11,.cells 51 [.i (n2:Int),.i (n9:Int),.i i10,.i i11,.i i12,.str s13,.str s14,.i (0:Int),.i (0:Int),.i (0:Int),.i (0:Int),.i (0:Int),.str [],.i (0:Int),.i (0:Int),.i (0:Int),.i (0:Int),.i (0:Int),.str [],.str [],.nils,.nils,.i (0:Int),.str [],.nils,.nils,.nils,.nils]),(21,aX l15),(22,aM l16),(23,aX l17),(5003,aU l6),(5004,aK l18)],[],0⟩) (fun x=>K2 x=some r) ?_ ?_
   ·refine aaE ?_;obtain⟨ob6,h⟩:=aB h;refine bG [] [] [0,3,4,5,6,7,8,9,10,11,46] [9,11,21,22,23,5003,5004] (an1 ob6) ?_;refine tN (aaJ (aN [] [] [0,3,4,5,6,7,8,9,10,11,46,109] [9,11,21,22,23,5003,5004] trivial ?_));refine cK (((bA x1 n2).1%(5:Int))==(0:Int)) (fun hc2=> ?_) fun hc2=> ?_
    ·replace h:=aF hc2 h;refine aaE ?_;obtain⟨ob7,h⟩:=aB h;refine bG [] [] [0,3,4,5,6,7,8,9,11,12] [9,11,21,22,23,5003,5004] (an1 ob7) ?_;refine tN (aaE ?_);obtain⟨ob8,ob9,ob10,ob11,ob12,h⟩:=ck5 h;refine bH [] [] ⟨220,(f12z15 x1 n2),[(9,.cells 85 (dH x1 n2)),(11,.cells 51 (fX n2)),(21,.rows 3 1 (l3).length (aB1 (cE eI 0 l3) (((((bA x1 n2).2.1%(4:Int))%(2:Int))).toNat) 0 [.i ((l3.getD (((((bA x1 n2).2.1%(4:Int))%(2:Int))).toNat) 0)+(1:Int))])),(22,aM l4),(23,aX l5),(5003,aU l6),(5004,aK l7)],[],0⟩ (an5 ob8 ob9 ob10 ob11 ob12) ?_;refine tN ?_;refine aaX (acZ (s':=⟨220,(f12z15 x1 n2),[(9,.cells 85 (dH x1 n2)),(11,.cells 51 (fX n2)),(21,aX (l3.set (((((bA x1 n2).2.1%(4:Int))%(2:Int))).toNat) ((l3.getD (((((bA x1 n2).2.1%(4:Int))%(2:Int))).toNat) 0)+(1:Int)))),(22,aM l4),(23,aX l5),(5003,aU l6),(5004,aK l7)],[],0⟩) rfl rfl ⟨.refl _,.refl _,.refl _,.refl _,.refl _,.refl _,.refl _,.refl _,.refl _,.refl _,trivial⟩ ⟨⟨_,rfl,.refl _⟩,⟨_,rfl,.refl _⟩,⟨_,rfl,(acK (RL.set ((l3.getD (((((bA x1 n2).2.1%(4:Int))%(2:Int))).toNat) 0)+(1:Int)) (acX _) (by intro j hj;match j,hj with|0,_=>rfl)))⟩,⟨_,rfl,.refl _⟩,⟨_,rfl,.refl _⟩,⟨_,rfl,.refl _⟩,⟨_,rfl,.refl _⟩,trivial⟩) ?_;refine aaE ?_;obtain⟨r8,hr8,h⟩:=bind_ok h;obtain⟨ob13,ob14,ob15,h⟩:=ck3 h;refine bG [] [(8,⟨[.i (bA x1 n2).2.2.1],[],[],[],.str r8,[],[],[]⟩)] [0,3,4,5,6,7,8,9,11,12] [9,11,21,22,23,5003,5004] (ac6 ob13 ob14 ob15 (cpT (f36_ok _ _ hr8)) trivial trivial (an2 trivial trivial)) ?_;refine tN ?_;obtain⟨ob16,ob17,ob18,h⟩:=ck3 h;refine bH [] [] ⟨220,(aAP x1 n2),[(9,.cells 85 (dH x1 n2)),(11,.cells 51 [.i (n2:Int),.i (1:Int),.i (((bA x1 n2).2.1%(4:Int))%(2:Int)),.i (0:Int),.i ((l3.set (((((bA x1 n2).2.1%(4:Int))%(2:Int))).toNat) ((l3.getD (((((bA x1 n2).2.1%(4:Int))%(2:Int))).toNat) 0)+(1:Int))).getD (((((bA x1 n2).2.1%(4:Int))%(2:Int))).toNat) 0),.str r8,.str [],.i (0:Int),.i (0:Int),.i (0:Int),.i (0:Int),.i (0:Int),.str [],.i (0:Int),.i (0:Int),.i (0:Int),.i (0:Int),.i (0:Int),.str [],.str [],.nils,.nils,.i (0:Int),.str [],.nils,.nils,.nils,.nils]),(21,aX (l3.set (((((bA x1 n2).2.1%(4:Int))%(2:Int))).toNat) ((l3.getD (((((bA x1 n2).2.1%(4:Int))%(2:Int))).toNat) 0)+(1:Int)))),(22,.rows 88 3 ((l4).length+1) (gK (l4).length (cE bX aZ l4) (dN 3 [.i (((bA x1 n2).2.1%(4:Int))%(2:Int)),.i ((l3.set (((((bA x1 n2).2.1%(4:Int))%(2:Int))).toNat) ((l3.getD (((((bA x1 n2).2.1%(4:Int))%(2:Int))).toNat) 0)+(1:Int))).getD (((((bA x1 n2).2.1%(4:Int))%(2:Int))).toNat) 0),.str r8]))),(23,aX l5),(5003,aU l6),(5004,aK l7)],[],0⟩ (an3 ob16 ob17 ob18) ?_;refine kN ?_;exact jN (1,(((bA x1 n2).2.1%(4:Int))%(2:Int)),(0:Int),((l3.set (((((bA x1 n2).2.1%(4:Int))%(2:Int))).toNat) ((l3.getD (((((bA x1 n2).2.1%(4:Int))%(2:Int))).toNat) 0)+(1:Int))).getD (((((bA x1 n2).2.1%(4:Int))%(2:Int))).toNat) 0),r8,[],(l3.set (((((bA x1 n2).2.1%(4:Int))%(2:Int))).toNat) ((l3.getD (((((bA x1 n2).2.1%(4:Int))%(2:Int))).toNat) 0)+(1:Int))),(l4++[((((bA x1 n2).2.1%(4:Int))%(2:Int)),((l3.set (((((bA x1 n2).2.1%(4:Int))%(2:Int))).toNat) ((l3.getD (((((bA x1 n2).2.1%(4:Int))%(2:Int))).toNat) 0)+(1:Int))).getD (((((bA x1 n2).2.1%(4:Int))%(2:Int))).toNat) 0),r8)]),l5,l7) (aaL (acZ (s':=⟨220,(aAP x1 n2),[(9,.cells 85 (dH x1 n2)),(11,.cells 51 [.i (n2:Int),.i (1:Int),.i (((bA x1 n2).2.1%(4:Int))%(2:Int)),.i (0:Int),.i ((l3.set (((((bA x1 n2).2.1%(4:Int))%(2:Int))).toNat) ((l3.getD (((((bA x1 n2).2.1%(4:Int))%(2:Int))).toNat) 0)+(1:Int))).getD (((((bA x1 n2).2.1%(4:Int))%(2:Int))).toNat) 0),.str r8,.str [],.i (0:Int),.i (0:Int),.i (0:Int),.i (0:Int),.i (0:Int),.str [],.i (0:Int),.i (0:Int),.i (0:Int),.i (0:Int),.i (0:Int),.str [],.str [],.nils,.nils,.i (0:Int),.str [],.nils,.nils,.nils,.nils]),(21,aX (l3.set (((((bA x1 n2).2.1%(4:Int))%(2:Int))).toNat) ((l3.getD (((((bA x1 n2).2.1%(4:Int))%(2:Int))).toNat) 0)+(1:Int)))),(22,aM (l4++[((((bA x1 n2).2.1%(4:Int))%(2:Int)),((l3.set (((((bA x1 n2).2.1%(4:Int))%(2:Int))).toNat) ((l3.getD (((((bA x1 n2).2.1%(4:Int))%(2:Int))).toNat) 0)+(1:Int))).getD (((((bA x1 n2).2.1%(4:Int))%(2:Int))).toNat) 0),r8)])),(23,aX l5),(5003,aU l6),(5004,aK l7)],[],0⟩) rfl rfl ⟨.refl _,.refl _,.refl _,.refl _,.refl _,.refl _,.refl _,.refl _,.refl _,trivial⟩ ⟨⟨_,rfl,.refl _⟩,⟨_,rfl,.refl _⟩,⟨_,rfl,.refl _⟩,⟨_,rfl,(acK (adQ (acX _) (acV (enc:=bX) [((((bA x1 n2).2.1%(4:Int))%(2:Int)),((l3.set (((((bA x1 n2).2.1%(4:Int))%(2:Int))).toNat) ((l3.getD (((((bA x1 n2).2.1%(4:Int))%(2:Int))).toNat) 0)+(1:Int))).getD (((((bA x1 n2).2.1%(4:Int))%(2:Int))).toNat) 0),r8)] rfl rfl (fun _=>rfl))))⟩,⟨_,rfl,.refl _⟩,⟨_,rfl,.refl _⟩,⟨_,rfl,.refl _⟩,trivial⟩) LR) h
    ·replace h:=aG hc2 h;refine aN [] [] [0,3,4,5,6,7,8,9,10,11,143] [9,11,21,22,23,5003,5004] trivial ?_;refine cK (((bA x1 n2).1%(5:Int))==(4:Int)) (fun hc3=> ?_) fun hc3=> ?_
     ·replace h:=aF hc3 h;refine aaE ?_;obtain⟨ob19,h⟩:=aB h;refine bG [] [] [0,3,4,5,6,7,8,9,11,13] [9,11,21,22,23,5003,5004] (an1 ob19) ?_;refine tN (aaE ?_);obtain⟨ob20,ob21,ob22,ob23,ob24,h⟩:=ck5 h;refine bG [] [] [0,3,4,5,6,7,8,9,11,13] [9,11,21,22,23,5003,5004] (an6 ob20 ob21 ob22 ob23 ob24 trivial) ?_;refine tN (bJ [] [] ⟨220,[(0,bZ x1),(3,.own 5003),(4,.own 5004),(5,.own 21),(6,.own 22),(7,.own 23),(8,.i (n2:Int)),(9,.ptr 9 0),(11,.ptr 11 0),(13,.i (((bA x1 n2).2.1%(4:Int))%(2:Int))),(14,.i (0:Int))],[(9,.cells 85 (dH x1 n2)),(11,.cells 51 (f12z10 n2 x1 l3)),(21,aX l3),(22,aM l4),(23,aX l5),(5003,aU l6),(5004,aK l7)],[],0⟩ trivial ?_);refine aaJ (abI (α:=Nat×(Nat×Nat×aaA×List Ty1)) (fun x=>match x with|(_,n19,n20,s21,l22)=>⟨220,(f12z19 x1 n2 n19),[(9,.cells 85 (dH x1 n2)),(11,.cells 51 (f12z4 n2 x1 n20 l3 s21)),(21,aX l3),(22,aM l4),(23,aX l5),(5003,aU l6),(5004,aK l22)],[],0⟩) (fun x=>lP x1 n2 l3 l4 l5 K2 x.1 x.2=some r) (fun x=>x.1) (bB,0,0,[],l7) LR h ?_)
      rintro⟨k1,n19,n20,s21,l22⟩ h
      cases k1 with
      |zero=>exact nEx h
      |succ k1=>
      obtain⟨C1,hC1⟩:∃C,C=lP x1 n2 l3 l4 l5 K2 k1:=⟨_,rfl⟩;replace h:=(lP.eq_2 ..).symm.trans h
      try rw[<-hC1]at h
      refine aaE (aaE ?_);obtain⟨ob25,ob26,ob27,h⟩:=ck3 h;refine bG [] [] [0,3,4,5,6,7,8,9,11,13,14,166] [9,11,21,22,23,5003,5004] (an3 ob25 ob26 ob27) ?_;refine tN (cK (decide ((n19:Int)<(l5.getD ((((2:Int)+(((bA x1 n2).2.1%(4:Int))%(2:Int)))).toNat) 0))) (fun hc4=> ?_) fun hc4=> ?_)
      ·replace h:=aF hc4 h;refine aaF (tN ?_);obtain⟨K3,hK3,h⟩:=aO h;refine aaU (fun(x:Nat×aaA)=>match x with|(n30,s31)=>⟨220,(f12z19 x1 n2 n19),[(9,.cells 85 (dH x1 n2)),(11,.cells 51 (f12z12 n2 x1 n30 l3 s31)),(21,aX l3),(22,aM l4),(23,aX l5),(5003,aU l6),(5004,aK l22)],[],0⟩) (fun x=>K3 x=some r) ?_ ?_
       ·refine aaJ (aaE ?_);obtain⟨r23,hr23,h⟩:=bind_ok h;obtain⟨r24,hr24,h⟩:=bind_ok h;obtain⟨ob28p,h⟩:=aB h;obtain⟨ob29p,h⟩:=aB h;obtain⟨ob30,h⟩:=aB h;refine bG [] [(3,⟨[.osl 5004 1 0 n19],[5004],[5004],[(5004,aK l22)],.agg [aY r23.1,bC r23.2],[],[5004],[]⟩),(8,⟨[.agg [aY r23.1,bC r23.2],.str (l22.getD n19 [])],[],[],[(6001,bR r24.2.2)],.tup [.agg [aY r24.1,bC r24.2.1],.own 6001],[6001],[],[]⟩)] [0,3,4,5,6,7,8,9,11,13,14,16] [9,11,21,22,23,5003,5004,6001] (an6 (iL ob28p) (cpR (cpT (aE.ren (aT 2000 5004) (aD 2000 5004) rfl (f38_ok _ _ _ hr23))) [(5004,aK l22)]) (iN ob29p) ob30 (cpT (aE.ren (aT 3000 6001) (aD 3000 6001) rfl (aAM _ _ _ _ hr24))) trivial) ?_;refine tN (bJ [] [] ⟨220,[(0,bZ x1),(3,.own 5003),(4,.own 5004),(5,.own 21),(6,.own 22),(7,.own 23),(8,.i (n2:Int)),(9,.ptr 9 0),(11,.ptr 11 0),(13,.i (((bA x1 n2).2.1%(4:Int))%(2:Int))),(14,.i (n19:Int)),(16,.own 6001),(17,.i (0:Int))],[(9,.cells 85 (dH x1 n2)),(11,.cells 51 (f12z4 n2 x1 n20 l3 s21)),(21,aX l3),(22,aM l4),(23,aX l5),(5003,aU l6),(5004,aK l22),(6001,bR r24.2.2)],[],0⟩ trivial ?_);refine aaJ (abI (α:=Nat×(Nat×Nat×aaA)) (fun x=>match x with|(_,n25,n26,s27)=>⟨220,(f12z9 x1 n2 n19 n25),[(9,.cells 85 (dH x1 n2)),(11,.cells 51 (f12z6 n2 x1 n26 l3 s27)),(21,aX l3),(22,aM l4),(23,aX l5),(5003,aU l6),(5004,aK l22),(6001,bR r24.2.2)],[],0⟩) (fun x=>gI x1 n2 l3 n19 K3 r24 x.1 x.2=some r) (fun x=>x.1) (bB,0,n20,s21) LR h ?_)
        rintro⟨k2,n25,n26,s27⟩ h
        cases k2 with
        |zero=>exact nEx h
        |succ k2=>
        obtain⟨C2,hC2⟩:∃C,C=gI x1 n2 l3 n19 K3 r24 k2:=⟨_,rfl⟩;replace h:=(gI.eq_2 ..).symm.trans h
        try rw[<-hC2]at h
        refine aaE (aN [] [] [0,3,4,5,6,7,8,9,11,13,14,16,17,184] [9,11,21,22,23,5003,5004,6001] trivial ?_);refine cK (decide ((n25:Int)<(lZ r24.2.2))) (fun hc5=> ?_) fun hc5=> ?_
        ·replace h:=aF hc5 h;refine aaF (tN ?_);obtain⟨K4,hK4,h⟩:=aO h;refine aaU (fun(x:Nat×aaA)=>match x with|(n28,s29)=>⟨220,(f12z9 x1 n2 n19 n25),[(9,.cells 85 (dH x1 n2)),(11,.cells 51 (f12z13 n2 x1 n28 l3 s29)),(21,aX l3),(22,aM l4),(23,aX l5),(5003,aU l6),(5004,aK l22),(6001,bR r24.2.2)],[],0⟩) (fun x=>K4 x=some r) ?_ ?_
         ·refine aaJ (aaE ?_);obtain⟨ob31p,h⟩:=aB h;obtain⟨ob32,ob33,h⟩:=ck2 h;obtain⟨ob37,h⟩:=aB h;refine bH [] [] ⟨220,[(0,bZ x1),(3,.own 5003),(4,.own 5004),(5,.own 21),(6,.own 22),(7,.own 23),(8,.i (n2:Int)),(9,.ptr 9 0),(11,.ptr 11 0),(13,.i (((bA x1 n2).2.1%(4:Int))%(2:Int))),(14,.i (n19:Int)),(16,.own 6001),(17,.i (n25:Int)),(203,.bool (((fN r24 n25).1==(((bA x1 n2).2.1%(4:Int))%(2:Int)))&&((fN r24 n25).2.1==((1:Int)+((bA x1 n2).2.2.1%(max (1:Int) (l3.getD (((((bA x1 n2).2.1%(4:Int))%(2:Int))).toNat) 0)))))))],[(9,.cells 85 (dH x1 n2)),(11,.cells 51 (f12z6 n2 x1 n26 l3 s27)),(21,aX l3),(22,aM l4),(23,aX l5),(5003,aU l6),(5004,aK l22),(6001,bR r24.2.2)],[],0⟩ (ac6 (iN ob31p) ob32 (aaM ob33 (an2 (idA ((((fN r24 n25).1==(((bA x1 n2).2.1%(4:Int))%(2:Int)))==true)=true)) (idA ((((fN r24 n25).1==(((bA x1 n2).2.1%(4:Int))%(2:Int)))==true)=true)))) (an1 (idA ((((fN r24 n25).1==(((bA x1 n2).2.1%(4:Int))%(2:Int)))==true)=true))) (aaM ob37 (an1 (idA ((((fN r24 n25).1==(((bA x1 n2).2.1%(4:Int))%(2:Int)))==true)=true)))) (an1 (idA ((((fN r24 n25).1==(((bA x1 n2).2.1%(4:Int))%(2:Int)))==true)=true))) (an2 (an2 (idA ((((fN r24 n25).1==(((bA x1 n2).2.1%(4:Int))%(2:Int)))==true)=true)) (idA ((((fN r24 n25).1==(((bA x1 n2).2.1%(4:Int))%(2:Int)))==true)=true))) (bqA ((fN r24 n25).1==(((bA x1 n2).2.1%(4:Int))%(2:Int))) true))) ?_;refine tN (cK (((fN r24 n25).1==(((bA x1 n2).2.1%(4:Int))%(2:Int)))&&((fN r24 n25).2.1==((1:Int)+((bA x1 n2).2.2.1%(max (1:Int) (l3.getD (((((bA x1 n2).2.1%(4:Int))%(2:Int))).toNat) 0)))))) (fun hc6=> ?_) fun hc6=> ?_)
          ·replace h:=aF hc6 h;obtain⟨ob43p,h⟩:=aB h;obtain⟨ob44,h⟩:=aB h;refine bH [] [] ⟨220,(f12z9 x1 n2 n19 n25),[(9,.cells 85 (dH x1 n2)),(11,.cells 51 [.i (n2:Int),.i (2:Int),.i (((bA x1 n2).2.1%(4:Int))%(2:Int)),.i (n19:Int),.i ((1:Int)+((bA x1 n2).2.2.1%(max (1:Int) (l3.getD (((((bA x1 n2).2.1%(4:Int))%(2:Int))).toNat) 0)))),.str [],.str (fN r24 n25).2.2,.i (0:Int),.i (0:Int),.i (0:Int),.i (0:Int),.i (0:Int),.str [],.i (0:Int),.i (0:Int),.i (0:Int),.i (0:Int),.i (0:Int),.str [],.str [],.nils,.nils,.i (0:Int),.str [],.nils,.nils,.nils,.nils]),(21,aX l3),(22,aM l4),(23,aX l5),(5003,aU l6),(5004,aK l22),(6001,bR r24.2.2)],[],0⟩ (an4 (iN ob43p) ob44 trivial trivial) ?_;refine kN ?_;have eq45:(r24.2.2.getD n25 aZ).2.2=((r24.2.2.getD n25 aZ).2.2):=by first|omega|(simp only[aaH,aaS,abT,abG,aaZ]at *;omega)|(simp;done)|(simp_all;done)|(simp_all;omega)|rfl
           exact jN (n19,(fN r24 n25).2.2) (acZ rfl rfl ⟨.refl _,.refl _,.refl _,.refl _,.refl _,.refl _,.refl _,.refl _,.refl _,.refl _,.refl _,.refl _,.refl _,trivial⟩ ⟨⟨_,rfl,.refl _⟩,⟨_,rfl,(.cellsL ⟨.refl _,.refl _,.refl _,.refl _,.refl _,.refl _,(.str eq45),.refl _,.refl _,.refl _,.refl _,.refl _,.refl _,.refl _,.refl _,.refl _,.refl _,.refl _,.refl _,.refl _,.refl _,.refl _,.refl _,.refl _,.refl _,.refl _,.refl _,.refl _,trivial⟩)⟩,⟨_,rfl,.refl _⟩,⟨_,rfl,.refl _⟩,⟨_,rfl,.refl _⟩,⟨_,rfl,.refl _⟩,⟨_,rfl,.refl _⟩,⟨_,rfl,.refl _⟩,trivial⟩) h
          ·replace h:=aG hc6 h;refine aaF (kN ?_);exact jN (n26,s27) LR h
         ·rintro⟨n28,s29⟩ h;replace h:=(congrFun hK4 _).symm.trans h;obtain⟨ob46p,h⟩:=aB h;refine bG [] [] [0,3,4,5,6,7,8,9,11,13,14,16,17] [9,11,21,22,23,5003,5004,6001] (an1 (iP ob46p)) ?_;rw[hC2]at h;exact lN (_,(n25+1),n28,s29) LR h (aaK _)
        ·replace h:=aG hc5 h;refine abK (tE (tE (kS (kN ?_))));exact jN (n26,s27) LR h
       ·rintro⟨n30,s31⟩ h;replace h:=(congrFun hK3 _).symm.trans h;obtain⟨ob47p,h⟩:=aB h;refine bG [] [] [0,3,4,5,6,7,8,9,11,13,14] [9,11,21,22,23,5003,5004] (an1 (iP ob47p)) ?_;rw[hC1]at h;exact lN (_,(n19+1),n30,s31,l22) LR h (aaK _)
      ·replace h:=aG hc4 h;refine abK (tE (tE (kS (kN ?_))));exact jN (2,(((bA x1 n2).2.1%(4:Int))%(2:Int)),(n20:Int),((1:Int)+((bA x1 n2).2.2.1%(max (1:Int) (l3.getD (((((bA x1 n2).2.1%(4:Int))%(2:Int))).toNat) 0)))),[],s21,l3,l4,l5,l22) LR h
     ·replace h:=aG hc3 h;obtain⟨K5,hK5,h⟩:=aO h;refine aaU (fun(x:(wV)×List Ty1)=>match x with|(l37,l38)=>⟨220,(f12z7 x1 n2),[(9,.cells 85 (dH x1 n2)),(11,.cells 51 (fX n2)),(21,aX l3),(22,aM l37),(23,aX l5),(80,aK l38),(5003,aU l6)],[],0⟩) (fun x=>K5 x=some r) ?_ ?_
      ·refine aaE ?_;obtain⟨ob48,ob49,h⟩:=ck2 h;refine bH [] [] ⟨220,[(0,bZ x1),(3,.own 5003),(4,.own 5004),(5,.own 21),(6,.own 22),(7,.own 23),(8,.i (n2:Int)),(9,.ptr 9 0),(10,.i ((bA x1 n2).2.1%(4:Int))),(11,.ptr 11 0),(53,.bool ((l5.getD ((((bA x1 n2).2.1%(4:Int))).toNat) 0)==(lZ l7)))],[(9,.cells 85 (dH x1 n2)),(11,.cells 51 (fX n2)),(21,aX l3),(22,aM l4),(23,aX l5),(5003,aU l6),(5004,aK l7)],[],0⟩ (an2 ob48 ob49) ?_;refine tN (cK ((l5.getD ((((bA x1 n2).2.1%(4:Int))).toNat) 0)==(lZ l7)) (fun hc7=> ?_) fun hc7=> ?_)
       ·replace h:=aF hc7 h;refine aN [] [] [0,3,4,5,6,7,8,9,10,11,18] [9,11,18,21,22,23,5003,5004] (an1 trivial) ?_;obtain⟨K6,hK6,h⟩:=aO h;refine aaU (fun(x:Nat×Nat×(wV)×(wV))=>match x with|(n32,n33,l34,l35)=>⟨220,(zK x1 n2),[(9,.cells 85 (dH x1 n2)),(11,.cells 51 (fX n2)),(18,.cells 100 [.i (n32:Int),.i (n33:Int),.own 7302]),(21,aX l3),(22,aM l34),(23,aX l5),(5003,aU l6),(5004,aK l7),(7302,aM l35)],[],0⟩) (fun x=>K6 x=some r) ?_ ?_
        ·refine aaE ?_;obtain⟨ob50,h⟩:=aB h;refine bG [] [] [0,3,4,5,6,7,8,9,10,11,18,58] [9,11,18,21,22,23,5003,5004] (an1 ob50) ?_;refine tN (cK (((bA x1 n2).2.2.1%(4:Int))==(3:Int)) (fun hc8=> ?_) fun hc8=> ?_)
         ·replace h:=aF hc8 h;refine bH [] [] ⟨220,(zK x1 n2),[(9,.cells 85 (dH x1 n2)),(11,.cells 51 (fX n2)),(18,.cells 100 [.i (2:Int),.i (1:Int),.nils]),(21,aX l3),(22,aM l4),(23,aX l5),(5003,aU l6),(5004,aK l7)],[],0⟩ (an1 trivial) ?_;exact jN (2,1,l4,[]) (aaL (aaL (Le.nilOwnC 18 2 7302 88 3 (cE bX aZ []) rfl rfl rfl) (LR (s':=⟨220,(zK x1 n2),[(9,.cells 85 (dH x1 n2)),(11,.cells 51 (fX n2)),(18,.cells 100 [.i (2:Int),.i (1:Int),.own 7302]),(21,aX l3),(22,aM l4),(23,aX l5),(5003,aU l6),(5004,aK l7),(7302,aM [])],[],0⟩))) LR) h
         ·replace h:=aG hc8 h;refine bJ [] [] ⟨220,(f12z18 x1 n2 l4),[(9,.cells 85 (dH x1 n2)),(11,.cells 51 (fX n2)),(18,.cells 100 (f12z27)),(21,aX l3),(22,aM l4),(23,aX l5),(5003,aU l6),(5004,aK l7)],[],0⟩ trivial ?_;refine cK (decide ((lZ l4)>(0:Int))) (fun hc9=> ?_) fun hc9=> ?_
          ·replace h:=aF hc9 h;refine aaE ?_;obtain⟨ob51p,h⟩:=aB h;have ob51:0<=(0:Int)/\(0:Int)<(((l4).length:Nat):Int):=⟨by omega,ob51p⟩;obtain⟨ob52,h⟩:=aB h;refine bH [] [] ⟨220,(zK x1 n2),[(9,.cells 85 (dH x1 n2)),(11,.cells 51 (fX n2)),(18,.cells 100 (rR)),(21,aX l3),(22,aM l4),(23,aX l5),(66,.rows 88 3 1 (dN 3 [.i (eJ l4).1,.i (eJ l4).2.1,.str (eJ l4).2.2])),(5003,aU l6),(5004,aK l7)],[],0⟩ (an3 ob51 ob52 trivial) ?_;refine tN (aaX (acZ (s':=⟨220,(zK x1 n2),[(9,.cells 85 (dH x1 n2)),(11,.cells 51 (fX n2)),(18,.cells 100 (rR)),(21,aX l3),(22,aM l4),(23,aX l5),(66,aM [((eJ l4).1,(eJ l4).2.1,(eJ l4).2.2)]),(5003,aU l6),(5004,aK l7)],[],0⟩) rfl rfl ⟨.refl _,.refl _,.refl _,.refl _,.refl _,.refl _,.refl _,.refl _,.refl _,.refl _,.refl _,trivial⟩ ⟨⟨_,rfl,.refl _⟩,⟨_,rfl,.refl _⟩,⟨_,rfl,.refl _⟩,⟨_,rfl,.refl _⟩,⟨_,rfl,.refl _⟩,⟨_,rfl,.refl _⟩,⟨_,rfl,(acK (acV (enc:=bX) [((eJ l4).1,(eJ l4).2.1,(eJ l4).2.2)] rfl rfl (fun _=>rfl)))⟩,⟨_,rfl,.refl _⟩,⟨_,rfl,.refl _⟩,trivial⟩) ?_);refine aaX (aaL (aeU 22 rfl rfl) (LR (s':=⟨220,[(0,bZ x1),(3,.own 5003),(4,.own 5004),(5,.own 21),(6,bC l4),(7,.own 23),(8,.i (n2:Int)),(9,.ptr 9 0),(10,.i ((bA x1 n2).2.1%(4:Int))),(11,.ptr 11 0),(18,.ptr 18 0)],[(9,.cells 85 (dH x1 n2)),(11,.cells 51 (fX n2)),(18,.cells 100 (rR)),(21,aX l3),(23,aX l5),(66,aM [((eJ l4).1,(eJ l4).2.1,(eJ l4).2.2)]),(5003,aU l6),(5004,aK l7)],[],0⟩))) ?_;obtain⟨ob53p,h⟩:=aB h;have ob53:0<=(1:Int)/\(1:Int)<=(((l4).length:Nat):Int):=⟨by omega,ob53p⟩;obtain⟨ob54,h⟩:=aB h;refine bH [] [] ⟨220,(f12z20 x1 n2),[(9,.cells 85 (dH x1 n2)),(11,.cells 51 (fX n2)),(18,.cells 100 (rR)),(21,aX l3),(23,aX l5),(66,aM [((eJ l4).1,(eJ l4).2.1,(eJ l4).2.2)]),(68,.rows 88 3 (0+((l4).length-1)) (gK 0 (dN 3 []) (fun i j=>(cE bX aZ l4) (i+1) j))),(5003,aU l6),(5004,aK l7)],[],0⟩ (an2 ob53 ob54) ?_;exact jN (1,0,([]++(l4.drop 1)),[((eJ l4).1,(eJ l4).2.1,(eJ l4).2.2)]) (aaL (acZ (s':=⟨220,(f12z20 x1 n2),[(9,.cells 85 (dH x1 n2)),(11,.cells 51 (fX n2)),(18,.cells 100 (rR)),(21,aX l3),(23,aX l5),(66,aM [((eJ l4).1,(eJ l4).2.1,(eJ l4).2.2)]),(68,aM ([]++(l4.drop 1))),(5003,aU l6),(5004,aK l7)],[],0⟩) rfl rfl ⟨.refl _,.refl _,.refl _,.refl _,.refl _,.refl _,.refl _,.refl _,.refl _,.refl _,.refl _,trivial⟩ ⟨⟨_,rfl,.refl _⟩,⟨_,rfl,.refl _⟩,⟨_,rfl,.refl _⟩,⟨_,rfl,.refl _⟩,⟨_,rfl,.refl _⟩,⟨_,rfl,.refl _⟩,⟨_,rfl,(acK (adQ (acV (enc:=bX) [] rfl rfl (fun _=>rfl)) RL.dropL))⟩,⟨_,rfl,.refl _⟩,⟨_,rfl,.refl _⟩,trivial⟩) (aaL (aaL (acQ (aT 68 22) (aD 68 22) rfl) (LR (s':=⟨220,(zK x1 n2),[(9,.cells 85 (dH x1 n2)),(11,.cells 51 (fX n2)),(18,.cells 100 (rR)),(21,aX l3),(23,aX l5),(66,aM [((eJ l4).1,(eJ l4).2.1,(eJ l4).2.2)]),(22,aM ([]++(l4.drop 1))),(5003,aU l6),(5004,aK l7)],[],0⟩))) (aaL (aaL (acQ (aT 66 7302) (aD 66 7302) rfl) (LR (s':=⟨220,(zK x1 n2),[(9,.cells 85 (dH x1 n2)),(11,.cells 51 (fX n2)),(18,.cells 100 (f12z26)),(21,aX l3),(23,aX l5),(7302,aM [((eJ l4).1,(eJ l4).2.1,(eJ l4).2.2)]),(22,aM ([]++(l4.drop 1))),(5003,aU l6),(5004,aK l7)],[],0⟩))) LR))) h
          ·replace h:=aG hc9 h;refine aaF ?_;exact jN (1,0,l4,[]) (aaL (aaL (Le.nilOwnC 18 2 7302 88 3 (cE bX aZ []) rfl rfl rfl) (LR (s':=⟨220,(f12z18 x1 n2 l4),[(9,.cells 85 (dH x1 n2)),(11,.cells 51 (fX n2)),(18,.cells 100 (f12z26)),(21,aX l3),(22,aM l4),(23,aX l5),(5003,aU l6),(5004,aK l7),(7302,aM [])],[],0⟩))) LR) h
        ·rintro⟨n32,n33,l34,l35⟩ h;replace h:=(congrFun hK6 _).symm.trans h;refine aaE ?_;obtain⟨r36,hr36,h⟩:=bind_ok h;refine bG [] [(1,⟨[.agg [.i (n32:Int),.i (n33:Int),bC l35]],[],[],[],.tup [.str r36.1,.i r36.2],[],[7302],[]⟩)] [0,3,4,5,6,7,8,9,10,11,19] [9,11,21,22,23,5003,5004] (an1 (cpL (c:=true) [(7302,aM l35)] [7302] [.agg [.i (n32:Int),.i (n33:Int),.own 7302]] (fun _=>(f39_ok _ _ _ _ hr36)) (fun _=>⟨.refl _,trivial⟩) (.inr ⟨rfl,trivial⟩))) ?_;refine tN ?_;obtain⟨ob55,h⟩:=aB h;refine bH [] [] ⟨220,(f12z17 x1 n2),[(9,.cells 85 (dH x1 n2)),(11,.cells 51 (fX n2)),(21,aX l3),(22,aM l34),(23,aX l5),(5003,aU l6),(5004,.rows 9 1 ((l7).length+1) (gK (l7).length (cE eS [] l7) (dN 1 [.str r36.1])))],[],0⟩ (an1 ob55) ?_;exact jN (l34,(l7++[r36.1])) (aaL (acZ (s':=⟨220,(f12z17 x1 n2),[(9,.cells 85 (dH x1 n2)),(11,.cells 51 (fX n2)),(21,aX l3),(22,aM l34),(23,aX l5),(5003,aU l6),(5004,aK (l7++[r36.1]))],[],0⟩) rfl rfl ⟨.refl _,.refl _,.refl _,.refl _,.refl _,.refl _,.refl _,.refl _,.refl _,.refl _,trivial⟩ ⟨⟨_,rfl,.refl _⟩,⟨_,rfl,.refl _⟩,⟨_,rfl,.refl _⟩,⟨_,rfl,.refl _⟩,⟨_,rfl,.refl _⟩,⟨_,rfl,.refl _⟩,⟨_,rfl,(acK (adQ (acX _) (acV (enc:=eS) [r36.1] rfl rfl (fun _=>rfl))))⟩,trivial⟩) (aaL (aaL (acQ (aT 5004 80) (aD 5004 80) rfl) (LR (s':=⟨220,(f12z7 x1 n2),[(9,.cells 85 (dH x1 n2)),(11,.cells 51 (fX n2)),(21,aX l3),(22,aM l34),(23,aX l5),(5003,aU l6),(80,aK (l7++[r36.1]))],[],0⟩))) LR)) h
       ·replace h:=aG hc7 h;refine aaF ?_;exact jN (l4,l7) (aaL (aaL (acQ (aT 5004 80) (aD 5004 80) rfl) (LR (s':=⟨220,[(0,bZ x1),(3,.own 5003),(4,.own 80),(5,.own 21),(6,.own 22),(7,.own 23),(8,.i (n2:Int)),(9,.ptr 9 0),(10,.i ((bA x1 n2).2.1%(4:Int))),(11,.ptr 11 0),(53,.bool ((l5.getD ((((bA x1 n2).2.1%(4:Int))).toNat) 0)==(lZ l7)))],[(9,.cells 85 (dH x1 n2)),(11,.cells 51 (fX n2)),(21,aX l3),(22,aM l4),(23,aX l5),(5003,aU l6),(80,aK l7)],[],0⟩))) LR) h
      ·rintro⟨l37,l38⟩ h;replace h:=(congrFun hK5 _).symm.trans h;refine aaE ?_;obtain⟨ob56,ob57,ob58,ob59,ob60,h⟩:=ck5 h;obtain⟨ob61,h⟩:=aB h;refine bG [] [] [0,3,4,5,6,7,8,9,10,11] [9,11,21,22,23,80,5003] (ac6 ob56 ob57 ob58 ob59 ob60 ob61 (an4 trivial trivial trivial trivial)) ?_;refine tN ?_;obtain⟨K7,hK7,h⟩:=aO h;refine aaU (fun(x:Nat×Int)=>match x with|(n39,i40)=>⟨220,(f12z7 x1 n2),[(9,.cells 85 (dH x1 n2)),(11,.cells 51 (f12z5 n2 n39 i40 l5 x1 l38)),(21,aX l3),(22,aM l37),(23,aX l5),(80,aK l38),(5003,aU l6)],[],0⟩) (fun x=>K7 x=some r) ?_ ?_
       ·refine bJ [] [] ⟨220,[(0,bZ x1),(3,.own 5003),(4,.own 80),(5,.own 21),(6,.own 22),(7,.own 23),(8,.i (n2:Int)),(9,.ptr 9 0),(10,.i ((bA x1 n2).2.1%(4:Int))),(11,.ptr 11 0),(98,.bool (decide (((bA x1 n2).2.1%(4:Int))>=(2:Int))))],[(9,.cells 85 (dH x1 n2)),(11,.cells 51 (f12z14 n2 x1 l5 l38)),(21,aX l3),(22,aM l37),(23,aX l5),(80,aK l38),(5003,aU l6)],[],0⟩ trivial ?_;refine cK (decide (((bA x1 n2).2.1%(4:Int))>=(2:Int))) (fun hc10=> ?_) fun hc10=> ?_
        ·replace h:=aF hc10 h;obtain⟨ob62,h⟩:=aB h;refine bG [] [] [0,3,4,5,6,7,8,9,10,11] [9,11,21,22,23,80,5003] (an3 ob62 trivial trivial) ?_;exact jN (3,(((bA x1 n2).2.1%(4:Int))-(2:Int))) LR h
        ·replace h:=aG hc10 h;refine aaF ?_;exact jN (4,((bA x1 n2).2.1%(4:Int))) LR h
       ·rintro⟨n39,i40⟩ h;replace h:=(congrFun hK7 _).symm.trans h;obtain⟨ob63,ob64,ob65,ob66,ob67,h⟩:=ck5 h;refine bH [] [] ⟨220,(f12z22 x1 n2),[(9,.cells 85 (dH x1 n2)),(11,.cells 51 (f12z5 n2 n39 i40 l5 x1 l38)),(21,aX l3),(22,aM l37),(23,.rows 3 1 (l5).length (aB1 (cE eI 0 l5) ((((bA x1 n2).2.1%(4:Int))).toNat) 0 [.i ((l5.getD ((((bA x1 n2).2.1%(4:Int))).toNat) 0)+(1:Int))])),(80,aK l38),(5003,aU l6)],[],0⟩ (an5 ob63 ob64 ob65 ob66 ob67) ?_;refine kN ?_;exact jN (n39,i40,(l5.getD ((((bA x1 n2).2.1%(4:Int))).toNat) 0),(0:Int),(l38.getD (((l5.getD ((((bA x1 n2).2.1%(4:Int))).toNat) 0)).toNat) []),[],l3,l37,(l5.set ((((bA x1 n2).2.1%(4:Int))).toNat) ((l5.getD ((((bA x1 n2).2.1%(4:Int))).toNat) 0)+(1:Int))),l38) (aaL (acZ (s':=⟨220,(f12z22 x1 n2),[(9,.cells 85 (dH x1 n2)),(11,.cells 51 (f12z5 n2 n39 i40 l5 x1 l38)),(21,aX l3),(22,aM l37),(23,aX (l5.set ((((bA x1 n2).2.1%(4:Int))).toNat) ((l5.getD ((((bA x1 n2).2.1%(4:Int))).toNat) 0)+(1:Int)))),(80,aK l38),(5003,aU l6)],[],0⟩) rfl rfl ⟨.refl _,.refl _,.refl _,.refl _,.refl _,.refl _,.refl _,.refl _,.refl _,trivial⟩ ⟨⟨_,rfl,.refl _⟩,⟨_,rfl,.refl _⟩,⟨_,rfl,.refl _⟩,⟨_,rfl,.refl _⟩,⟨_,rfl,(acK (RL.set ((l5.getD ((((bA x1 n2).2.1%(4:Int))).toNat) 0)+(1:Int)) (acX _) (by intro j hj;match j,hj with|0,_=>rfl)))⟩,⟨_,rfl,.refl _⟩,⟨_,rfl,.refl _⟩,trivial⟩) (aaL (aaL (acQ (aT 80 5004) (aD 80 5004) rfl) (LR (s':=⟨220,(aAP x1 n2),[(9,.cells 85 (dH x1 n2)),(11,.cells 51 (f12z5 n2 n39 i40 l5 x1 l38)),(21,aX l3),(22,aM l37),(23,aX (l5.set ((((bA x1 n2).2.1%(4:Int))).toNat) ((l5.getD ((((bA x1 n2).2.1%(4:Int))).toNat) 0)+(1:Int)))),(5004,aK l38),(5003,aU l6)],[],0⟩))) LR)) h
   ·rintro⟨n9,i10,i11,i12,s13,s14,l15,l16,l17,l18⟩ h;replace h:=(congrFun hK2 _).symm.trans h;obtain⟨r41,hr41,h⟩:=bind_ok h;obtain⟨ob68,h⟩:=aB h;refine bH [] [(4,⟨[.agg [.i (n2:Int),.i (n9:Int),.i i10,.i i11,.i i12,.str s13,.str s14,.opq,.opq,.opq,.opq,.opq,.opq,.opq,.opq,.opq,.opq,.opq,.opq,.opq,.opq,.opq,.opq,.opq,.opq,.opq,.opq,.opq],.int .u8 (bA x1 n2).2.2.2],[],[],[],.agg (qpt r41),[],[],[]⟩)] ⟨220,(f12z24 x1 n2),[(21,aX l15),(22,aM l16),(23,aX l17),(5003,.rows 51 28 ((l6).length+1) (gK (l6).length (cE kT aH l6) (dN 28 (qpt r41)))),(5004,aK l18)],[],0⟩ (an2 (cpL (c:=true) [] [] [.agg [.i (n2:Int),.i (n9:Int),.i i10,.i i11,.i i12,.str s13,.str s14,.i (0:Int),.i (0:Int),.i (0:Int),.i (0:Int),.i (0:Int),.str [],.i (0:Int),.i (0:Int),.i (0:Int),.i (0:Int),.i (0:Int),.str [],.str [],.nils,.nils,.i (0:Int),.str [],.nils,.nils,.nils,.nils],.int .u8 (bA x1 n2).2.2.2] (fun _=>(f40_ok _ _ _ _ _ _ _ _ _ hr41)) (fun _=>⟨(.aggs ⟨.refl _,.refl _,.refl _,.refl _,.refl _,.refl _,.refl _,(VLe.opq rfl),(VLe.opq rfl),(VLe.opq rfl),(VLe.opq rfl),(VLe.opq rfl),(VLe.opq rfl),(VLe.opq rfl),(VLe.opq rfl),(VLe.opq rfl),(VLe.opq rfl),(VLe.opq rfl),(VLe.opq rfl),(VLe.opq rfl),(VLe.opq rfl),(VLe.opq rfl),(VLe.opq rfl),(VLe.opq rfl),(VLe.opq rfl),(VLe.opq rfl),(VLe.opq rfl),(VLe.opq rfl),trivial⟩),.refl _,trivial⟩) (.inl rfl)) ob68) ?_;refine kN (tN (aaX (acZ (s':=⟨220,(f12z24 x1 n2),[(21,aX l15),(22,aM l16),(23,aX l17),(5003,aU (l6++[((r41.1,r41.2.1,r41.2.2.1,r41.2.2.2.1,r41.2.2.2.2.1,r41.2.2.2.2.2.1,r41.2.2.2.2.2.2):Y51)])),(5004,aK l18)],[],0⟩) rfl rfl ⟨.refl _,.refl _,.refl _,.refl _,.refl _,.refl _,.refl _,trivial⟩ ⟨⟨_,rfl,.refl _⟩,⟨_,rfl,.refl _⟩,⟨_,rfl,.refl _⟩,⟨_,rfl,(acK (adQ (acX _) (RL.lstV (enc:=kT) [((r41.1,r41.2.1,r41.2.2.1,r41.2.2.2.1,r41.2.2.2.2.1,r41.2.2.2.2.2.1,r41.2.2.2.2.2.2):Y51)] rfl ⟨.refl _,.refl _,.refl _,.refl _,.refl _,.refl _,.refl _,.refl _,.refl _,.refl _,.refl _,.refl _,.refl _,.refl _,.refl _,.refl _,.refl _,.refl _,.refl _,.refl _,.refl _,.refl _,.refl _,.refl _,.refl _,.refl _,.refl _,.refl _,trivial⟩ (fun _=>rfl))))⟩,⟨_,rfl,.refl _⟩,trivial⟩) ?_));obtain⟨ob69p,h⟩:=aB h;refine bG [] [] [0,3,4,5,6,7,8] [21,22,23,5003,5004] (an1 (iP ob69p)) ?_;rw[hC0]at h;exact lN (_,(n2+1),l15,l16,l17,(l6++[((r41.1,r41.2.1,r41.2.2.1,r41.2.2.2.1,r41.2.2.2.2.1,r41.2.2.2.2.2.1,r41.2.2.2.2.2.2):Y51)]),l18) LR h (aaK _)
  ·replace h:=aG hc1 h;refine abK (tE (tE (kS ?_)));exact jN (l6) LR h
 ·rintro l42 h;replace h:=(congrFun hK1 _).symm.trans h;refine bJ [] [] ⟨220,[(2,.own 5003)],[(5003,aU l42)],[],0⟩ trivial ?_;refine aaX (aaL (acQ (aT 5003 3000) (aD 5003 3000) rfl) (LR (s':=⟨220,[(2,.own 3000)],[(3000,aU l42)],[],0⟩))) ?_;obtain rfl:=aaD h;refine aaX (LR (s':=⟨220,[(2,.own 3000)],[(3000,aU l42)],[],0⟩)) ?_;refine aaG ?_;exact bK
def f3 (x1:List Tq4) (x2:Int):Option Bool:=
 (f11).bind fun r3=>
 if(!r3)then(
 some false
 )else(
 (f12 x1).bind fun r4=>
 chk (-9223372036854775808<=x2/\x2<=9223372036854775807)<|
 chk (((((r4).length:Nat):Int)+(1:Int))<=9223372036854775807)<|
 chk (0<=x2/\1<=((((r4).length+1):Nat):Int))<|
 (f13 [] [] (BitVec.ofInt 16 0) [] [] [] (r4.take (((x2%((((r4).length+1):Nat):Int))).toNat))).bind fun r5=>
 chk (0<=(x2%((((r4).length+1):Nat):Int))/\(x2%((((r4).length+1):Nat):Int))<=(((r4).length:Nat):Int))<|
 (f13 [] [] (BitVec.ofInt 16 0) [] [] [] r4).bind fun r6=>
 if(r5.2.2==(0:Int))then(
 some (((r6.2.2==(0:Int))&&(r5.1==r6.1))&&(r5.2.1==r6.2.1))
 )else(
 chk ((((r5.2.2==(13:Int))==true)&&((r6.2.2==(13:Int))==false))=true->(((r5.2.2==(13:Int))==true)&&((r6.2.2==(13:Int))==false))=true->(r6.2.2==(0:Int))=true->((((r5.2.2==(13:Int))==true)&&((r6.2.2==(13:Int))==false))&&((r6.2.2==(0:Int))==true))=true)<|
 chk (((r5.2.2==(13:Int))==true)=true->((r5.2.2==(13:Int))==true)=true->(r6.2.2==(13:Int))=false->(((r5.2.2==(13:Int))==true)&&((r6.2.2==(13:Int))==false))=true)<|
 some ((r5.2.2==(13:Int))&&((r6.2.2==(13:Int))||((r6.2.2==(0:Int))&&(decide (r6.1>=(x2%((((r4).length+1):Nat):Int)))))))
 )
 )
def jF (x1:List Y51) (K1:Int->Option Bool):Nat->(Int×Nat)->Option Bool
 |0,_=>none
 |k+1,(i2,n3)=>
  if(decide ((n3:Int)<(((x1).length:Nat):Int)))then(
  chk ((n3:Int)<(((x1).length:Nat):Int))<|
  chk ((n3:Int)<(((x1).length:Nat):Int))<|
  chk (((n3:Int)+(1:Int))<=9223372036854775807)<|
  (jF x1 K1 k) ((IntKind.wrap .i64 ((IntKind.wrap .i64 (i2+((((x1.getD n3 (default:Y51)).2.2.2.2.2.1).length:Nat):Int)))+((((x1.getD n3 (default:Y51)).2.2.2.2.2.2).length:Nat):Int))),(n3+1))
  )else(
  K1 i2
  )
def f16 (x1:List Y51):Option Bool:=
 jn (fun(i4:Int)=>
 some ((decide ((((x1).length:Nat):Int)<=(60:Int)))&&(decide (i4<=(20000:Int))))
 ) fun(K1:Int->Option Bool)=>
 jF x1 K1 bB ((0:Int),0)
theorem f16_ok (x1:List Y51) (r:Bool) (h:f16 x1=some r):aE Tryz.prog 16 [] [] [] [vL 28 kT (default:Y51) x1] (.bool r) []:=by
 unfold f16 at h;refine aE.body 0 _ _ Tryz.func16 rfl Tryz.ntmps16 rfl rfl ?_;refine aN [18,25] [] [0] [] trivial ?_;refine bJ [18,25] [] ⟨33,[(0,aQ x1),(3,.i (0:Int))],[],[],0⟩ trivial ?_;obtain⟨K1,hK1,h⟩:=aO h;refine aaU (α:=Int) (fun(i4:Int)=>⟨33,[(0,aQ x1),(3,.i i4)],[],[],0⟩) (fun x=>K1 x=some r) ?_ ?_
 ·refine aN [18,25] [] [0,3,4] [] trivial ?_;refine aaJ (abI (α:=Nat×(Int×Nat)) (fun x=>match x with|(_,i2,n3)=>⟨33,[(0,aQ x1),(3,.i i2),(4,.i (n3:Int))],[],[],0⟩) (fun x=>jF x1 K1 x.1 x.2=some r) (fun x=>x.1) (bB,(0:Int),0) LR h ?_)
  rintro⟨k0,i2,n3⟩ h
  cases k0 with
  |zero=>exact nEx h
  |succ k0=>
  obtain⟨C0,hC0⟩:∃C,C=jF x1 K1 k0:=⟨_,rfl⟩;replace h:=(jF.eq_2 ..).symm.trans h
  try rw[<-hC0]at h
  refine aaE (aN [18,25] [] [0,3,4,8] [] trivial ?_);refine cK (decide ((n3:Int)<(lZ x1))) (fun hc1=> ?_) fun hc1=> ?_
  ·replace h:=aF hc1 h;refine aaF (tN (aaE (aaJ ?_)));obtain⟨ob0p,h⟩:=aB h;obtain⟨ob1p,h⟩:=aB h;refine bH [18,25] [] ⟨33,[(0,aQ x1),(3,.i (IntKind.wrap .i64 ((IntKind.wrap .i64 (i2+((((x1.getD n3 aH).2.2.2.2.2.1).length:Nat):Int)))+((((x1.getD n3 aH).2.2.2.2.2.2).length:Nat):Int)))),(4,.i (n3:Int))],[],[],0⟩ (an4 (iN ob0p) trivial (iN ob1p) trivial) ?_;refine kN (tN ?_);obtain⟨ob2p,h⟩:=aB h;refine bG [18,25] [] [0,3,4] [] (an1 (iP ob2p)) ?_;rw[hC0]at h;exact lN (_,(IntKind.wrap .i64 ((IntKind.wrap .i64 (i2+((((x1.getD n3 aH).2.2.2.2.2.1).length:Nat):Int)))+((((x1.getD n3 aH).2.2.2.2.2.2).length:Nat):Int))),(n3+1)) LR h (aaK _)
  ·replace h:=aG hc1 h;refine abK (tE (tE (kS ?_)));exact jN (i2) LR h
 ·rintro i4 h;replace h:=(congrFun hK1 _).symm.trans h;refine aaE (bG [18,25] [] [2] [] (an2 (an1 (idA (((decide ((lZ x1)<=(60:Int)))==true)=true))) (bqA (decide ((lZ x1)<=(60:Int))) true)) ?_);refine tN ?_;obtain rfl:=aaD h;refine aaG ?_;exact bK
abbrev f52z1 (x2 x3:Int):=((x2==(4:Int))&&(decide (x3>=(0:Int))))
abbrev f52z2 (x2 x3:Int):=((x2==(3:Int))&&(decide (x3>=(0:Int))))
def f52 (x1 x2 x3 x4 x5:Int) (x6 x7:aaA):Option Int:=
 if(((x2==(4:Int))&&(decide (x3>=(0:Int))))&&(decide (x3<(12:Int))))then(
 some x3
 )else(
 if(((x2==(3:Int))&&(decide (x3>=(0:Int))))&&(decide (x3<(6:Int))))then(
 chk (-9223372036854775808<=((12:Int)+x3)/\((12:Int)+x3)<=9223372036854775807)<|
 some ((12:Int)+x3)
 )else(
 some (-1:Int)
 )
 )
theorem wE (x1 x2 x3 x4 x5:Int) (x6 x7:aaA) (r:Int) (h:f52 x1 x2 x3 x4 x5 x6 x7=some r):aE Tryz.prog 52 [] [] [] [.agg [.i x1,.i x2,.i x3,.i x4,.i x5,.str x6,.str x7,.opq,.opq,.opq,.opq,.opq,.opq,.opq,.opq,.opq,.opq,.opq,.opq,.opq,.opq,.opq,.opq,.opq,.opq,.opq,.opq,.opq]] (.i r) []:=by
 unfold f52 at h;refine aE.body 0 _ _ Tryz.func52 rfl Tryz.ntmps52 rfl rfl ?_;refine aN [] [] [1] [1] trivial ?_;refine aaE (aaE (bG [] [] [1,15] [1] (an6 (an1 (idA (((x2==(4:Int))==true)=true))) (an1 (idA (((x2==(4:Int))==true)=true))) (bqA (x2==(4:Int)) true) (an1 (idA (((f52z1 x2 x3)==true)=true))) (an1 (idA (((f52z1 x2 x3)==true)=true))) (bqA (f52z1 x2 x3) true)) ?_));refine tN (cK ((f52z1 x2 x3)&&(decide (x3<(12:Int)))) (fun hc1=> ?_) fun hc1=> ?_)
 ·replace h:=aF hc1 h;refine bJ [] [] ⟨34,[(2,.i x3)],[],[],0⟩ trivial ?_;obtain rfl:=aaD h;refine aaG (tR ?_);exact bK
 ·replace h:=aG hc1 h;refine aaF (tN (aaE (aaE (bG [] [] [1,30] [1] (an6 (an1 (idA (((x2==(3:Int))==true)=true))) (an1 (idA (((x2==(3:Int))==true)=true))) (bqA (x2==(3:Int)) true) (an1 (idA (((f52z2 x2 x3)==true)=true))) (an1 (idA (((f52z2 x2 x3)==true)=true))) (bqA (f52z2 x2 x3) true)) ?_))));refine tN (cK ((f52z2 x2 x3)&&(decide (x3<(6:Int)))) (fun hc2=> ?_) fun hc2=> ?_)
  ·replace h:=aF hc2 h;refine aaE ?_;obtain⟨ob12,h⟩:=aB h;refine bH [] [] ⟨34,[(2,.i ((12:Int)+x3))],[],[],0⟩ (an1 ob12) ?_;refine tN ?_;obtain rfl:=aaD h;refine aaG (tR ?_);exact bK
  ·replace h:=aG hc2 h;refine aaF (tN (aN [] [] [2] [] trivial ?_));obtain rfl:=aaD h;refine aaG ?_;exact bK
def mY (x1:List Y51) (x2 x3:Int) (K1:Unit->Option (aaA×Bool)):Nat->Nat->Option (aaA×Bool)
 |0,_=>none
 |k+1,n4=>
  if(decide ((n4:Int)<(((x1).length:Nat):Int)))then(
  chk ((n4:Int)<(((x1).length:Nat):Int))<|
  chk ((((x1.getD n4 (default:Y51)).2.1==(1:Int))==true)=true->0<=(n4:Int)/\(n4:Int)<(((x1).length:Nat):Int))<|
  chk (((((x1.getD n4 (default:Y51)).2.1==(1:Int))&&((x1.getD n4 (default:Y51)).2.2.1==x2))==true)=true->0<=(n4:Int)/\(n4:Int)<(((x1).length:Nat):Int))<|
  if((((x1.getD n4 (default:Y51)).2.1==(1:Int))&&((x1.getD n4 (default:Y51)).2.2.1==x2))&&((x1.getD n4 (default:Y51)).2.2.2.2.1==x3))then(
  chk ((n4:Int)<(((x1).length:Nat):Int))<|
  some ((x1.getD n4 (default:Y51)).2.2.2.2.2.1,true)
  )else(
  chk (((n4:Int)+(1:Int))<=9223372036854775807)<|
  (mY x1 x2 x3 K1 k) (n4+1)
  )
  )else(
  K1 ()
  )
def f94 (x1:List Y51) (x2 x3:Int):Option (aaA×Bool):=
 jn (fun(_:Unit)=>
 some ([],false)
 ) fun(K1:Unit->Option (aaA×Bool))=>
 mY x1 x2 x3 K1 bB 0
theorem f94_ok (x1:List Y51) (x2 x3:Int) (r:aaA×Bool) (h:f94 x1 x2 x3=some r):aE Tryz.prog 94 [] [] [] [vL 28 kT (default:Y51) x1,.i x2,.i x3] (.tup [.str r.1,.bool r.2]) []:=by
 unfold f94 at h;refine aE.body 0 _ _ Tryz.func94 rfl Tryz.ntmps94 rfl rfl ?_;refine aN [] [] [0,1,2] [] trivial ?_;obtain⟨K1,hK1,h⟩:=aO h;refine aaU (fun(x:Unit)=>match x with|()=>⟨44,[],[],[],0⟩) (fun x=>K1 x=some r) ?_ ?_
 ·refine bJ [] [] ⟨44,[(0,aQ x1),(1,.i x2),(2,.i x3),(8,.i (0:Int))],[],[],0⟩ trivial ?_;refine aaJ (abI (α:=Nat×Nat) (fun x=>match x with|(_,n4)=>⟨44,[(0,aQ x1),(1,.i x2),(2,.i x3),(8,.i (n4:Int))],[],[],0⟩) (fun x=>mY x1 x2 x3 K1 x.1 x.2=some r) (fun x=>x.1) (bB,0) LR h ?_)
  rintro⟨k0,n4⟩ h
  cases k0 with
  |zero=>exact nEx h
  |succ k0=>
  obtain⟨C0,hC0⟩:∃C,C=mY x1 x2 x3 K1 k0:=⟨_,rfl⟩;replace h:=(mY.eq_2 ..).symm.trans h
  try rw[<-hC0]at h
  refine aaE (aN [] [] [0,1,2,8,12] [] trivial ?_);refine cK (decide ((n4:Int)<(lZ x1))) (fun hc1=> ?_) fun hc1=> ?_
  ·replace h:=aF hc1 h;refine aaF (tN (aaE (aaJ (aaE ?_))));obtain⟨ob0p,h⟩:=aB h;obtain⟨ob1,h⟩:=aB h;obtain⟨ob9,h⟩:=aB h;refine bH [] [] ⟨44,[(0,aQ x1),(1,.i x2),(2,.i x3),(8,.i (n4:Int)),(38,.bool ((((x1.getD n4 aH).2.1==(1:Int))&&((x1.getD n4 aH).2.2.1==x2))&&((x1.getD n4 aH).2.2.2.2.1==x3)))],[],[],0⟩ (ac6 (iN ob0p) (aaM ob1 (an2 (idA ((((x1.getD n4 aH).2.1==(1:Int))==true)=true)) (idA ((((x1.getD n4 aH).2.1==(1:Int))==true)=true)))) (an1 (idA ((((x1.getD n4 aH).2.1==(1:Int))==true)=true))) (an1 (idA ((((x1.getD n4 aH).2.1==(1:Int))==true)=true))) (an2 (idA ((((x1.getD n4 aH).2.1==(1:Int))==true)=true)) (idA ((((x1.getD n4 aH).2.1==(1:Int))==true)=true))) (bqA ((x1.getD n4 aH).2.1==(1:Int)) true) (an5 (aaM ob9 (an2 (idA (((((x1.getD n4 aH).2.1==(1:Int))&&((x1.getD n4 aH).2.2.1==x2))==true)=true)) (idA (((((x1.getD n4 aH).2.1==(1:Int))&&((x1.getD n4 aH).2.2.1==x2))==true)=true)))) (an1 (idA (((((x1.getD n4 aH).2.1==(1:Int))&&((x1.getD n4 aH).2.2.1==x2))==true)=true))) (an1 (idA (((((x1.getD n4 aH).2.1==(1:Int))&&((x1.getD n4 aH).2.2.1==x2))==true)=true))) (an2 (idA (((((x1.getD n4 aH).2.1==(1:Int))&&((x1.getD n4 aH).2.2.1==x2))==true)=true)) (idA (((((x1.getD n4 aH).2.1==(1:Int))&&((x1.getD n4 aH).2.2.1==x2))==true)=true))) (bqA (((x1.getD n4 aH).2.1==(1:Int))&&((x1.getD n4 aH).2.2.1==x2)) true))) ?_;refine tN (cK ((((x1.getD n4 aH).2.1==(1:Int))&&((x1.getD n4 aH).2.2.1==x2))&&((x1.getD n4 aH).2.2.2.2.1==x3)) (fun hc2=> ?_) fun hc2=> ?_)
   ·replace h:=aF hc2 h;refine aaE ?_;obtain⟨ob17p,h⟩:=aB h;refine bG [] [] [6,7] [] (an1 (iN ob17p)) ?_;refine tN ?_;obtain rfl:=aaD h;refine aaG (kR (tR (tR (kR (aS ?_)))));exact bK
   ·replace h:=aG hc2 h;refine aaF (kN (tN ?_));obtain⟨ob18p,h⟩:=aB h;refine bH [] [] ⟨44,[(0,aQ x1),(1,.i x2),(2,.i x3),(8,.i (((n4+1):Nat):Int))],[],[],0⟩ (an1 (iP ob18p)) ?_;rw[hC0]at h;exact lN (_,(n4+1)) LR h (aaK _)
  ·replace h:=aG hc1 h;refine abK (tE (tE (kS ?_)));exact jN () LR h
 ·rintro⟨⟩ h;replace h:=(congrFun hK1 _).symm.trans h;refine aN [] [] [6,7] [] trivial ?_;obtain rfl:=aaD h;refine aaG ?_;exact bK
def mX (x1:List Y51) (x2 x3:Int) (K1:Unit->Option (aaA×Bool)):Nat->Nat->Option (aaA×Bool)
 |0,_=>none
 |k+1,n4=>
  if(decide ((n4:Int)<(((x1).length:Nat):Int)))then(
  (f52 ((x1.getD n4 (default:Y51)).1) ((x1.getD n4 (default:Y51)).2.1) ((x1.getD n4 (default:Y51)).2.2.1) ((x1.getD n4 (default:Y51)).2.2.2.1) ((x1.getD n4 (default:Y51)).2.2.2.2.1) ((x1.getD n4 (default:Y51)).2.2.2.2.2.1) ((x1.getD n4 (default:Y51)).2.2.2.2.2.2)).bind fun r5=>
  chk ((n4:Int)<(((x1).length:Nat):Int))<|
  chk (((r5==x2)==true)=true->0<=(n4:Int)/\(n4:Int)<(((x1).length:Nat):Int))<|
  if((r5==x2)&&((x1.getD n4 (default:Y51)).2.2.2.1==x3))then(
  chk ((n4:Int)<(((x1).length:Nat):Int))<|
  some ((x1.getD n4 (default:Y51)).2.2.2.2.2.1,true)
  )else(
  chk (((n4:Int)+(1:Int))<=9223372036854775807)<|
  (mX x1 x2 x3 K1 k) (n4+1)
  )
  )else(
  K1 ()
  )
def f95 (x1:List Y51) (x2 x3:Int):Option (aaA×Bool):=
 jn (fun(_:Unit)=>
 some ([],false)
 ) fun(K1:Unit->Option (aaA×Bool))=>
 mX x1 x2 x3 K1 bB 0
theorem f95_ok (x1:List Y51) (x2 x3:Int) (r:aaA×Bool) (h:f95 x1 x2 x3=some r):aE Tryz.prog 95 [] [] [] [vL 28 kT (default:Y51) x1,.i x2,.i x3] (.tup [.str r.1,.bool r.2]) []:=by
 unfold f95 at h;refine aE.body 0 _ _ Tryz.func95 rfl Tryz.ntmps95 rfl rfl ?_;refine aN [] [] [0,1,2] [] trivial ?_;obtain⟨K1,hK1,h⟩:=aO h;refine aaU (fun(x:Unit)=>match x with|()=>⟨36,[],[],[],0⟩) (fun x=>K1 x=some r) ?_ ?_
 ·refine bJ [] [] ⟨36,[(0,aQ x1),(1,.i x2),(2,.i x3),(8,.i (0:Int))],[],[],0⟩ trivial ?_;refine aaJ (abI (α:=Nat×Nat) (fun x=>match x with|(_,n4)=>⟨36,[(0,aQ x1),(1,.i x2),(2,.i x3),(8,.i (n4:Int))],[],[],0⟩) (fun x=>mX x1 x2 x3 K1 x.1 x.2=some r) (fun x=>x.1) (bB,0) LR h ?_)
  rintro⟨k0,n4⟩ h
  cases k0 with
  |zero=>exact nEx h
  |succ k0=>
  obtain⟨C0,hC0⟩:∃C,C=mX x1 x2 x3 K1 k0:=⟨_,rfl⟩;replace h:=(mX.eq_2 ..).symm.trans h
  try rw[<-hC0]at h
  refine aaE (aN [] [] [0,1,2,8,12] [] trivial ?_);refine cK (decide ((n4:Int)<(lZ x1))) (fun hc1=> ?_) fun hc1=> ?_
  ·replace h:=aF hc1 h;refine aaF (tN (aaE (aaJ (aaE ?_))));obtain⟨r5,hr5,h⟩:=bind_ok h;obtain⟨ob0p,h⟩:=aB h;obtain⟨ob1,h⟩:=aB h;refine bH [] [(4,⟨[.agg (qpt (x1.getD n4 aH))],[],[],[],.i r5,[],[],[]⟩)] ⟨36,[(0,aQ x1),(1,.i x2),(2,.i x3),(8,.i (n4:Int)),(30,.bool ((r5==x2)&&((x1.getD n4 aH).2.2.2.1==x3)))],[],[],0⟩ (ac6 (iN ob0p) (cpT (wE _ _ _ _ _ _ _ _ hr5)) (aaM ob1 (an2 (idA (((r5==x2)==true)=true)) (idA (((r5==x2)==true)=true)))) (an1 (idA (((r5==x2)==true)=true))) (an1 (idA (((r5==x2)==true)=true))) (an2 (idA (((r5==x2)==true)=true)) (idA (((r5==x2)==true)=true))) (an1 (bqA (r5==x2) true))) ?_;refine tN (cK ((r5==x2)&&((x1.getD n4 aH).2.2.2.1==x3)) (fun hc2=> ?_) fun hc2=> ?_)
   ·replace h:=aF hc2 h;refine aaE ?_;obtain⟨ob9p,h⟩:=aB h;refine bG [] [] [6,7] [] (an1 (iN ob9p)) ?_;refine tN ?_;obtain rfl:=aaD h;refine aaG (kR (tR (tR (kR (aS ?_)))));exact bK
   ·replace h:=aG hc2 h;refine aaF (kN (tN ?_));obtain⟨ob10p,h⟩:=aB h;refine bH [] [] ⟨36,[(0,aQ x1),(1,.i x2),(2,.i x3),(8,.i (((n4+1):Nat):Int))],[],[],0⟩ (an1 (iP ob10p)) ?_;rw[hC0]at h;exact lN (_,(n4+1)) LR h (aaK _)
  ·replace h:=aG hc1 h;refine abK (tE (tE (kS ?_)));exact jN () LR h
 ·rintro⟨⟩ h;replace h:=(congrFun hK1 _).symm.trans h;refine aN [] [] [6,7] [] trivial ?_;obtain rfl:=aaD h;refine aaG ?_;exact bK
def iZ (x3:List Ty1) (K1:(Ty6×Ty4)->Option (Ty6×Ty4)):Nat->(Nat×Ty6×Ty4)->Option (Ty6×Ty4)
 |0,_=>none
 |k+1,(n4,l5,l6)=>
  if(decide ((n4:Int)<(((x3).length:Nat):Int)))then(
  (f37 l5 l6 (x3.getD n4 [])).bind fun r7=>
  chk ((n4:Int)<(((x3).length:Nat):Int))<|
  chk (((n4:Int)+(1:Int))<=9223372036854775807)<|
  (iZ x3 K1 k) ((n4+1),r7.1,r7.2.1)
  )else(
  K1 (l5,l6)
  )
abbrev f63az0 (x1:List Tq2) (x2:List Tq0):aJ:=[(2,.cells 92 [vL 3 cH (default:Tq2) x1,vL 3 bX (default:Tq0) x2]),(4,.cells 92 [.nils,.nils])]
abbrev f63az1 (l5:List Tq2) (l6:List Tq0):aJ:=[(2,.cells 92 [vL 3 cH (default:Tq2) l5,vL 3 bX (default:Tq0) l6]),(4,.cells 92 [.nils,.nils])]
abbrev f63az2 (r7:Ty6×Ty4×Ty4):List V:=[vL 3 cH (default:Tq2) r7.1,vL 3 bX (default:Tq0) r7.2.1]
abbrev f63az3 (l8:List Tq2) (l9:List Tq0):List V:=[vL 3 cH (default:Tq2) l8,vL 3 bX (default:Tq0) l9]
def f63a (x1:List Tq2) (x2:List Tq0) (x3:List Ty1):Option (Ty6×Ty4):=
 jn (fun((l8,l9):Ty6×Ty4)=>
 some (l8,l9)
 ) fun(K1:(Ty6×Ty4)->Option (Ty6×Ty4))=>
 iZ x3 K1 bB (0,x1,x2)
theorem f63a_ok (x1:List Tq2) (x2:List Tq0) (x3:List Ty1) (r:Ty6×Ty4) (h:f63a x1 x2 x3=some r):aE Tryz.prog 63 [] [] [] [.agg [vL 3 cH (default:Tq2) x1,vL 3 bX (default:Tq0) x2],vL 1 eS [] x3] (.agg [vL 3 cH (default:Tq2) r.1,vL 3 bX (default:Tq0) r.2]) []:=by
 unfold f63a at h;refine aE.bodyD [4] 0 _ _ Tryz.func63 rfl Tryz.ntmps63 rfl rfl ?_;refine aN [] [] [1,2,4] [2,4] trivial ?_;obtain⟨K1,hK1,h⟩:=aO h;refine aaU (fun(x:Ty6×Ty4)=>match x with|(l8,l9)=>⟨22,[(2,.ptr 2 0),(4,.ptr 4 0)],[(2,.cells 92 (f63az3 l8 l9)),(4,.cells 92 [.nils,.nils])],[],0⟩) (fun x=>K1 x=some r) ?_ ?_
 ·refine bJ [] [] ⟨22,[(1,eC x3),(2,.ptr 2 0),(4,.ptr 4 0),(5,.i (0:Int))],(f63az0 x1 x2),[],0⟩ trivial ?_;refine aaJ (abI (α:=Nat×(Nat×Ty6×Ty4)) (fun x=>match x with|(_,n4,l5,l6)=>⟨22,[(1,eC x3),(2,.ptr 2 0),(4,.ptr 4 0),(5,.i (n4:Int))],(f63az1 l5 l6),[],0⟩) (fun x=>iZ x3 K1 x.1 x.2=some r) (fun x=>x.1) (bB,0,x1,x2) LR h ?_)
  rintro⟨k0,n4,l5,l6⟩ h
  cases k0 with
  |zero=>exact nEx h
  |succ k0=>
  obtain⟨C0,hC0⟩:∃C,C=iZ x3 K1 k0:=⟨_,rfl⟩;replace h:=(iZ.eq_2 ..).symm.trans h
  try rw[<-hC0]at h
  refine aaE (aN [] [] [1,2,4,5,9] [2,4] trivial ?_);refine cK (decide ((n4:Int)<(lZ x3))) (fun hc1=> ?_) fun hc1=> ?_
  ·replace h:=aF hc1 h;refine aaF (tN (aaE (aaJ ?_)));obtain⟨r7,hr7,h⟩:=bind_ok h;obtain⟨ob0p,h⟩:=aB h;refine bH [] [(5,⟨[.agg [aY l5,bC l6],.str (x3.getD n4 [])],[],[],[(6001,bR r7.2.2)],.tup [.agg (f63az2 r7),.own 6001],[6001],[],[]⟩)] ⟨22,[(1,eC x3),(2,.ptr 2 0),(4,.ptr 4 0),(5,.i (n4:Int))],[(2,.cells 92 (f63az2 r7)),(4,.cells 92 [.nils,.nils])],[],0⟩ (an3 (iN ob0p) (cpT (aE.ren (aT 3000 6001) (aD 3000 6001) rfl (aAM _ _ _ _ hr7))) trivial) ?_;refine kN (tN ?_);obtain⟨ob1p,h⟩:=aB h;refine bG [] [] [1,2,4,5] [2,4] (an1 (iP ob1p)) ?_;rw[hC0]at h;exact lN (_,(n4+1),r7.1,r7.2.1) LR h (aaK _)
  ·replace h:=aG hc1 h;refine abK (tE (tE (kS ?_)));exact jN (l5,l6) LR h
 ·rintro⟨l8,l9⟩ h;replace h:=(congrFun hK1 _).symm.trans h;refine aN [] [] [4] [4] (an1 trivial) ?_;obtain rfl:=aaD h;refine aaG ?_;exact bD
abbrev f38az0 (r2:Ty6×Ty4):List V:=[vL 3 cH (default:Tq2) r2.1,vL 3 bX (default:Tq0) r2.2]
def f38a (x1:List Ty1):Option (Ty6×Ty4):=
 (f63a [] [] x1).bind fun r2=>
 some (r2.1,r2.2)
theorem f38a_ok (x1:List Ty1) (r:Ty6×Ty4) (h:f38a x1=some r):aE Tryz.prog 38 [] [] [] [vL 1 eS [] x1] (.agg [vL 3 cH (default:Tq2) r.1,vL 3 bX (default:Tq0) r.2]) []:=by
 unfold f38a at h;refine aE.bodyD [2] 0 _ _ Tryz.func38 rfl Tryz.ntmps38 rfl rfl ?_;refine aN [] [] [0,2] [2] trivial ?_;refine aaE ?_;obtain⟨r2,hr2,h⟩:=bind_ok h;refine bH [] [(2,⟨[.agg [aY [],bC []],eC x1],[],[],[],.agg (f38az0 r2),[],[],[]⟩)] ⟨6,[(2,.ptr 2 0)],[(2,.cells 92 (f38az0 r2))],[],0⟩ (an2 (cpL (c:=true) [] [] [.agg [.nils,.nils],eC x1] (fun _=>(f63a_ok _ _ _ _ hr2)) (fun _=>⟨(.aggs ⟨.nilL,.nilL,trivial⟩),.refl _,trivial⟩) (.inl rfl)) trivial) ?_;refine tN ?_;obtain rfl:=aaD h;refine aaG ?_;exact bD
def nE (x1:List Y51) (x4 x6:Int) (K1:Unit->Option Bool):Nat->Nat->Option Bool
 |0,_=>none
 |k+1,n9=>
  if(decide ((n9:Int)<(((x1).length:Nat):Int)))then(
  chk ((n9:Int)<(((x1).length:Nat):Int))<|
  chk ((((x1.getD n9 (default:Y51)).2.1==(2:Int))==true)=true->0<=(n9:Int)/\(n9:Int)<(((x1).length:Nat):Int))<|
  chk (((((x1.getD n9 (default:Y51)).2.1==(2:Int))&&((x1.getD n9 (default:Y51)).2.2.1==x4))==true)=true->0<=(n9:Int)/\(n9:Int)<(((x1).length:Nat):Int))<|
  if((((x1.getD n9 (default:Y51)).2.1==(2:Int))&&((x1.getD n9 (default:Y51)).2.2.1==x4))&&((x1.getD n9 (default:Y51)).2.2.2.2.1==x6))then(
  some false
  )else(
  chk (((n9:Int)+(1:Int))<=9223372036854775807)<|
  (nE x1 x4 x6 K1 k) (n9+1)
  )
  )else(
  K1 ()
  )
def nD (x4 x6:Int) (r10:aaA×Bool) (r12:Int×Int×Ty4×Int) (K2:Bool->Option Bool):Nat->(Bool×Nat)->Option Bool
 |0,_=>none
 |k+1,(b13,n14)=>
  if(decide ((n14:Int)<(((r12.2.2.1).length:Nat):Int)))then(
  chk ((n14:Int)<(((r12.2.2.1).length:Nat):Int))<|
  chk ((b13==false)=true->(b13==false)=true->((r12.2.2.1.getD n14 (default:Tq0)).1==x4)=true->((b13==false)&&(((r12.2.2.1.getD n14 (default:Tq0)).1==x4)==true))=true)<|
  chk ((b13==false)=true->(b13==false)=true->(((r12.2.2.1.getD n14 (default:Tq0)).1==x4)&&((r12.2.2.1.getD n14 (default:Tq0)).2.1==x6))=true->((b13==false)&&((((r12.2.2.1.getD n14 (default:Tq0)).1==x4)&&((r12.2.2.1.getD n14 (default:Tq0)).2.1==x6))==true))=true)<|
  chk (((n14:Int)+(1:Int))<=9223372036854775807)<|
  (nD x4 x6 r10 r12 K2 k) ((b13||((((r12.2.2.1.getD n14 (default:Tq0)).1==x4)&&((r12.2.2.1.getD n14 (default:Tq0)).2.1==x6))&&(((r12.2.2.1.getD n14 (default:Tq0)).2.2)==r10.1))),(n14+1))
  )else(
  K2 b13
  )
def jZ (x1:List Y51) (x4 x5:Int) (K3:(List Ty1)->Option Bool):Nat->(Nat×List Ty1)->Option Bool
 |0,_=>none
 |k+1,(n16,l17)=>
  if((decide ((n16:Int)<x5))&&(decide ((n16:Int)<=(((x1).length:Nat):Int))))then(
  (f95 x1 ((12:Int)+x4) (n16:Int)).bind fun r18=>
  chk (-9223372036854775808<=((12:Int)+x4)/\((12:Int)+x4)<=9223372036854775807)<|
  if(!r18.2)then(
  some false
  )else(
  chk (((l17).length+1) *16<=140737488355328)<|
  chk (((n16:Int)+(1:Int))<=9223372036854775807)<|
  (jZ x1 x4 x5 K3 k) ((n16+1),(l17++[r18.1]))
  )
  )else(
  K3 l17
  )
def hY (x4 x6:Int) (x8:aaA) (r21:Ty6×Ty4×Ty4) (K4:Unit->Option Bool):Nat->Nat->Option Bool
 |0,_=>none
 |k+1,n22=>
  if(decide ((n22:Int)<(((r21.2.2).length:Nat):Int)))then(
  chk ((n22:Int)<(((r21.2.2).length:Nat):Int))<|
  chk (n22<(r21.2.2).length)<|
  chk ((((r21.2.2.getD n22 (default:Tq0)).1==x4)==true)=true->0<=(n22:Int)/\(n22:Int)<(((r21.2.2).length:Nat):Int))<|
  chk ((((r21.2.2.getD n22 (default:Tq0)).1==x4)==true)=true->n22<(r21.2.2).length)<|
  if(((r21.2.2.getD n22 (default:Tq0)).1==x4)&&((r21.2.2.getD n22 (default:Tq0)).2.1==x6))then(
  chk ((n22:Int)<(((r21.2.2).length:Nat):Int))<|
  chk (n22<(r21.2.2).length)<|
  some (((r21.2.2.getD n22 (default:Tq0)).2.2)==x8)
  )else(
  chk (((n22:Int)+(1:Int))<=9223372036854775807)<|
  (hY x4 x6 x8 r21 K4 k) (n22+1)
  )
  )else(
  K4 ()
  )
abbrev tC (x2 x3 x4 x5 x6:Int) (x7 x8:aaA):List V:=[.i x2,.i x3,.i x4,.i x5,.i x6,.str x7,.str x8,.opq,.opq,.opq,.opq,.opq,.opq,.opq,.opq,.opq,.opq,.opq,.opq,.opq,.opq,.opq,.opq,.opq,.opq,.opq,.opq,.opq]
abbrev f67z1 (r12:Int×Int×Ty4×Int) (n14:Nat):=(r12.2.2.1.getD n14 (default:Tq0))
abbrev f67z2 (x2 x3 x4 x5 x6:Int) (x7 x8:aaA) (r12:Int×Int×Ty4×Int):aJ:=[(3,.cells 51 (tC x2 x3 x4 x5 x6 x7 x8)),(10,.cells 100 [.i r12.1,.i r12.2.1,vL 3 bX (default:Tq0) r12.2.2.1])]
abbrev aBF (r21:Ty6×Ty4×Ty4) (n22:Nat):=(r21.2.2.getD n22 (default:Tq0))
abbrev f67z4 (x2 x3 x4 x5 x6:Int) (x7 x8:aaA) (r21:Ty6×Ty4×Ty4):aJ:=[(3,.cells 51 (tC x2 x3 x4 x5 x6 x7 x8)),(6001,bL 98 3 bX (default:Tq0) r21.2.2)]
abbrev f67z5 (r12:Int×Int×Ty4×Int) (n14:Nat) (x4 x6:Int):=(((f67z1 r12 n14).1==x4)&&((f67z1 r12 n14).2.1==x6))
abbrev vY (x2 x3 x4 x5 x6:Int) (x7 x8:aaA):aJ:=[(3,.cells 51 (tC x2 x3 x4 x5 x6 x7 x8))]
abbrev f67z7 (n16:Nat) (x5:Int):=(decide ((n16:Int)<x5))
abbrev f67z8 (b13:Bool) (r12:Int×Int×Ty4×Int) (n14:Nat) (x4:Int):=((b13==false)&&(((f67z1 r12 n14).1==x4)==true))
abbrev vX (r21:Ty6×Ty4×Ty4) (n22:Nat) (x4:Int):=(((aBF r21 n22).1==x4)==true)
def f67 (x1:List Y51) (x2 x3 x4 x5 x6:Int) (x7 x8:aaA):Option Bool:=
 jn (fun(_:Unit)=>
 (f94 x1 x4 x6).bind fun r10=>
 (f95 x1 ((12:Int)+x4) x5).bind fun r11=>
 chk (-9223372036854775808<=((12:Int)+x4)/\((12:Int)+x4)<=9223372036854775807)<|
 if((!r10.2)||(!r11.2))then(
 some false
 )else(
 (f61 r11.1).bind fun r12=>
 if(r12.2.2.2 !=(0:Int))then(
 some false
 )else(
 jn (fun(b15:Bool)=>
 jn (fun(l19:List Ty1)=>
 if(!b15)then(
 some false
 )else(
 (f38a l19).bind fun r20=>
 (f37 r20.1 r20.2 r11.1).bind fun r21=>
 jn (fun(_:Unit)=>
 some false
 ) fun(K4:Unit->Option Bool)=>
 hY x4 x6 x8 r21 K4 bB 0
 )
 ) fun(K3:(List Ty1)->Option Bool)=>
 jZ x1 x4 x5 K3 bB (0,[])
 ) fun(K2:Bool->Option Bool)=>
 nD x4 x6 r10 r12 K2 bB (false,0)
 )
 )
 ) fun(K1:Unit->Option Bool)=>
 nE x1 x4 x6 K1 bB 0
theorem f67_ok (x1:List Y51) (x2 x3 x4 x5 x6:Int) (x7 x8:aaA) (r:Bool) (h:f67 x1 x2 x3 x4 x5 x6 x7 x8=some r):aE Tryz.prog 67 [] [] [] [vL 28 kT (default:Y51) x1,.agg [.i x2,.i x3,.i x4,.i x5,.i x6,.str x7,.str x8,.opq,.opq,.opq,.opq,.opq,.opq,.opq,.opq,.opq,.opq,.opq,.opq,.opq,.opq,.opq,.opq,.opq,.opq,.opq,.opq,.opq]] (.bool r) []:=by
 unfold f67 at h;refine aE.body 0 _ _ Tryz.func67 rfl Tryz.ntmps67 rfl rfl ?_;refine aN [] [] [0,3] [3] trivial ?_;obtain⟨K1,hK1,h⟩:=aO h;refine aaU (fun(x:Unit)=>match x with|()=>⟨187,[(0,aQ x1),(3,.ptr 3 0)],(vY x2 x3 x4 x5 x6 x7 x8),[],0⟩) (fun x=>K1 x=some r) ?_ ?_
 ·refine bJ [] [] ⟨187,[(0,aQ x1),(3,.ptr 3 0),(5,.i (0:Int))],(vY x2 x3 x4 x5 x6 x7 x8),[],0⟩ trivial ?_;refine aaJ (abI (α:=Nat×Nat) (fun x=>match x with|(_,n9)=>⟨187,[(0,aQ x1),(3,.ptr 3 0),(5,.i (n9:Int))],(vY x2 x3 x4 x5 x6 x7 x8),[],0⟩) (fun x=>nE x1 x4 x6 K1 x.1 x.2=some r) (fun x=>x.1) (bB,0) LR h ?_)
  rintro⟨k0,n9⟩ h
  cases k0 with
  |zero=>exact nEx h
  |succ k0=>
  obtain⟨C0,hC0⟩:∃C,C=nE x1 x4 x6 K1 k0:=⟨_,rfl⟩;replace h:=(nE.eq_2 ..).symm.trans h
  try rw[<-hC0]at h
  refine aaE (aN [] [] [0,3,5,25] [3] trivial ?_);refine cK (decide ((n9:Int)<(lZ x1))) (fun hc1=> ?_) fun hc1=> ?_
  ·replace h:=aF hc1 h;refine aaF (tN (aaE (aaJ (aaE ?_))));obtain⟨ob0p,h⟩:=aB h;obtain⟨ob1,h⟩:=aB h;obtain⟨ob10,h⟩:=aB h;refine bH [] [] ⟨187,[(0,aQ x1),(3,.ptr 3 0),(5,.i (n9:Int)),(53,.bool ((((x1.getD n9 aH).2.1==(2:Int))&&((x1.getD n9 aH).2.2.1==x4))&&((x1.getD n9 aH).2.2.2.2.1==x6)))],(vY x2 x3 x4 x5 x6 x7 x8),[],0⟩ (ac6 (iN ob0p) (aaM ob1 (an2 (idA ((((x1.getD n9 aH).2.1==(2:Int))==true)=true)) (idA ((((x1.getD n9 aH).2.1==(2:Int))==true)=true)))) (an1 (idA ((((x1.getD n9 aH).2.1==(2:Int))==true)=true))) (an1 (idA ((((x1.getD n9 aH).2.1==(2:Int))==true)=true))) (an1 (idA ((((x1.getD n9 aH).2.1==(2:Int))==true)=true))) (an2 (idA ((((x1.getD n9 aH).2.1==(2:Int))==true)=true)) (idA ((((x1.getD n9 aH).2.1==(2:Int))==true)=true))) (ac6 (bqA ((x1.getD n9 aH).2.1==(2:Int)) true) (aaM ob10 (an2 (idA (((((x1.getD n9 aH).2.1==(2:Int))&&((x1.getD n9 aH).2.2.1==x4))==true)=true)) (idA (((((x1.getD n9 aH).2.1==(2:Int))&&((x1.getD n9 aH).2.2.1==x4))==true)=true)))) (an1 (idA (((((x1.getD n9 aH).2.1==(2:Int))&&((x1.getD n9 aH).2.2.1==x4))==true)=true))) (an1 (idA (((((x1.getD n9 aH).2.1==(2:Int))&&((x1.getD n9 aH).2.2.1==x4))==true)=true))) (an1 (idA (((((x1.getD n9 aH).2.1==(2:Int))&&((x1.getD n9 aH).2.2.1==x4))==true)=true))) (an2 (idA (((((x1.getD n9 aH).2.1==(2:Int))&&((x1.getD n9 aH).2.2.1==x4))==true)=true)) (idA (((((x1.getD n9 aH).2.1==(2:Int))&&((x1.getD n9 aH).2.2.1==x4))==true)=true))) (an1 (bqA (((x1.getD n9 aH).2.1==(2:Int))&&((x1.getD n9 aH).2.2.1==x4)) true)))) ?_;refine tN (cK ((((x1.getD n9 aH).2.1==(2:Int))&&((x1.getD n9 aH).2.2.1==x4))&&((x1.getD n9 aH).2.2.2.2.1==x6)) (fun hc2=> ?_) fun hc2=> ?_)
   ·replace h:=aF hc2 h;refine aN [] [] [4] [] trivial ?_;obtain rfl:=aaD h;refine aaG (kR (tR (tR (kR (aS ?_)))));exact bK
   ·replace h:=aG hc2 h;refine aaF (kN (tN ?_));obtain⟨ob19p,h⟩:=aB h;refine bH [] [] ⟨187,[(0,aQ x1),(3,.ptr 3 0),(5,.i (((n9+1):Nat):Int))],(vY x2 x3 x4 x5 x6 x7 x8),[],0⟩ (an1 (iP ob19p)) ?_;rw[hC0]at h;exact lN (_,(n9+1)) LR h (aaK _)
  ·replace h:=aG hc1 h;refine abK (tE (tE (kS ?_)));exact jN () LR h
 ·rintro⟨⟩ h;replace h:=(congrFun hK1 _).symm.trans h;refine aaE ?_;obtain⟨r10,hr10,h⟩:=bind_ok h;refine bG [] [(5,⟨[aQ x1,.i x4,.i x6],[],[],[],.tup [.str r10.1,.bool r10.2],[],[],[]⟩)] [0,3,6,7] [3] (an1 (cpT (f94_ok _ _ _ _ hr10))) ?_;refine tN (aaE ?_);obtain⟨r11,hr11,h⟩:=bind_ok h;obtain⟨ob20,h⟩:=aB h;refine bG [] [(6,⟨[aQ x1,.i ((12:Int)+x4),.i x5],[],[],[],.tup [.str r11.1,.bool r11.2],[],[],[]⟩)] [0,3,6,7,8,9] [3] (an2 ob20 (cpT (f95_ok _ _ _ _ hr11))) ?_;refine tN (aaE (aaE (bG [] [] [0,3,6,8,78] [3] (an2 (an1 (idA (((!r10.2)==false)=true))) (bqA (!r10.2) false)) ?_)));refine tN (cK ((!r10.2)||(!r11.2)) (fun hc3=> ?_) fun hc3=> ?_)
  ·replace h:=aF hc3 h;refine bJ [] [] ⟨187,[(4,.bool false)],[],[],0⟩ trivial ?_;obtain rfl:=aaD h;refine aaG (tR ?_);exact bK
  ·replace h:=aG hc3 h;refine aaF (tN (aaE ?_));obtain⟨r12,hr12,h⟩:=bind_ok h;refine bG [] [(1,⟨[.str r11.1],[],[],[],.tup [.agg [.i r12.1,.i r12.2.1,bC r12.2.2.1],.i r12.2.2.2],[],[],[]⟩)] [0,3,6,8,10,11] [3,10] (an2 (cpT (f61_ok _ _ hr12)) trivial) ?_;refine tN (aaE (aN [] [] [0,3,6,8,10,85] [3,10] trivial ?_));refine cK (r12.2.2.2 !=(0:Int)) (fun hc4=> ?_) fun hc4=> ?_
   ·replace h:=aF hc4 h;refine bJ [] [] ⟨187,[(4,.bool false)],[],[],0⟩ trivial ?_;obtain rfl:=aaD h;refine aaG (tR ?_);exact bK
   ·replace h:=aG hc4 h;refine aaF (tN (aN [] [] [0,3,6,8,10,12] [3,10] trivial ?_));obtain⟨K2,hK2,h⟩:=aO h;refine aaU (α:=Bool) (fun(b15:Bool)=>⟨187,[(0,aQ x1),(3,.ptr 3 0),(8,.str r11.1),(12,.bool b15)],(vY x2 x3 x4 x5 x6 x7 x8),[],0⟩) (fun x=>K2 x=some r) ?_ ?_
    ·refine bJ [] [] ⟨187,[(0,aQ x1),(3,.ptr 3 0),(6,.str r10.1),(8,.str r11.1),(10,.ptr 10 0),(12,.bool false),(13,.i (0:Int))],(f67z2 x2 x3 x4 x5 x6 x7 x8 r12),[],0⟩ trivial ?_;refine aaJ (abI (α:=Nat×(Bool×Nat)) (fun x=>match x with|(_,b13,n14)=>⟨187,[(0,aQ x1),(3,.ptr 3 0),(6,.str r10.1),(8,.str r11.1),(10,.ptr 10 0),(12,.bool b13),(13,.i (n14:Int))],(f67z2 x2 x3 x4 x5 x6 x7 x8 r12),[],0⟩) (fun x=>nD x4 x6 r10 r12 K2 x.1 x.2=some r) (fun x=>x.1) (bB,false,0) LR h ?_)
     rintro⟨k1,b13,n14⟩ h
     cases k1 with
     |zero=>exact nEx h
     |succ k1=>
     obtain⟨C1,hC1⟩:∃C,C=nD x4 x6 r10 r12 K2 k1:=⟨_,rfl⟩;replace h:=(nD.eq_2 ..).symm.trans h
     try rw[<-hC1]at h
     refine aaE (aN [] [] [0,3,6,8,10,12,13,90] [3,10] trivial ?_);refine cK (decide ((n14:Int)<(lZ r12.2.2.1))) (fun hc5=> ?_) fun hc5=> ?_
     ·replace h:=aF hc5 h;refine aaF (tN (aaE (aaJ (aaE ?_))));obtain⟨ob23p,h⟩:=aB h;refine bG [] [] [0,3,6,8,10,12,13,14] [3,10,14] (an2 (iN ob23p) trivial) ?_;refine tN ?_;obtain⟨ob33,h⟩:=aB h;obtain⟨ob39,h⟩:=aB h;refine bH [] [] ⟨187,[(0,aQ x1),(3,.ptr 3 0),(6,.str r10.1),(8,.str r11.1),(10,.ptr 10 0),(12,.bool (b13||((f67z5 r12 n14 x4 x6)&&(((f67z1 r12 n14).2.2)==r10.1)))),(13,.i (n14:Int))],(f67z2 x2 x3 x4 x5 x6 x7 x8 r12),[],0⟩ (ac6 (an1 (idA ((b13==false)=true))) (an1 (idA ((b13==false)=true))) (an2 (idA ((b13==false)=true)) (idA ((b13==false)=true))) (an1 (idA ((b13==false)=true))) (an1 (idA ((f67z8 b13 r12 n14 x4)=true))) (an1 (idA ((f67z8 b13 r12 n14 x4)=true))) (ac6 (an2 (idA ((f67z8 b13 r12 n14 x4)=true)) (idA ((f67z8 b13 r12 n14 x4)=true))) (aaM ob33 (an1 (idA ((b13==false)=true)))) (an1 (idA ((b13==false)=true))) (an1 (idA (((b13==false)&&((f67z5 r12 n14 x4 x6)==true))=true))) (an2 (idA (((b13==false)&&((f67z5 r12 n14 x4 x6)==true))=true)) (idA (((b13==false)&&((f67z5 r12 n14 x4 x6)==true))=true))) (aaM ob39 (an1 (idA ((b13==false)=true)))) (an1 (bqA b13 false)))) ?_;refine kN (tN ?_);obtain⟨ob42p,h⟩:=aB h;refine bG [] [] [0,3,6,8,10,12,13] [3,10] (an1 (iP ob42p)) ?_;rw[hC1]at h;exact lN (_,(b13||((f67z5 r12 n14 x4 x6)&&(((f67z1 r12 n14).2.2)==r10.1))),(n14+1)) LR h (aaK _)
     ·replace h:=aG hc5 h;refine abK (tE (tE (kS ?_)));exact jN (b13) LR h
    ·rintro b15 h;replace h:=(congrFun hK2 _).symm.trans h;refine aN [] [] [0,3,8,12,15] [3] trivial ?_;obtain⟨K3,hK3,h⟩:=aO h;refine aaU (α:=List Ty1) (fun(l19:List Ty1)=>⟨187,[(3,.ptr 3 0),(8,.str r11.1),(12,.bool b15),(15,.own 5015)],[(3,.cells 51 (tC x2 x3 x4 x5 x6 x7 x8)),(5015,aK l19)],[],0⟩) (fun x=>K3 x=some r) ?_ ?_
     ·refine bJ [] [] ⟨187,[(0,aQ x1),(3,.ptr 3 0),(8,.str r11.1),(12,.bool b15),(15,.nils),(16,.i (0:Int))],(vY x2 x3 x4 x5 x6 x7 x8),[],0⟩ trivial ?_;refine aaJ (abI (α:=Nat×(Nat×List Ty1)) (fun x=>match x with|(_,n16,l17)=>⟨187,[(0,aQ x1),(3,.ptr 3 0),(8,.str r11.1),(12,.bool b15),(15,.own 5015),(16,.i (n16:Int))],[(3,.cells 51 (tC x2 x3 x4 x5 x6 x7 x8)),(5015,aK l17)],[],0⟩) (fun x=>jZ x1 x4 x5 K3 x.1 x.2=some r) (fun x=>x.1) (bB,0,[]) (aaL (aaL (adM 15 5015 9 1 (cE eS [] []) rfl rfl (aaW rfl)) (LR (s':=⟨187,[(0,aQ x1),(3,.ptr 3 0),(8,.str r11.1),(12,.bool b15),(15,.own 5015),(16,.i (0:Int))],[(3,.cells 51 (tC x2 x3 x4 x5 x6 x7 x8)),(5015,aK [])],[],0⟩))) LR) h ?_)
      rintro⟨k2,n16,l17⟩ h
      cases k2 with
      |zero=>exact nEx h
      |succ k2=>
      obtain⟨C2,hC2⟩:∃C,C=jZ x1 x4 x5 K3 k2:=⟨_,rfl⟩;replace h:=(jZ.eq_2 ..).symm.trans h
      try rw[<-hC2]at h
      refine aaE (aaE (bG [] [] [0,3,8,12,15,16,128] [3,5015] (an3 (an1 (idA (((f67z7 n16 x5)==true)=true))) (an2 (idA (((f67z7 n16 x5)==true)=true)) (idA (((f67z7 n16 x5)==true)=true))) (bqA (f67z7 n16 x5) true)) ?_));refine tN (cK ((f67z7 n16 x5)&&(decide ((n16:Int)<=(lZ x1)))) (fun hc6=> ?_) fun hc6=> ?_)
      ·replace h:=aF hc6 h;refine aaF (tN (aaE (aaJ (aaE ?_))));obtain⟨r18,hr18,h⟩:=bind_ok h;obtain⟨ob47,h⟩:=aB h;refine bG [] [(5,⟨[aQ x1,.i ((12:Int)+x4),.i (n16:Int)],[],[],[],.tup [.str r18.1,.bool r18.2],[],[],[]⟩)] [0,3,8,12,15,16,17,18] [3,5015] (an2 ob47 (cpT (f95_ok _ _ _ _ hr18))) ?_;refine tN (aaE (aN [] [] [0,3,8,12,15,16,17,141] [3,5015] trivial ?_));refine cK (!r18.2) (fun hc7=> ?_) fun hc7=> ?_
       ·replace h:=aF hc7 h;refine bJ [] [] ⟨187,[(4,.bool false)],[],[],0⟩ trivial ?_;obtain rfl:=aaD h;refine aaG (tR (kR (tR (tR (kR (aS ?_))))));exact bK
       ·replace h:=aG hc7 h;refine aaF (tN ?_);obtain⟨ob48,h⟩:=aB h;refine bH [] [] ⟨187,[(0,aQ x1),(3,.ptr 3 0),(8,.str r11.1),(12,.bool b15),(15,.own 5015),(16,.i (n16:Int))],[(3,.cells 51 (tC x2 x3 x4 x5 x6 x7 x8)),(5015,.rows 9 1 ((l17).length+1) (gK (l17).length (cE eS [] l17) (dN 1 [.str r18.1])))],[],0⟩ (an1 ob48) ?_;refine kN (tN (aaX (acZ (s':=⟨187,[(0,aQ x1),(3,.ptr 3 0),(8,.str r11.1),(12,.bool b15),(15,.own 5015),(16,.i (n16:Int))],[(3,.cells 51 (tC x2 x3 x4 x5 x6 x7 x8)),(5015,aK (l17++[r18.1]))],[],0⟩) rfl rfl ⟨.refl _,.refl _,.refl _,.refl _,.refl _,.refl _,trivial⟩ ⟨⟨_,rfl,.refl _⟩,⟨_,rfl,(acK (adQ (acX _) (acV (enc:=eS) [r18.1] rfl rfl (fun _=>rfl))))⟩,trivial⟩) ?_));obtain⟨ob49p,h⟩:=aB h;refine bG [] [] [0,3,8,12,15,16] [3,5015] (an1 (iP ob49p)) ?_;rw[hC2]at h;exact lN (_,(n16+1),(l17++[r18.1])) LR h (aaK _)
      ·replace h:=aG hc6 h;refine abK (tE (tE (kS ?_)));exact jN (l17) LR h
     ·rintro l19 h;replace h:=(congrFun hK3 _).symm.trans h;refine aaE (bJ [] [] ⟨187,[(3,.ptr 3 0),(8,.str r11.1),(15,.own 5015),(147,.bool (!b15))],[(3,.cells 51 (tC x2 x3 x4 x5 x6 x7 x8)),(5015,aK l19)],[],0⟩ trivial ?_);refine cK (!b15) (fun hc8=> ?_) fun hc8=> ?_
      ·replace h:=aF hc8 h;refine aN [] [] [4] [] trivial ?_;obtain rfl:=aaD h;refine aaG (tR ?_);exact bK
      ·replace h:=aG hc8 h;refine aaF (tN (aaE (aaX (aaL (aeU 5015 rfl rfl) (LR (s':=⟨187,[(3,.ptr 3 0),(8,.str r11.1),(15,eC l19),(147,.bool (!b15))],(vY x2 x3 x4 x5 x6 x7 x8),[],0⟩))) ?_)));obtain⟨r20,hr20,h⟩:=bind_ok h;obtain⟨r21,hr21,h⟩:=bind_ok h;refine bH [] [(1,⟨[eC l19],[],[],[],.agg [aY r20.1,bC r20.2],[],[],[]⟩),(3,⟨[.agg [aY r20.1,bC r20.2],.str r11.1],[],[],[(6001,bR r21.2.2)],.tup [.agg [aY r21.1,bC r21.2.1],.own 6001],[6001],[],[]⟩)] ⟨187,[(3,.ptr 3 0),(20,.own 6001)],(f67z4 x2 x3 x4 x5 x6 x7 x8 r21),[],0⟩ (an3 (cpT (f38a_ok _ _ hr20)) (cpT (aE.ren (aT 3000 6001) (aD 3000 6001) rfl (aAM _ _ _ _ hr21))) trivial) ?_;refine tN ?_;obtain⟨K4,hK4,h⟩:=aO h;refine aaU (fun(x:Unit)=>match x with|()=>⟨187,[],[],[],0⟩) (fun x=>K4 x=some r) ?_ ?_
       ·refine aN [] [] [3,20,21] [3,6001] trivial ?_;refine aaJ (abI (α:=Nat×Nat) (fun x=>match x with|(_,n22)=>⟨187,[(3,.ptr 3 0),(20,.own 6001),(21,.i (n22:Int))],(f67z4 x2 x3 x4 x5 x6 x7 x8 r21),[],0⟩) (fun x=>hY x4 x6 x8 r21 K4 x.1 x.2=some r) (fun x=>x.1) (bB,0) LR h ?_)
        rintro⟨k3,n22⟩ h
        cases k3 with
        |zero=>exact nEx h
        |succ k3=>
        obtain⟨C3,hC3⟩:∃C,C=hY x4 x6 x8 r21 K4 k3:=⟨_,rfl⟩;replace h:=(hY.eq_2 ..).symm.trans h
        try rw[<-hC3]at h
        refine aaE (aN [] [] [3,20,21,158] [3,6001] trivial ?_);refine cK (decide ((n22:Int)<(lZ r21.2.2))) (fun hc9=> ?_) fun hc9=> ?_
        ·replace h:=aF hc9 h;refine aaF (tN (aaE (aaJ (aaE ?_))));obtain⟨ob50p,h⟩:=aB h;obtain⟨ob51,ob52,h⟩:=ck2 h;obtain⟨ob56,h⟩:=aB h;have ob61:true=true->((aBF r21 n22).1==x4)=true->(vX r21 n22 x4)=true:=fun _ h=>beq_iff_eq.2 h;refine bH [] [] ⟨187,[(3,.ptr 3 0),(20,.own 6001),(21,.i (n22:Int)),(178,.bool (((aBF r21 n22).1==x4)&&((aBF r21 n22).2.1==x6)))],(f67z4 x2 x3 x4 x5 x6 x7 x8 r21),[],0⟩ (ac6 (iN ob50p) ob51 (aaM ob52 (an2 (idA ((vX r21 n22 x4)=true)) (idA ((vX r21 n22 x4)=true)))) (an1 (idA ((vX r21 n22 x4)=true))) (aaM ob56 (an1 (idA ((vX r21 n22 x4)=true)))) (an1 (idA ((vX r21 n22 x4)=true))) (an2 (an2 (idA ((vX r21 n22 x4)=true)) (idA ((vX r21 n22 x4)=true))) ob61)) ?_;refine tN (cK (((aBF r21 n22).1==x4)&&((aBF r21 n22).2.1==x6)) (fun hc10=> ?_) fun hc10=> ?_)
         ·replace h:=aF hc10 h;refine aaE ?_;obtain⟨ob62p,h⟩:=aB h;obtain⟨ob63,h⟩:=aB h;refine bG [] [] [4] [] (an2 (iN ob62p) ob63) ?_;refine tN ?_;obtain rfl:=aaD h;refine aaG (kR (tR (tR (kR (aS ?_)))));exact bK
         ·replace h:=aG hc10 h;refine aaF (kN (tN ?_));obtain⟨ob64p,h⟩:=aB h;refine bH [] [] ⟨187,[(3,.ptr 3 0),(20,.own 6001),(21,.i (((n22+1):Nat):Int))],(f67z4 x2 x3 x4 x5 x6 x7 x8 r21),[],0⟩ (an1 (iP ob64p)) ?_;rw[hC3]at h;exact lN (_,(n22+1)) LR h (aaK _)
        ·replace h:=aG hc9 h;refine abK (tE (tE (kS ?_)));exact jN () LR h
       ·rintro⟨⟩ h;replace h:=(congrFun hK4 _).symm.trans h;refine aN [] [] [4] [] trivial ?_;obtain rfl:=aaD h;refine aaG ?_;exact bK
def nI (x1:List Y51) (x5:Int) (x7:aaA) (r9:Int) (K2:Nat->Option Int):Nat->(Nat×Nat)->Option Int
 |0,_=>none
 |k+1,(n10,n11)=>
  if(decide ((n11:Int)<(((x1).length:Nat):Int)))then(
  jn (fun(n14:Nat)=>
  chk (((n11:Int)+(1:Int))<=9223372036854775807)<|
  (nI x1 x5 x7 r9 K2 k) (n14,(n11+1))
  ) fun(K3:Nat->Option Int)=>
  (f52 ((x1.getD n11 (default:Y51)).1) ((x1.getD n11 (default:Y51)).2.1) ((x1.getD n11 (default:Y51)).2.2.1) ((x1.getD n11 (default:Y51)).2.2.2.1) ((x1.getD n11 (default:Y51)).2.2.2.2.1) ((x1.getD n11 (default:Y51)).2.2.2.2.2.1) ((x1.getD n11 (default:Y51)).2.2.2.2.2.2)).bind fun r12=>
  chk ((n11:Int)<(((x1).length:Nat):Int))<|
  chk (((decide (r12>=(0:Int)))==true)=true->0<=(n11:Int)/\(n11:Int)<(((x1).length:Nat):Int))<|
  chk ((((decide (r12>=(0:Int)))&&((x1.getD n11 (default:Y51)).2.2.2.1==x5))==true)=true->0<=(n11:Int)/\(n11:Int)<(((x1).length:Nat):Int))<|
  if(((decide (r12>=(0:Int)))&&((x1.getD n11 (default:Y51)).2.2.2.1==x5))&&(!(((x1.getD n11 (default:Y51)).2.2.2.2.2.1)==x7)))then(
  some (1:Int)
  )else(
  (f52 ((x1.getD n11 (default:Y51)).1) ((x1.getD n11 (default:Y51)).2.1) ((x1.getD n11 (default:Y51)).2.2.1) ((x1.getD n11 (default:Y51)).2.2.2.1) ((x1.getD n11 (default:Y51)).2.2.2.2.1) ((x1.getD n11 (default:Y51)).2.2.2.2.2.1) ((x1.getD n11 (default:Y51)).2.2.2.2.2.2)).bind fun r13=>
  chk ((n11:Int)<(((x1).length:Nat):Int))<|
  if(r13==r9)then(
  chk (((n10:Int)+(1:Int))<=9223372036854775807)<|
  K3 (n10+1)
  )else(
  K3 n10
  )
  )
  )else(
  K2 n10
  )
abbrev f46z0 (x2 x3 x4 x5 x6:Int) (x7 x8:aaA):List V:=[.i x2,.i x3,.i x4,.i x5,.i x6,.str x7,.str x8,.opq,.opq,.opq,.opq,.opq,.opq,.opq,.opq,.opq,.opq,.opq,.opq,.opq,.opq,.opq,.opq,.opq,.opq,.opq,.opq,.opq]
abbrev f46z1 (x3 x4:Int):=(((x3==(2:Int))&&(decide (x4>=(0:Int))))&&(decide (x4<(6:Int))))
abbrev pQ (r12:Int):=(decide (r12>=(0:Int)))
abbrev yS (x2 x3 x4 x5 x6:Int) (x7 x8:aaA):aJ:=[(3,.cells 51 (f46z0 x2 x3 x4 x5 x6 x7 x8))]
abbrev f46z4 (x3 x4:Int):=(((x3==(2:Int))&&(decide (x4>=(0:Int))))==true)
abbrev wK (r12:Int):=((pQ r12)==true)
abbrev f46z6 (x3:Int):=((x3==(3:Int))==true)
def f46 (x1:List Y51) (x2 x3 x4 x5 x6:Int) (x7 x8:aaA):Option Int:=
 jn (fun(_:Unit)=>
 gB ((((x3==(2:Int))&&(decide (x4>=(0:Int))))&&(decide (x4<(6:Int))))==true) (f67 x1 x2 x3 x4 x5 x6 x7 x8) fun r16=>
 if((((x3==(2:Int))&&(decide (x4>=(0:Int))))&&(decide (x4<(6:Int))))&&(!r16))then(
 some (3:Int)
 )else(
 some (0:Int)
 )
 ) fun(K1:Unit->Option Int)=>
 (f52 x2 x3 x4 x5 x6 x7 x8).bind fun r9=>
 if(decide (r9>=(0:Int)))then(
 jn (fun(n15:Nat)=>
 if((x3==(3:Int))&&(x5 !=(n15:Int)))then(
 some (2:Int)
 )else(
 K1 ()
 )
 ) fun(K2:Nat->Option Int)=>
 nI x1 x5 x7 r9 K2 bB (0,0)
 )else(
 K1 ()
 )
theorem f46_ok (x1:List Y51) (x2 x3 x4 x5 x6:Int) (x7 x8:aaA) (r:Int) (h:f46 x1 x2 x3 x4 x5 x6 x7 x8=some r):aE Tryz.prog 46 [] [] [] [vL 28 kT (default:Y51) x1,.agg [.i x2,.i x3,.i x4,.i x5,.i x6,.str x7,.str x8,.opq,.opq,.opq,.opq,.opq,.opq,.opq,.opq,.opq,.opq,.opq,.opq,.opq,.opq,.opq,.opq,.opq,.opq,.opq,.opq,.opq]] (.i r) []:=by
 unfold f46 at h;refine aE.body 0 _ _ Tryz.func46 rfl Tryz.ntmps46 rfl rfl ?_;refine aN [] [] [0,3] [3] trivial ?_;obtain⟨K1,hK1,h⟩:=aO h;refine aaU (fun(x:Unit)=>match x with|()=>⟨81,[(0,aQ x1),(3,.ptr 3 0)],(yS x2 x3 x4 x5 x6 x7 x8),[],0⟩) (fun x=>K1 x=some r) ?_ ?_
 ·refine aaE ?_;obtain⟨r9,hr9,h⟩:=bind_ok h;refine bG [] [(1,⟨[.agg (f46z0 x2 x3 x4 x5 x6 x7 x8)],[],[],[],.i r9,[],[],[]⟩)] [0,3,5] [3] (an1 (cpT (wE _ _ _ _ _ _ _ _ hr9))) ?_;refine tN (bJ [] [] ⟨81,[(0,aQ x1),(3,.ptr 3 0),(5,.i r9),(11,.bool (decide (r9>=(0:Int))))],(yS x2 x3 x4 x5 x6 x7 x8),[],0⟩ trivial ?_);refine cK (decide (r9>=(0:Int))) (fun hc1=> ?_) fun hc1=> ?_
  ·replace h:=aF hc1 h;refine aN [] [] [0,3,5,6] [3] trivial ?_;obtain⟨K2,hK2,h⟩:=aO h;refine aaU (α:=Nat) (fun(n15:Nat)=>⟨81,[(0,aQ x1),(3,.ptr 3 0),(6,.i (n15:Int))],(yS x2 x3 x4 x5 x6 x7 x8),[],0⟩) (fun x=>K2 x=some r) ?_ ?_
   ·refine bJ [] [] ⟨81,[(0,aQ x1),(3,.ptr 3 0),(5,.i r9),(6,.i (0:Int)),(7,.i (0:Int))],(yS x2 x3 x4 x5 x6 x7 x8),[],0⟩ trivial ?_;refine aaJ (abI (α:=Nat×(Nat×Nat)) (fun x=>match x with|(_,n10,n11)=>⟨81,[(0,aQ x1),(3,.ptr 3 0),(5,.i r9),(6,.i (n10:Int)),(7,.i (n11:Int))],(yS x2 x3 x4 x5 x6 x7 x8),[],0⟩) (fun x=>nI x1 x5 x7 r9 K2 x.1 x.2=some r) (fun x=>x.1) (bB,0,0) LR h ?_)
    rintro⟨k0,n10,n11⟩ h
    cases k0 with
    |zero=>exact nEx h
    |succ k0=>
    obtain⟨C0,hC0⟩:∃C,C=nI x1 x5 x7 r9 K2 k0:=⟨_,rfl⟩;replace h:=(nI.eq_2 ..).symm.trans h
    try rw[<-hC0]at h
    refine aaE (aN [] [] [0,3,5,6,7,15] [3] trivial ?_);refine cK (decide ((n11:Int)<(lZ x1))) (fun hc2=> ?_) fun hc2=> ?_
    ·replace h:=aF hc2 h;refine aaF (tN ?_);obtain⟨K3,hK3,h⟩:=aO h;refine aaU (α:=Nat) (fun(n14:Nat)=>⟨81,[(0,aQ x1),(3,.ptr 3 0),(5,.i r9),(6,.i (n14:Int)),(7,.i (n11:Int))],(yS x2 x3 x4 x5 x6 x7 x8),[],0⟩) (fun x=>K3 x=some r) ?_ ?_
     ·refine aaJ (aaE (aaE ?_));obtain⟨r12,hr12,h⟩:=bind_ok h;obtain⟨ob0p,h⟩:=aB h;obtain⟨ob1,h⟩:=aB h;have ob9:true=true->(pQ r12)=true->(wK r12)=true:=fun _ h=>beq_iff_eq.2 h;obtain⟨ob10,h⟩:=aB h;refine bG [] [(4,⟨[.agg (qpt (x1.getD n11 aH))],[],[],[],.i r12,[],[],[]⟩)] [0,3,5,6,7,43] [3] (ac6 (iN ob0p) (cpT (wE _ _ _ _ _ _ _ _ hr12)) (aaM ob1 (an2 (idA ((wK r12)=true)) (idA ((wK r12)=true)))) (an1 (idA ((wK r12)=true))) (an1 (idA ((wK r12)=true))) (an1 (idA ((wK r12)=true))) (ac6 (an2 (idA ((wK r12)=true)) (idA ((wK r12)=true))) ob9 (aaM ob10 (an2 (idA ((((pQ r12)&&((x1.getD n11 aH).2.2.2.1==x5))==true)=true)) (idA ((((pQ r12)&&((x1.getD n11 aH).2.2.2.1==x5))==true)=true)))) (an1 (idA ((((pQ r12)&&((x1.getD n11 aH).2.2.2.1==x5))==true)=true))) (an1 (idA ((((pQ r12)&&((x1.getD n11 aH).2.2.2.1==x5))==true)=true))) (an1 (idA ((((pQ r12)&&((x1.getD n11 aH).2.2.2.1==x5))==true)=true))) (an2 (an2 (idA ((((pQ r12)&&((x1.getD n11 aH).2.2.2.1==x5))==true)=true)) (idA ((((pQ r12)&&((x1.getD n11 aH).2.2.2.1==x5))==true)=true))) (bqA ((pQ r12)&&((x1.getD n11 aH).2.2.2.1==x5)) true)))) ?_;refine tN (cK (((pQ r12)&&((x1.getD n11 aH).2.2.2.1==x5))&&(!(((x1.getD n11 aH).2.2.2.2.2.1)==x7))) (fun hc3=> ?_) fun hc3=> ?_)
      ·replace h:=aF hc3 h;refine bJ [] [] ⟨81,[(4,.i (1:Int))],[],[],0⟩ trivial ?_;obtain rfl:=aaD h;refine aaG (tR (kR (aS (tR (kR (aS (aS ?_)))))));exact bK
      ·replace h:=aG hc3 h;refine aaF (tN (aaE ?_));obtain⟨r13,hr13,h⟩:=bind_ok h;obtain⟨ob19p,h⟩:=aB h;refine bG [] [(4,⟨[.agg (qpt (x1.getD n11 aH))],[],[],[],.i r13,[],[],[]⟩)] [0,3,5,6,7,50] [3] (an2 (iN ob19p) (cpT (wE _ _ _ _ _ _ _ _ hr13))) ?_;refine tN (cK (r13==r9) (fun hc4=> ?_) fun hc4=> ?_)
       ·replace h:=aF hc4 h;obtain⟨ob20p,h⟩:=aB h;refine bH [] [] ⟨81,[(0,aQ x1),(3,.ptr 3 0),(5,.i r9),(6,.i (((n10+1):Nat):Int)),(7,.i (n11:Int))],(yS x2 x3 x4 x5 x6 x7 x8),[],0⟩ (an1 (iP ob20p)) ?_;refine kN ?_;exact jN ((n10+1)) LR h
       ·replace h:=aG hc4 h;refine aaF (kN ?_);exact jN (n10) LR h
     ·rintro n14 h;replace h:=(congrFun hK3 _).symm.trans h;obtain⟨ob21p,h⟩:=aB h;refine bG [] [] [0,3,5,6,7] [3] (an1 (iP ob21p)) ?_;rw[hC0]at h;exact lN (_,n14,(n11+1)) LR h (aaK _)
    ·replace h:=aG hc2 h;refine abK (tE (tE (kS ?_)));exact jN (n10) LR h
   ·rintro n15 h;replace h:=(congrFun hK2 _).symm.trans h;refine aaE ?_;have ob25:true=true->(x3==(3:Int))=true->(f46z6 x3)=true:=fun _ h=>beq_iff_eq.2 h;refine bG [] [] [0,3,61] [3] (an3 (an1 (idA ((f46z6 x3)=true))) (an2 (idA ((f46z6 x3)=true)) (idA ((f46z6 x3)=true))) ob25) ?_;refine tN (cK ((x3==(3:Int))&&(x5 !=(n15:Int))) (fun hc5=> ?_) fun hc5=> ?_)
    ·replace h:=aF hc5 h;refine bJ [] [] ⟨81,[(4,.i (2:Int))],[],[],0⟩ trivial ?_;obtain rfl:=aaD h;refine aaG (aS ?_);exact bK
    ·replace h:=aG hc5 h;refine aaF ?_;exact jN () LR h
  ·replace h:=aG hc1 h;refine aaF ?_;exact jN () LR h
 ·rintro⟨⟩ h;replace h:=(congrFun hK1 _).symm.trans h;refine aaE (aaE ?_);obtain⟨r16,hr16,h⟩:=cF h;have ob31:true=true->((x3==(2:Int))&&(decide (x4>=(0:Int))))=true->(f46z4 x3 x4)=true:=fun _ h=>beq_iff_eq.2 h;refine bG [] [(16,⟨[aQ x1,.agg (f46z0 x2 x3 x4 x5 x6 x7 x8)],[],[],[],.bool r16,[],[],[]⟩)] [80] [] (ac6 (an1 (idA (((x3==(2:Int))==true)=true))) (an1 (idA (((x3==(2:Int))==true)=true))) (bqA (x3==(2:Int)) true) (an1 (idA ((f46z4 x3 x4)=true))) (an1 (idA ((f46z4 x3 x4)=true))) ob31 (an3 (aaM (cpC fun hc=>(f67_ok _ _ _ _ _ _ _ _ _ (hr16 hc))) (an2 (idA (((f46z1 x3 x4)==true)=true)) (idA (((f46z1 x3 x4)==true)=true)))) (an1 (idA (((f46z1 x3 x4)==true)=true))) (bqA (f46z1 x3 x4) true))) ?_;refine tN (cK ((f46z1 x3 x4)&&(!r16)) (fun hc6=> ?_) fun hc6=> ?_)
  ·replace h:=aF hc6 h;refine bJ [] [] ⟨81,[(4,.i (3:Int))],[],[],0⟩ trivial ?_;obtain rfl:=aaD h;refine aaG (tR ?_);exact bK
  ·replace h:=aG hc6 h;refine aaF (tN (aN [] [] [4] [] trivial ?_));obtain rfl:=aaD h;refine aaG ?_;exact bK
def nN (x1:List Y51) (K1:Unit->Option Tq6):Nat->Nat->Option Tq6
 |0,_=>none
 |k+1,n2=>
  if(decide ((n2:Int)<(((x1).length:Nat):Int)))then(
  (f46 (x1.take n2) ((x1.getD n2 (default:Y51)).1) ((x1.getD n2 (default:Y51)).2.1) ((x1.getD n2 (default:Y51)).2.2.1) ((x1.getD n2 (default:Y51)).2.2.2.1) ((x1.getD n2 (default:Y51)).2.2.2.2.1) ((x1.getD n2 (default:Y51)).2.2.2.2.2.1) ((x1.getD n2 (default:Y51)).2.2.2.2.2.2)).bind fun r3=>
  chk ((n2:Int)<=(((x1).length:Nat):Int))<|
  chk ((n2:Int)<(((x1).length:Nat):Int))<|
  if(decide (r3>(0:Int)))then(
  some ((n2:Int),r3,(0:Int))
  )else(
  chk (((n2:Int)+(1:Int))<=9223372036854775807)<|
  (nN x1 K1 k) (n2+1)
  )
  )else(
  K1 ()
  )
def f17 (x1:List Y51):Option Tq6:=
 jn (fun(_:Unit)=>
 some ((0:Int),(0:Int),(13:Int))
 ) fun(K1:Unit->Option Tq6)=>
 nN x1 K1 bB 0
theorem f17_ok (x1:List Y51) (r:Tq6) (h:f17 x1=some r):aE Tryz.prog 17 [] [] [] [vL 28 kT (default:Y51) x1] (.tup [.i r.1,.i r.2.1,.i r.2.2]) []:=by
 unfold f17 at h;refine aE.body 0 _ _ Tryz.func17 rfl Tryz.ntmps17 rfl rfl ?_;refine aN [] [] [0] [] trivial ?_;obtain⟨K1,hK1,h⟩:=aO h;refine aaU (fun(x:Unit)=>match x with|()=>⟨25,[],[],[],0⟩) (fun x=>K1 x=some r) ?_ ?_
 ·refine bJ [] [] ⟨25,[(0,aQ x1),(5,.i (0:Int))],[],[],0⟩ trivial ?_;refine aaJ (abI (α:=Nat×Nat) (fun x=>match x with|(_,n2)=>⟨25,[(0,aQ x1),(5,.i (n2:Int))],[],[],0⟩) (fun x=>nN x1 K1 x.1 x.2=some r) (fun x=>x.1) (bB,0) LR h ?_)
  rintro⟨k0,n2⟩ h
  cases k0 with
  |zero=>exact nEx h
  |succ k0=>
  obtain⟨C0,hC0⟩:∃C,C=nN x1 K1 k0:=⟨_,rfl⟩;replace h:=(nN.eq_2 ..).symm.trans h
  try rw[<-hC0]at h
  refine aaE (aN [] [] [0,5,10] [] trivial ?_);refine cK (decide ((n2:Int)<(lZ x1))) (fun hc1=> ?_) fun hc1=> ?_
  ·replace h:=aF hc1 h;refine aaF (tN (aaE (aaJ (aaE ?_))));obtain⟨r3,hr3,h⟩:=bind_ok h;obtain⟨ob0p,h⟩:=aB h;obtain⟨ob1p,h⟩:=aB h;refine bG [] [(7,⟨[aQ (x1.take n2),.agg (qpt (x1.getD n2 aH))],[],[],[],.i r3,[],[],[]⟩)] [0,5,6] [] (an3 (iL ob0p) (iN ob1p) (cpL (c:=true) [] [] [.arr 28 n2 (cE kT aH x1),.agg (qpt (x1.getD n2 aH))] (fun _=>(f46_ok _ _ _ _ _ _ _ _ _ hr3)) (fun _=>⟨(VLe.takeL (by first|omega|(simp only[aaH,aaS,abT,abG,aaZ]at *;omega)|(simp;done)|(simp_all;done)|(simp_all;omega)|rfl)),.refl _,trivial⟩) (.inl rfl))) ?_;refine tN (bJ [] [] ⟨25,[(0,aQ x1),(5,.i (n2:Int)),(6,.i r3),(22,.bool (decide (r3>(0:Int))))],[],[],0⟩ trivial ?_);refine cK (decide (r3>(0:Int))) (fun hc2=> ?_) fun hc2=> ?_
   ·replace h:=aF hc2 h;refine aN [] [] [2,3,4] [] trivial ?_;obtain rfl:=aaD h;refine aaG (kR (tR (tR (kR (aS ?_)))));exact bK
   ·replace h:=aG hc2 h;refine aaF (kN (tN ?_));obtain⟨ob2p,h⟩:=aB h;refine bH [] [] ⟨25,[(0,aQ x1),(5,.i (((n2+1):Nat):Int))],[],[],0⟩ (an1 (iP ob2p)) ?_;rw[hC0]at h;exact lN (_,(n2+1)) LR h (aaK _)
  ·replace h:=aG hc1 h;refine abK (tE (tE (kS ?_)));exact jN () LR h
 ·rintro⟨⟩ h;replace h:=(congrFun hK1 _).symm.trans h;refine aN [] [] [2,3,4] [] trivial ?_;obtain rfl:=aaD h;refine aaG ?_;exact bK
abbrev f47z0 (r15:Int×gN×gL×Ty5×iA×Ty5×Ty2×Ty3):aJ:=[(2000,.cells 115 [.own 2001,.own 2002,.own 2003,.own 2004,.own 2005,.own 2006,.own 2007]),(2001,bP (V.int .i64) 0 cY [] r15.2.1),(2002,bP (V.int .i64) 0 dD false r15.2.2.1),(2003,bP aI (default:Tq1) bU [] r15.2.2.2.1),(2004,bP (V.int .i64) 0 dC 0 r15.2.2.2.2.1),(2005,bP aI (default:Tq1) bU [] r15.2.2.2.2.2.1),(2006,bP bF (default:Tq0) dG false r15.2.2.2.2.2.2.1),(2007,bP bE (default:Tq1) dF false r15.2.2.2.2.2.2.2)]
def f47 (x1 x2 x3 x4 x5:Int) (x6 x7:aaA) (x8:List Tq5) (x9:List Tq3) (x10:List Ty0) (x11:List Tq1) (x12:List Ty0) (x13:List iB) (x14:List gZ):Option Ty8:=
 (f43 x1 x2 x3 x4 x5 x6 x7 x8 x9 x10 x11 x12 x13 x14).bind fun r15=>
 some ((r15.1==(3:Int)),r15.2.1,r15.2.2.1,r15.2.2.2.1,r15.2.2.2.2.1,r15.2.2.2.2.2.1,r15.2.2.2.2.2.2.1,r15.2.2.2.2.2.2.2)
theorem f47_ok (x1 x2 x3 x4 x5:Int) (x6 x7:aaA) (x8:List Tq5) (x9:List Tq3) (x10:List Ty0) (x11:List Tq1) (x12:List Ty0) (x13:List iB) (x14:List gZ) (r:Bool×gN×gL×Ty5×iA×Ty5×Ty2×Ty3) (h:f47 x1 x2 x3 x4 x5 x6 x7 x8 x9 x10 x11 x12 x13 x14=some r):aE Tryz.prog 47 [(1,pT),(2,bV),(3,bV)] [2000] [(2000,.cells 115 [.own 2001,.own 2002,.own 2003,.own 2004,.own 2005,.own 2006,.own 2007]),(2001,bP (V.int .i64) 0 cY [] x8),(2002,bP (V.int .i64) 0 dD false x9),(2003,bP aI (default:Tq1) bU [] x10),(2004,bP (V.int .i64) 0 dC 0 x11),(2005,bP aI (default:Tq1) bU [] x12),(2006,bP bF (default:Tq0) dG false x13),(2007,bP bE (default:Tq1) dF false x14)] [.ptr 2000 0,.agg [.i x1,.i x2,.i x3,.i x4,.i x5,.str x6,.str x7,.opq,.opq,.opq,.opq,.opq,.opq,.opq,.opq,.opq,.opq,.opq,.opq,.opq,.opq,.opq,.opq,.opq,.opq,.opq,.opq,.opq]] (.bool r.1) [(2000,.cells 115 [.own 2001,.own 2002,.own 2003,.own 2004,.own 2005,.own 2006,.own 2007]),(2001,bP (V.int .i64) 0 cY [] r.2.1),(2002,bP (V.int .i64) 0 dD false r.2.2.1),(2003,bP aI (default:Tq1) bU [] r.2.2.2.1),(2004,bP (V.int .i64) 0 dC 0 r.2.2.2.2.1),(2005,bP aI (default:Tq1) bU [] r.2.2.2.2.2.1),(2006,bP bF (default:Tq0) dG false r.2.2.2.2.2.2.1),(2007,bP bE (default:Tq1) dF false r.2.2.2.2.2.2.2)]:=by
 unfold f47 at h;refine aE.body 0 _ _ Tryz.func47 rfl Tryz.ntmps47 rfl rfl ?_;refine aN [] [] [0,3,1000001,1000002,1000003] [3,2000,2001,2002,2003,2004,2005,2006,2007] trivial ?_;refine aaE ?_;obtain⟨r15,hr15,h⟩:=bind_ok h;refine bH [] [(2,⟨[.ptr 2000 0,.agg (qpc x1 x2 x3 x4 x5 x6 x7)],[2000,2001,2002,2003,2004,2005,2006,2007],[2000],(f47z0 r15),.i r15.1,[2001,2002,2003,2004,2005,2006,2007],[],[1,2,3]⟩)] ⟨9,[(4,.bool (r15.1==(3:Int)))],(f47z0 r15),[2000],0⟩ (an1 (cpT (f43_ok _ _ _ _ _ _ _ _ _ _ _ _ _ _ _ hr15))) ?_;refine tN ?_;obtain rfl:=aaD h;refine aaG ?_;exact bK
def jD (x1:List Y51) (K1:Unit->Option Tq1):Nat->Ty11->Option Tq1
 |0,_=>none
 |k+1,(n3,l4,l5,l6,l7,l8,l9,l10)=>
  if(decide ((n3:Int)<(((x1).length:Nat):Int)))then(
  chk ((n3:Int)<(((x1).length:Nat):Int))<|
  (f47 ((x1.getD n3 (default:Y51)).1) ((x1.getD n3 (default:Y51)).2.1) ((x1.getD n3 (default:Y51)).2.2.1) ((x1.getD n3 (default:Y51)).2.2.2.1) ((x1.getD n3 (default:Y51)).2.2.2.2.1) ((x1.getD n3 (default:Y51)).2.2.2.2.2.1) ((x1.getD n3 (default:Y51)).2.2.2.2.2.2) l4 l5 l6 l7 l8 l9 l10).bind fun r11=>
  if r11.1 then(
  some ((n3:Int),(0:Int))
  )else(
  (f45 ((x1.getD n3 (default:Y51)).1) ((x1.getD n3 (default:Y51)).2.1) ((x1.getD n3 (default:Y51)).2.2.1) ((x1.getD n3 (default:Y51)).2.2.2.1) ((x1.getD n3 (default:Y51)).2.2.2.2.1) ((x1.getD n3 (default:Y51)).2.2.2.2.2.1) ((x1.getD n3 (default:Y51)).2.2.2.2.2.2) r11.2.1 r11.2.2.1 r11.2.2.2.1 r11.2.2.2.2.1 r11.2.2.2.2.2.1 r11.2.2.2.2.2.2.1 r11.2.2.2.2.2.2.2).bind fun r12=>
  chk (((n3:Int)+(1:Int))<=9223372036854775807)<|
  (jD x1 K1 k) ((n3+1),r12.1,r12.2.1,r12.2.2.1,r12.2.2.2.1,r12.2.2.2.2.1,r12.2.2.2.2.2.1,r12.2.2.2.2.2.2)
  )
  )else(
  K1 ()
  )
abbrev f41az0 (r12:gN×gL×Ty5×iA×Ty5×Ty2×Ty3):aJ:=[(6,.cells 115 [.own 6001,.own 6002,.own 6003,.own 6004,.own 6005,.own 6006,.own 6007]),(6001,bP (V.int .i64) 0 cY [] r12.1),(6002,bP (V.int .i64) 0 dD false r12.2.1),(6003,bP aI (default:Tq1) bU [] r12.2.2.1),(6004,bP (V.int .i64) 0 dC 0 r12.2.2.2.1),(6005,bP aI (default:Tq1) bU [] r12.2.2.2.2.1),(6006,bP bF (default:Tq0) dG false r12.2.2.2.2.2.1),(6007,bP bE (default:Tq1) dF false r12.2.2.2.2.2.2)]
abbrev f41az1 (r2:gN×gL×Ty5×iA×Ty5×Ty2×Ty3):aJ:=[(6,.cells 115 [.own 6001,.own 6002,.own 6003,.own 6004,.own 6005,.own 6006,.own 6007]),(6001,bP (V.int .i64) 0 cY [] r2.1),(6002,bP (V.int .i64) 0 dD false r2.2.1),(6003,bP aI (default:Tq1) bU [] r2.2.2.1),(6004,bP (V.int .i64) 0 dC 0 r2.2.2.2.1),(6005,bP aI (default:Tq1) bU [] r2.2.2.2.2.1),(6006,bP bF (default:Tq0) dG false r2.2.2.2.2.2.1),(6007,bP bE (default:Tq1) dF false r2.2.2.2.2.2.2)]
abbrev aAK :List V:=[.own 6001,.own 6002,.own 6003,.own 6004,.own 6005,.own 6006,.own 6007]
def f41a (x1:List Y51):Option Tq1:=
 (f44).bind fun r2=>
 jn (fun(_:Unit)=>
 some ((0:Int),(13:Int))
 ) fun(K1:Unit->Option Tq1)=>
 jD x1 K1 bB (0,r2.1,r2.2.1,r2.2.2.1,r2.2.2.2.1,r2.2.2.2.2.1,r2.2.2.2.2.2.1,r2.2.2.2.2.2.2)
theorem f41a_ok (x1:List Y51) (r:Tq1) (h:f41a x1=some r):aE Tryz.prog 41 [(1,pT),(2,bV),(3,bV)] [] [] [vL 28 kT (default:Y51) x1,.fn (.func 47) []] (.tup [.i r.1,.i r.2]) []:=by
 unfold f41a at h;refine aE.body 0 _ _ Tryz.func41 rfl Tryz.ntmps41 rfl rfl ?_;refine aN [] [] [0,1,1000001,1000002,1000003] [] trivial ?_;refine aaE ?_;obtain⟨r2,hr2,h⟩:=bind_ok h;refine bH [] [(0,⟨[],[],[],(qmp 6001 r2.1 r2.2.1 r2.2.2.1 r2.2.2.2.1 r2.2.2.2.2.1 r2.2.2.2.2.2.1 r2.2.2.2.2.2.2),.agg (aAK),[6001,6002,6003,6004,6005,6006,6007],[],[]⟩)] ⟨24,[(0,aQ x1),(1,.fn (.func 47) []),(6,.ptr 6 0),(1000001,pT),(1000002,bV),(1000003,bV)],(f41az1 r2),[],0⟩ (an2 (cpT (aE.ren (aT 3006 6007) (aD 3006 6007) rfl (aE.ren (aT 3005 6006) (aD 3005 6006) rfl (aE.ren (aT 3004 6005) (aD 3004 6005) rfl (aE.ren (aT 3003 6004) (aD 3003 6004) rfl (aE.ren (aT 3002 6003) (aD 3002 6003) rfl (aE.ren (aT 3001 6002) (aD 3001 6002) rfl (aE.ren (aT 3000 6001) (aD 3000 6001) rfl (aAI _ hr2))))))))) trivial) ?_;refine tN ?_;obtain⟨K1,hK1,h⟩:=aO h;refine aaU (fun(x:Unit)=>match x with|()=>⟨24,[(1000001,pT),(1000002,bV),(1000003,bV)],[],[],0⟩) (fun x=>K1 x=some r) ?_ ?_
 ·refine aN [] [] [1,6,10,11,12,1000001,1000002,1000003] [6,6001,6002,6003,6004,6005,6006,6007] trivial ?_;refine aaJ (abI (α:=Nat×Ty11) (fun x=>match x with|(_,n3,l4,l5,l6,l7,l8,l9,l10)=>⟨24,[(1,.fn (.func 47) []),(6,.ptr 6 0),(10,aQ x1),(11,.i (lZ x1)),(12,.i (n3:Int)),(1000001,pT),(1000002,bV),(1000003,bV)],((6,.cells 115 (aAK))::qmp 6001 l4 l5 l6 l7 l8 l9 l10),[],0⟩) (fun x=>jD x1 K1 x.1 x.2=some r) (fun x=>x.1) (bB,0,r2.1,r2.2.1,r2.2.2.1,r2.2.2.2.1,r2.2.2.2.2.1,r2.2.2.2.2.2.1,r2.2.2.2.2.2.2) LR h ?_)
  rintro⟨k0,n3,l4,l5,l6,l7,l8,l9,l10⟩ h
  cases k0 with
  |zero=>exact nEx h
  |succ k0=>
  obtain⟨C0,hC0⟩:∃C,C=jD x1 K1 k0:=⟨_,rfl⟩;replace h:=(jD.eq_2 ..).symm.trans h
  try rw[<-hC0]at h
  refine bJ [] [] ⟨24,[(1,.fn (.func 47) []),(6,.ptr 6 0),(10,aQ x1),(11,.i (lZ x1)),(12,.i (n3:Int)),(13,.bool (decide ((n3:Int)<(lZ x1)))),(1000001,pT),(1000002,bV),(1000003,bV)],((6,.cells 115 (aAK))::qmp 6001 l4 l5 l6 l7 l8 l9 l10),[],0⟩ trivial ?_;refine aaE (cK (decide ((n3:Int)<(lZ x1))) (fun hc1=> ?_) fun hc1=> ?_)
  ·replace h:=aF hc1 h;refine aaF (tN (aaE (aaJ (aaE ?_))));obtain⟨ob0p,h⟩:=aB h;refine bG [] [] [1,6,7,8,10,11,12,1000001,1000002,1000003] [6,8,6001,6002,6003,6004,6005,6006,6007] (an2 (iN ob0p) trivial) ?_;refine tN (aaE (aaE ?_));obtain⟨r11,hr11,h⟩:=bind_ok h;refine bG [] [(2,⟨[.ptr 6 0,.agg (qpt (x1.getD n3 aH))],[6,6001,6002,6003,6004,6005,6006,6007],[6],((6,.cells 115 (aAK))::qmp 6001 r11.2.1 r11.2.2.1 r11.2.2.2.1 r11.2.2.2.2.1 r11.2.2.2.2.2.1 r11.2.2.2.2.2.2.1 r11.2.2.2.2.2.2.2),.bool r11.1,[6001,6002,6003,6004,6005,6006,6007],[],[1,2,3]⟩)] [1,6,7,8,10,11,12,19,1000001,1000002,1000003] [6,8,6001,6002,6003,6004,6005,6006,6007] (an1 (cpT (aE.ren (aT 2007 6007) (aD 2007 6007) rfl (aE.ren (aT 2006 6006) (aD 2006 6006) rfl (aE.ren (aT 2005 6005) (aD 2005 6005) rfl (aE.ren (aT 2004 6004) (aD 2004 6004) rfl (aE.ren (aT 2003 6003) (aD 2003 6003) rfl (aE.ren (aT 2002 6002) (aD 2002 6002) rfl (aE.ren (aT 2001 6001) (aD 2001 6001) rfl (aE.ren (aT 2000 6) (aD 2000 6) rfl (f47_ok _ _ _ _ _ _ _ _ _ _ _ _ _ _ _ hr11))))))))))) ?_;refine tN (cK r11.1 (fun hc2=> ?_) fun hc2=> ?_)
   ·replace h:=aF hc2 h;refine bJ [] [] ⟨24,[(4,.i (n3:Int)),(5,.i (0:Int))],[],[],0⟩ trivial ?_;obtain rfl:=aaD h;refine aaG (tR (kR (tR (tR (kR (aS ?_))))));exact bK
   ·replace h:=aG hc2 h;refine aaF (tN ?_);obtain⟨r12,hr12,h⟩:=bind_ok h;refine bG [] [(1,⟨[.ptr 6 0,.agg (qpt (x1.getD n3 aH))],[6,6001,6002,6003,6004,6005,6006,6007],[6],(f41az0 r12),.tup [],[6001,6002,6003,6004,6005,6006,6007],[],[]⟩)] [1,6,10,11,12,1000001,1000002,1000003] [6,6001,6002,6003,6004,6005,6006,6007] (an1 (cpT (aE.ren (aT 2007 6007) (aD 2007 6007) rfl (aE.ren (aT 2006 6006) (aD 2006 6006) rfl (aE.ren (aT 2005 6005) (aD 2005 6005) rfl (aE.ren (aT 2004 6004) (aD 2004 6004) rfl (aE.ren (aT 2003 6003) (aD 2003 6003) rfl (aE.ren (aT 2002 6002) (aD 2002 6002) rfl (aE.ren (aT 2001 6001) (aD 2001 6001) rfl (aE.ren (aT 2000 6) (aD 2000 6) rfl (aAH _ _ _ _ _ _ _ _ _ _ _ _ _ _ _ hr12))))))))))) ?_;refine kN (tN ?_);obtain⟨ob1p,h⟩:=aB h;refine bH [] [] ⟨24,[(1,.fn (.func 47) []),(6,.ptr 6 0),(10,aQ x1),(11,.i (lZ x1)),(12,.i (((n3+1):Nat):Int)),(1000001,pT),(1000002,bV),(1000003,bV)],(f41az0 r12),[],0⟩ (an1 (iP ob1p)) ?_;rw[hC0]at h;exact lN (_,(n3+1),r12.1,r12.2.1,r12.2.2.1,r12.2.2.2.1,r12.2.2.2.2.1,r12.2.2.2.2.2.1,r12.2.2.2.2.2.2) LR h (aaK _)
  ·replace h:=aG hc1 h;refine abK (tE (tE (kS ?_)));exact jN () LR h
 ·rintro⟨⟩ h;replace h:=(congrFun hK1 _).symm.trans h;refine aN [] [] [4,5] [] trivial ?_;obtain rfl:=aaD h;refine aaG ?_;exact bK
def f18 (x1:List Ty1) (x2:List (aaA×BitVec 16)) (x3:BitVec 16) (x4:List Ty9) (x5:List Int) (x6:List (aaA×Bool×(List Tq7))) (x7:List Y51):Option Tq1:=
 (f41a x7).bind fun r8=>
 some (r8.1,r8.2)
theorem f18_ok (x1:List Ty1) (x2:List (aaA×BitVec 16)) (x3:BitVec 16) (x4:List Ty9) (x5:List Int) (x6:List (aaA×Bool×(List Tq7))) (x7:List Y51) (r:Tq1) (h:f18 x1 x2 x3 x4 x5 x6 x7=some r):aE Tryz.prog 18 [(1,pT),(2,bV),(3,bV)] [] [] [.agg [vL 1 eS [] x1,vL 2 eSW (default:aaA×BitVec 16) x2,.b16 x3,vL 6 eT73 (default:aaA×Int×BitVec 16×aaB×aaB×(List Tq7)) x4,vL 1 eI 0 x5,vL 3 fZ (default:aaA×Bool×(List Tq7)) x6],vL 28 kT (default:Y51) x7] (.tup [.i r.1,.i r.2]) []:=by
 unfold f18 at h;refine aE.body 0 _ _ Tryz.func18 rfl Tryz.ntmps18 rfl rfl ?_;refine aN [] [] [1,1000001,1000002,1000003] [] trivial ?_;refine aaE ?_;obtain⟨r8,hr8,h⟩:=bind_ok h;refine bH [] [(1,⟨[aQ x7,.fn (.func 47) []],[],[],[],.tup [.i r8.1,.i r8.2],[],[],[1,2,3]⟩)] ⟨10,[(4,.i r8.1),(5,.i r8.2)],[],[],0⟩ (an1 (cpT (f41a_ok _ _ hr8))) ?_;refine tN ?_;obtain rfl:=aaD h;refine aaG ?_;exact bK
def nM (x1:List Y51) (K1:Unit->Option Tq1):Nat->Nat->Option Tq1
 |0,_=>none
 |k+1,n2=>
  if(decide ((n2:Int)<(((x1).length:Nat):Int)))then(
  (f46 (x1.take n2) ((x1.getD n2 (default:Y51)).1) ((x1.getD n2 (default:Y51)).2.1) ((x1.getD n2 (default:Y51)).2.2.1) ((x1.getD n2 (default:Y51)).2.2.2.1) ((x1.getD n2 (default:Y51)).2.2.2.2.1) ((x1.getD n2 (default:Y51)).2.2.2.2.2.1) ((x1.getD n2 (default:Y51)).2.2.2.2.2.2)).bind fun r3=>
  chk ((n2:Int)<=(((x1).length:Nat):Int))<|
  chk ((n2:Int)<(((x1).length:Nat):Int))<|
  if(r3==(3:Int))then(
  some ((n2:Int),(0:Int))
  )else(
  chk (((n2:Int)+(1:Int))<=9223372036854775807)<|
  (nM x1 K1 k) (n2+1)
  )
  )else(
  K1 ()
  )
def f19 (x1:List Y51):Option Tq1:=
 jn (fun(_:Unit)=>
 some ((0:Int),(13:Int))
 ) fun(K1:Unit->Option Tq1)=>
 nM x1 K1 bB 0
theorem f19_ok (x1:List Y51) (r:Tq1) (h:f19 x1=some r):aE Tryz.prog 19 [] [] [] [vL 28 kT (default:Y51) x1] (.tup [.i r.1,.i r.2]) []:=by
 unfold f19 at h;refine aE.body 0 _ _ Tryz.func19 rfl Tryz.ntmps19 rfl rfl ?_;refine aN [] [] [0] [] trivial ?_;obtain⟨K1,hK1,h⟩:=aO h;refine aaU (fun(x:Unit)=>match x with|()=>⟨21,[],[],[],0⟩) (fun x=>K1 x=some r) ?_ ?_
 ·refine bJ [] [] ⟨21,[(0,aQ x1),(4,.i (0:Int))],[],[],0⟩ trivial ?_;refine aaJ (abI (α:=Nat×Nat) (fun x=>match x with|(_,n2)=>⟨21,[(0,aQ x1),(4,.i (n2:Int))],[],[],0⟩) (fun x=>nM x1 K1 x.1 x.2=some r) (fun x=>x.1) (bB,0) LR h ?_)
  rintro⟨k0,n2⟩ h
  cases k0 with
  |zero=>exact nEx h
  |succ k0=>
  obtain⟨C0,hC0⟩:∃C,C=nM x1 K1 k0:=⟨_,rfl⟩;replace h:=(nM.eq_2 ..).symm.trans h
  try rw[<-hC0]at h
  refine aaE (aN [] [] [0,4,8] [] trivial ?_);refine cK (decide ((n2:Int)<(lZ x1))) (fun hc1=> ?_) fun hc1=> ?_
  ·replace h:=aF hc1 h;refine aaF (tN (aaE (aaJ (aaE ?_))));obtain⟨r3,hr3,h⟩:=bind_ok h;obtain⟨ob0p,h⟩:=aB h;obtain⟨ob1p,h⟩:=aB h;refine bH [] [(7,⟨[aQ (x1.take n2),.agg (qpt (x1.getD n2 aH))],[],[],[],.i r3,[],[],[]⟩)] ⟨21,[(0,aQ x1),(4,.i (n2:Int)),(19,.bool (r3==(3:Int)))],[],[],0⟩ (an3 (iL ob0p) (iN ob1p) (cpL (c:=true) [] [] [.arr 28 n2 (cE kT aH x1),.agg (qpt (x1.getD n2 aH))] (fun _=>(f46_ok _ _ _ _ _ _ _ _ _ hr3)) (fun _=>⟨(VLe.takeL (by first|omega|(simp only[aaH,aaS,abT,abG,aaZ]at *;omega)|(simp;done)|(simp_all;done)|(simp_all;omega)|rfl)),.refl _,trivial⟩) (.inl rfl))) ?_;refine tN (cK (r3==(3:Int)) (fun hc2=> ?_) fun hc2=> ?_)
   ·replace h:=aF hc2 h;refine aN [] [] [2,3] [] trivial ?_;obtain rfl:=aaD h;refine aaG (kR (tR (tR (kR (aS ?_)))));exact bK
   ·replace h:=aG hc2 h;refine aaF (kN (tN ?_));obtain⟨ob2p,h⟩:=aB h;refine bH [] [] ⟨21,[(0,aQ x1),(4,.i (((n2+1):Nat):Int))],[],[],0⟩ (an1 (iP ob2p)) ?_;rw[hC0]at h;exact lN (_,(n2+1)) LR h (aaK _)
  ·replace h:=aG hc1 h;refine abK (tE (tE (kS ?_)));exact jN () LR h
 ·rintro⟨⟩ h;replace h:=(congrFun hK1 _).symm.trans h;refine aN [] [] [2,3] [] trivial ?_;obtain rfl:=aaD h;refine aaG ?_;exact bK
end Go.Abs
