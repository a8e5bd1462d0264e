/- Part 24 of the proof: X54R. -/
import Derived.Test.YtfkhgbcggabkjaaGreatDoorMonrepZ23
namespace Go.Abs
open Go Go.Proofs
set_option maxRecDepth 100000
set_option maxHeartbeats 4000000
theorem f11_ok (r:Bool) (h:f11=some r):aG Tryz.prog 11 [(1,pT),(2,bT),(3,bT)] [] [] [] (.bool r) []:=by
 unfold f11 at h;refine aG.body 0 _ _ Tryz.func11 rfl Tryz.ntmps11 rfl rfl ?_;refine aN [] [] [1000001,1000002,1000003] [] trivial ?_;refine aN [] [] [1,1000001,1000002,1000003] [1] (an1 trivial) ?_;refine bC [] [] ⟨107,[(1,.ptr 1 0),(2,.own 21),(1000001,pT),(1000002,bT),(1000003,bT)],[(1,.cells 37 [.nils,.nils,.b16 (aL 0),.nils,.nils,.nils]),(21,.rows 51 28 2 (dE 28 [.i (0:Int),.i (4:Int),.i (0:Int),.i (0:Int),.i (0:Int),.str (bU),.str [],.i (0:Int),.i (0:Int),.i (0:Int),.i (0:Int),.i (0:Int),.str [],.i (0:Int),.i (0:Int),.i (0:Int),.i (0:Int),.i (0:Int),.str [],.str [],.nils,.nils,.i (0:Int),.str [],.nils,.nils,.nils,.nils,.i (0:Int),.i (3:Int),.i (0:Int),.i (0:Int),.i (0:Int),.str (cB),.str [],.i (0:Int),.i (0:Int),.i (0:Int),.i (0:Int),.i (0:Int),.str [],.i (0:Int),.i (0:Int),.i (0:Int),.i (0:Int),.i (0:Int),.str [],.str [],.nils,.nils,.i (0:Int),.str [],.nils,.nils,.nils,.nils]))],[],0⟩ trivial ?_;refine aaS (acO (s':=⟨107,[(1,.ptr 1 0),(2,.own 21),(1000001,pT),(1000002,bT),(1000003,bT)],[(1,.cells 37 [.nils,.nils,.b16 (aL 0),.nils,.nils,.nils]),(21,fO [(((0:Int),(4:Int),(0:Int),(0:Int),(0:Int),(bU),[]):Y51),(((0:Int),(3:Int),(0:Int),(0:Int),(0:Int),(cB),[]):Y51)])],[],0⟩) rfl rfl ⟨.refl _,.refl _,.refl _,.refl _,.refl _,trivial⟩ ⟨⟨_,rfl,.refl _⟩,⟨_,rfl,(acE (RL.lstV (enc:=sB) [(((0:Int),(4:Int),(0:Int),(0:Int),(0:Int),(bU),[]):Y51),(((0:Int),(3:Int),(0:Int),(0:Int),(0:Int),(cB),[]):Y51)] rfl ⟨.refl _,.refl _,.refl _,.refl _,.refl _,.refl _,.refl _,VLe.opq rfl,VLe.opq rfl,VLe.opq rfl,VLe.opq rfl,VLe.opq rfl,VLe.opq rfl,VLe.opq rfl,VLe.opq rfl,VLe.opq rfl,VLe.opq rfl,VLe.opq rfl,VLe.opq rfl,VLe.opq rfl,VLe.opq rfl,VLe.opq rfl,VLe.opq rfl,VLe.opq rfl,VLe.opq rfl,VLe.opq rfl,VLe.opq rfl,VLe.opq rfl,.refl _,.refl _,.refl _,.refl _,.refl _,.refl _,.refl _,VLe.opq rfl,VLe.opq rfl,VLe.opq rfl,VLe.opq rfl,VLe.opq rfl,VLe.opq rfl,VLe.opq rfl,VLe.opq rfl,VLe.opq rfl,VLe.opq rfl,VLe.opq rfl,VLe.opq rfl,VLe.opq rfl,VLe.opq rfl,VLe.opq rfl,VLe.opq rfl,VLe.opq rfl,VLe.opq rfl,VLe.opq rfl,VLe.opq rfl,VLe.opq rfl,trivial⟩ (fun _=>rfl)))⟩,trivial⟩) ?_;refine aaE ?_;obtain⟨r1,hr1,h⟩:=bind_ok h;refine aZ [] [(1,⟨[aO [(((0:Int),(4:Int),(0:Int),(0:Int),(0:Int),(bU),[]):Y51),(((0:Int),(3:Int),(0:Int),(0:Int),(0:Int),(cB),[]):Y51)]],[],[],[],.tup [.agg (f11z7 r1),.i r1.2.2.2],[],[21],[]⟩)] [1,2,3,4,1000001,1000002,1000003] [1,3,21] (an2 (cpL (c:=true) [(21,fO [(((0:Int),(4:Int),(0:Int),(0:Int),(0:Int),(bU),[]):Y51),(((0:Int),(3:Int),(0:Int),(0:Int),(0:Int),(cB),[]):Y51)])] [21] [.own 21] (fun _=>(f22_ok _ _ hr1)) (fun _=>⟨.refl _,trivial⟩) (.inr ⟨rfl,trivial⟩)) trivial) ?_;refine tN (aaE ?_);obtain⟨r2,hr2,h⟩:=bind_ok h;refine aZ [] [(2,⟨[.agg [cQ [],dI [],.b16 (aL 0),vL 6 dL (default:aaA×Int×BitVec 16×aaB×aaB×(yY)) [],fB [],vL 3 aX (default:aaA×Bool×(yY)) []],aO [(((0:Int),(4:Int),(0:Int),(0:Int),(0:Int),(bU),[]):Y51),(((0:Int),(3:Int),(0:Int),(0:Int),(0:Int),(cB),[]):Y51)]],[],[],[],.tup [.i r2.1,.i r2.2.1,.i r2.2.2],[],[21],[1,2,3]⟩)] [1,2,3,4,5,6,7,1000001,1000002,1000003] [1,3,21] (an1 (cpL (c:=true) [(21,fO [(((0:Int),(4:Int),(0:Int),(0:Int),(0:Int),(bU),[]):Y51),(((0:Int),(3:Int),(0:Int),(0:Int),(0:Int),(cB),[]):Y51)])] [21] [.agg [.nils,.nils,.b16 (aL 0),.nils,.nils,.nils],.own 21] (fun _=>(yU _ _ _ _ _ _ _ _ hr2)) (fun _=>⟨(.aggs ⟨.nilL,.nilL,.refl _,.nilL,.nilL,.nilL,trivial⟩),.refl _,trivial⟩) (.inr ⟨rfl,trivial⟩))) ?_;refine tN (aaE ?_);obtain⟨ob0p,h⟩:=aB h;have ob0:0<=(0:Int)/\(0:Int)<((([(((0:Int),(4:Int),(0:Int),(0:Int),(0:Int),([118]:aaA),[]):Y51),(((0:Int),(3:Int),(0:Int),(0:Int),(0:Int),([119]:aaA),[]):Y51)]).length:Nat):Int):=⟨by omega,ob0p⟩;obtain⟨ob1,h⟩:=aB h;refine bB [] [] ⟨107,[(1,.ptr 1 0),(3,.ptr 3 0),(4,.i r1.2.2.2),(5,.i r2.1),(6,.i r2.2.1),(7,.i r2.2.2),(8,.own 38),(1000001,pT),(1000002,bT),(1000003,bT)],[(1,.cells 37 [.nils,.nils,.b16 (aL 0),.nils,.nils,.nils]),(3,.cells 60 (f11z7 r1)),(38,.rows 51 28 2 (dE 28 [.i (([(((0:Int),(4:Int),(0:Int),(0:Int),(0:Int),(bU),[]):Y51),(((0:Int),(3:Int),(0:Int),(0:Int),(0:Int),(cB),[]):Y51)]).getD 0 aH).1,.i (([(((0:Int),(4:Int),(0:Int),(0:Int),(0:Int),(bU),[]):Y51),(((0:Int),(3:Int),(0:Int),(0:Int),(0:Int),(cB),[]):Y51)]).getD 0 aH).2.1,.i (([(((0:Int),(4:Int),(0:Int),(0:Int),(0:Int),(bU),[]):Y51),(((0:Int),(3:Int),(0:Int),(0:Int),(0:Int),(cB),[]):Y51)]).getD 0 aH).2.2.1,.i (([(((0:Int),(4:Int),(0:Int),(0:Int),(0:Int),(bU),[]):Y51),(((0:Int),(3:Int),(0:Int),(0:Int),(0:Int),(cB),[]):Y51)]).getD 0 aH).2.2.2.1,.i (([(((0:Int),(4:Int),(0:Int),(0:Int),(0:Int),(bU),[]):Y51),(((0:Int),(3:Int),(0:Int),(0:Int),(0:Int),(cB),[]):Y51)]).getD 0 aH).2.2.2.2.1,.str (([(((0:Int),(4:Int),(0:Int),(0:Int),(0:Int),(bU),[]):Y51),(((0:Int),(3:Int),(0:Int),(0:Int),(0:Int),(cB),[]):Y51)]).getD 0 aH).2.2.2.2.2.1,.str (([(((0:Int),(4:Int),(0:Int),(0:Int),(0:Int),(bU),[]):Y51),(((0:Int),(3:Int),(0:Int),(0:Int),(0:Int),(cB),[]):Y51)]).getD 0 aH).2.2.2.2.2.2,.opq,.opq,.opq,.opq,.opq,.opq,.opq,.opq,.opq,.opq,.opq,.opq,.opq,.opq,.opq,.opq,.opq,.opq,.opq,.opq,.opq,.i (0:Int),.i (3:Int),.i (0:Int),.i (0:Int),.i (0:Int),.str (bU),.str [],.i (0:Int),.i (0:Int),.i (0:Int),.i (0:Int),.i (0:Int),.str [],.i (0:Int),.i (0:Int),.i (0:Int),.i (0:Int),.i (0:Int),.str [],.str [],.nils,.nils,.i (0:Int),.str [],.nils,.nils,.nils,.nils]))],[],0⟩ (an2 ob0 ob1) ?_;refine tN (aaS (acO (s':=⟨107,[(1,.ptr 1 0),(3,.ptr 3 0),(4,.i r1.2.2.2),(5,.i r2.1),(6,.i r2.2.1),(7,.i r2.2.2),(8,.own 38),(1000001,pT),(1000002,bT),(1000003,bT)],[(1,.cells 37 [.nils,.nils,.b16 (aL 0),.nils,.nils,.nils]),(3,.cells 60 (f11z7 r1)),(38,fO [(((([(((0:Int),(4:Int),(0:Int),(0:Int),(0:Int),(bU),[]):Y51),(((0:Int),(3:Int),(0:Int),(0:Int),(0:Int),(cB),[]):Y51)]).getD 0 aH).1,(([(((0:Int),(4:Int),(0:Int),(0:Int),(0:Int),(bU),[]):Y51),(((0:Int),(3:Int),(0:Int),(0:Int),(0:Int),(cB),[]):Y51)]).getD 0 aH).2.1,(([(((0:Int),(4:Int),(0:Int),(0:Int),(0:Int),(bU),[]):Y51),(((0:Int),(3:Int),(0:Int),(0:Int),(0:Int),(cB),[]):Y51)]).getD 0 aH).2.2.1,(([(((0:Int),(4:Int),(0:Int),(0:Int),(0:Int),(bU),[]):Y51),(((0:Int),(3:Int),(0:Int),(0:Int),(0:Int),(cB),[]):Y51)]).getD 0 aH).2.2.2.1,(([(((0:Int),(4:Int),(0:Int),(0:Int),(0:Int),(bU),[]):Y51),(((0:Int),(3:Int),(0:Int),(0:Int),(0:Int),(cB),[]):Y51)]).getD 0 aH).2.2.2.2.1,(([(((0:Int),(4:Int),(0:Int),(0:Int),(0:Int),(bU),[]):Y51),(((0:Int),(3:Int),(0:Int),(0:Int),(0:Int),(cB),[]):Y51)]).getD 0 aH).2.2.2.2.2.1,(([(((0:Int),(4:Int),(0:Int),(0:Int),(0:Int),(bU),[]):Y51),(((0:Int),(3:Int),(0:Int),(0:Int),(0:Int),(cB),[]):Y51)]).getD 0 aH).2.2.2.2.2.2):Y51),(((0:Int),(3:Int),(0:Int),(0:Int),(0:Int),(bU),[]):Y51)])],[],0⟩) rfl rfl ⟨.refl _,.refl _,.refl _,.refl _,.refl _,.refl _,.refl _,.refl _,.refl _,.refl _,trivial⟩ ⟨⟨_,rfl,.refl _⟩,⟨_,rfl,.refl _⟩,⟨_,rfl,(acE (RL.lstV (enc:=sB) [(((([(((0:Int),(4:Int),(0:Int),(0:Int),(0:Int),(bU),[]):Y51),(((0:Int),(3:Int),(0:Int),(0:Int),(0:Int),(cB),[]):Y51)]).getD 0 aH).1,(([(((0:Int),(4:Int),(0:Int),(0:Int),(0:Int),(bU),[]):Y51),(((0:Int),(3:Int),(0:Int),(0:Int),(0:Int),(cB),[]):Y51)]).getD 0 aH).2.1,(([(((0:Int),(4:Int),(0:Int),(0:Int),(0:Int),(bU),[]):Y51),(((0:Int),(3:Int),(0:Int),(0:Int),(0:Int),(cB),[]):Y51)]).getD 0 aH).2.2.1,(([(((0:Int),(4:Int),(0:Int),(0:Int),(0:Int),(bU),[]):Y51),(((0:Int),(3:Int),(0:Int),(0:Int),(0:Int),(cB),[]):Y51)]).getD 0 aH).2.2.2.1,(([(((0:Int),(4:Int),(0:Int),(0:Int),(0:Int),(bU),[]):Y51),(((0:Int),(3:Int),(0:Int),(0:Int),(0:Int),(cB),[]):Y51)]).getD 0 aH).2.2.2.2.1,(([(((0:Int),(4:Int),(0:Int),(0:Int),(0:Int),(bU),[]):Y51),(((0:Int),(3:Int),(0:Int),(0:Int),(0:Int),(cB),[]):Y51)]).getD 0 aH).2.2.2.2.2.1,(([(((0:Int),(4:Int),(0:Int),(0:Int),(0:Int),(bU),[]):Y51),(((0:Int),(3:Int),(0:Int),(0:Int),(0:Int),(cB),[]):Y51)]).getD 0 aH).2.2.2.2.2.2):Y51),(((0:Int),(3:Int),(0:Int),(0:Int),(0:Int),(bU),[]):Y51)] rfl ⟨.refl _,.refl _,.refl _,.refl _,.refl _,.refl _,.refl _,.refl _,.refl _,.refl _,.refl _,.refl _,.refl _,.refl _,.refl _,.refl _,.refl _,.refl _,.refl _,.refl _,.refl _,.refl _,.refl _,.refl _,.refl _,.refl _,.refl _,.refl _,.refl _,.refl _,.refl _,.refl _,.refl _,.refl _,.refl _,VLe.opq rfl,VLe.opq rfl,VLe.opq rfl,VLe.opq rfl,VLe.opq rfl,VLe.opq rfl,VLe.opq rfl,VLe.opq rfl,VLe.opq rfl,VLe.opq rfl,VLe.opq rfl,VLe.opq rfl,VLe.opq rfl,VLe.opq rfl,VLe.opq rfl,VLe.opq rfl,VLe.opq rfl,VLe.opq rfl,VLe.opq rfl,VLe.opq rfl,VLe.opq rfl,trivial⟩ (fun _=>rfl)))⟩,trivial⟩) ?_);refine aaE ?_;obtain⟨r3,hr3,h⟩:=bind_ok h;refine aZ [] [(2,⟨[.agg [cQ [],dI [],.b16 (aL 0),vL 6 dL (default:aaA×Int×BitVec 16×aaB×aaB×(yY)) [],fB [],vL 3 aX (default:aaA×Bool×(yY)) []],aO [(((([(((0:Int),(4:Int),(0:Int),(0:Int),(0:Int),(bU),[]):Y51),(((0:Int),(3:Int),(0:Int),(0:Int),(0:Int),(cB),[]):Y51)]).getD 0 aH).1,(([(((0:Int),(4:Int),(0:Int),(0:Int),(0:Int),(bU),[]):Y51),(((0:Int),(3:Int),(0:Int),(0:Int),(0:Int),(cB),[]):Y51)]).getD 0 aH).2.1,(([(((0:Int),(4:Int),(0:Int),(0:Int),(0:Int),(bU),[]):Y51),(((0:Int),(3:Int),(0:Int),(0:Int),(0:Int),(cB),[]):Y51)]).getD 0 aH).2.2.1,(([(((0:Int),(4:Int),(0:Int),(0:Int),(0:Int),(bU),[]):Y51),(((0:Int),(3:Int),(0:Int),(0:Int),(0:Int),(cB),[]):Y51)]).getD 0 aH).2.2.2.1,(([(((0:Int),(4:Int),(0:Int),(0:Int),(0:Int),(bU),[]):Y51),(((0:Int),(3:Int),(0:Int),(0:Int),(0:Int),(cB),[]):Y51)]).getD 0 aH).2.2.2.2.1,(([(((0:Int),(4:Int),(0:Int),(0:Int),(0:Int),(bU),[]):Y51),(((0:Int),(3:Int),(0:Int),(0:Int),(0:Int),(cB),[]):Y51)]).getD 0 aH).2.2.2.2.2.1,(([(((0:Int),(4:Int),(0:Int),(0:Int),(0:Int),(bU),[]):Y51),(((0:Int),(3:Int),(0:Int),(0:Int),(0:Int),(cB),[]):Y51)]).getD 0 aH).2.2.2.2.2.2):Y51),(((0:Int),(3:Int),(0:Int),(0:Int),(0:Int),(bU),[]):Y51)]],[],[],[],.tup [.i r3.1,.i r3.2.1,.i r3.2.2],[],[38],[1,2,3]⟩)] [1,3,4,5,6,7,8,11,1000001,1000002,1000003] [1,3,38] (an1 (cpL (c:=true) [(38,fO [(((([(((0:Int),(4:Int),(0:Int),(0:Int),(0:Int),(bU),[]):Y51),(((0:Int),(3:Int),(0:Int),(0:Int),(0:Int),(cB),[]):Y51)]).getD 0 aH).1,(([(((0:Int),(4:Int),(0:Int),(0:Int),(0:Int),(bU),[]):Y51),(((0:Int),(3:Int),(0:Int),(0:Int),(0:Int),(cB),[]):Y51)]).getD 0 aH).2.1,(([(((0:Int),(4:Int),(0:Int),(0:Int),(0:Int),(bU),[]):Y51),(((0:Int),(3:Int),(0:Int),(0:Int),(0:Int),(cB),[]):Y51)]).getD 0 aH).2.2.1,(([(((0:Int),(4:Int),(0:Int),(0:Int),(0:Int),(bU),[]):Y51),(((0:Int),(3:Int),(0:Int),(0:Int),(0:Int),(cB),[]):Y51)]).getD 0 aH).2.2.2.1,(([(((0:Int),(4:Int),(0:Int),(0:Int),(0:Int),(bU),[]):Y51),(((0:Int),(3:Int),(0:Int),(0:Int),(0:Int),(cB),[]):Y51)]).getD 0 aH).2.2.2.2.1,(([(((0:Int),(4:Int),(0:Int),(0:Int),(0:Int),(bU),[]):Y51),(((0:Int),(3:Int),(0:Int),(0:Int),(0:Int),(cB),[]):Y51)]).getD 0 aH).2.2.2.2.2.1,(([(((0:Int),(4:Int),(0:Int),(0:Int),(0:Int),(bU),[]):Y51),(((0:Int),(3:Int),(0:Int),(0:Int),(0:Int),(cB),[]):Y51)]).getD 0 aH).2.2.2.2.2.2):Y51),(((0:Int),(3:Int),(0:Int),(0:Int),(0:Int),(bU),[]):Y51)])] [38] [.agg [.nils,.nils,.b16 (aL 0),.nils,.nils,.nils],.own 38] (fun _=>(yU _ _ _ _ _ _ _ _ hr3)) (fun _=>⟨(.aggs ⟨.nilL,.nilL,.refl _,.nilL,.nilL,.nilL,trivial⟩),.refl _,trivial⟩) (.inr ⟨rfl,trivial⟩))) ?_;refine tN (aaE ?_);obtain⟨r4,hr4,h⟩:=bind_ok h;refine aZ [] [(3,⟨[.agg [cQ [],dI [],.b16 (aL 0),vL 6 dL (default:aaA×Int×BitVec 16×aaB×aaB×(yY)) [],fB [],vL 3 aX (default:aaA×Bool×(yY)) []],aO [(((0:Int),(2:Int),(0:Int),(0:Int),(1:Int),[],([111,107,32,49]:aaA)):Y51)]],[],[],[],.tup [.i r4.1,.i r4.2.1,.i r4.2.2],[],[49],[1,2,3]⟩)] [1,3,4,5,6,7,8,11,13,14,1000001,1000002,1000003] [1,3,38] (an1 (cpL (c:=true) [(49,.rows 51 28 1 (dE 28 [.i (0:Int),.i (2:Int),.i (0:Int),.i (0:Int),.i (1:Int),.str [],.str ([111,107,32,49]:aaA),.i (0:Int),.i (0:Int),.i (0:Int),.i (0:Int),.i (0:Int),.str [],.i (0:Int),.i (0:Int),.i (0:Int),.i (0:Int),.i (0:Int),.str [],.str [],.nils,.nils,.i (0:Int),.str [],.nils,.nils,.nils,.nils]))] [49] [.agg [.nils,.nils,.b16 (aL 0),.nils,.nils,.nils],.own 49] (fun _=>(yU _ _ _ _ _ _ _ _ hr4)) (fun _=>⟨(.aggs ⟨.nilL,.nilL,.refl _,.nilL,.nilL,.nilL,trivial⟩),(VLe.of (RL.lstV (enc:=sB) [(((0:Int),(2:Int),(0:Int),(0:Int),(1:Int),[],([111,107,32,49]:aaA)):Y51)] rfl ⟨.refl _,.refl _,.refl _,.refl _,.refl _,.refl _,.refl _,VLe.opq rfl,VLe.opq rfl,VLe.opq rfl,VLe.opq rfl,VLe.opq rfl,VLe.opq rfl,VLe.opq rfl,VLe.opq rfl,VLe.opq rfl,VLe.opq rfl,VLe.opq rfl,VLe.opq rfl,VLe.opq rfl,VLe.opq rfl,VLe.opq rfl,VLe.opq rfl,VLe.opq rfl,VLe.opq rfl,VLe.opq rfl,VLe.opq rfl,VLe.opq rfl,trivial⟩ (fun _=>rfl))),trivial⟩) (.inr ⟨rfl,trivial⟩))) ?_;refine tN (aaE ?_);obtain⟨r5,hr5,h⟩:=bind_ok h;refine bB [] [(3,⟨[.agg [cQ [],dI [],.b16 (aL 0),vL 6 dL (default:aaA×Int×BitVec 16×aaB×aaB×(yY)) [],fB [],vL 3 aX (default:aaA×Bool×(yY)) []],aO [(((0:Int),(3:Int),(0:Int),(1:Int),(0:Int),(bU),[]):Y51)]],[],[],[],.tup [.i r5.1,.i r5.2.1,.i r5.2.2],[],[57],[1,2,3]⟩)] ⟨107,[(3,.ptr 3 0),(4,.i r1.2.2.2),(5,.i r2.1),(6,.i r2.2.1),(7,.i r2.2.2),(8,.own 38),(11,.i r3.2.2),(13,.i r4.2.1),(14,.i r4.2.2),(16,.i r5.2.1),(17,.i r5.2.2),(1000001,pT),(1000002,bT),(1000003,bT)],[(3,.cells 60 (f11z7 r1)),(38,fO [(((([(((0:Int),(4:Int),(0:Int),(0:Int),(0:Int),(bU),[]):Y51),(((0:Int),(3:Int),(0:Int),(0:Int),(0:Int),(cB),[]):Y51)]).getD 0 aH).1,(([(((0:Int),(4:Int),(0:Int),(0:Int),(0:Int),(bU),[]):Y51),(((0:Int),(3:Int),(0:Int),(0:Int),(0:Int),(cB),[]):Y51)]).getD 0 aH).2.1,(([(((0:Int),(4:Int),(0:Int),(0:Int),(0:Int),(bU),[]):Y51),(((0:Int),(3:Int),(0:Int),(0:Int),(0:Int),(cB),[]):Y51)]).getD 0 aH).2.2.1,(([(((0:Int),(4:Int),(0:Int),(0:Int),(0:Int),(bU),[]):Y51),(((0:Int),(3:Int),(0:Int),(0:Int),(0:Int),(cB),[]):Y51)]).getD 0 aH).2.2.2.1,(([(((0:Int),(4:Int),(0:Int),(0:Int),(0:Int),(bU),[]):Y51),(((0:Int),(3:Int),(0:Int),(0:Int),(0:Int),(cB),[]):Y51)]).getD 0 aH).2.2.2.2.1,(([(((0:Int),(4:Int),(0:Int),(0:Int),(0:Int),(bU),[]):Y51),(((0:Int),(3:Int),(0:Int),(0:Int),(0:Int),(cB),[]):Y51)]).getD 0 aH).2.2.2.2.2.1,(([(((0:Int),(4:Int),(0:Int),(0:Int),(0:Int),(bU),[]):Y51),(((0:Int),(3:Int),(0:Int),(0:Int),(0:Int),(cB),[]):Y51)]).getD 0 aH).2.2.2.2.2.2):Y51),(((0:Int),(3:Int),(0:Int),(0:Int),(0:Int),(bU),[]):Y51)])],[],0⟩ (an1 (cpL (c:=true) [(57,.rows 51 28 1 (dE 28 [.i (0:Int),.i (3:Int),.i (0:Int),.i (1:Int),.i (0:Int),.str (bU),.str [],.i (0:Int),.i (0:Int),.i (0:Int),.i (0:Int),.i (0:Int),.str [],.i (0:Int),.i (0:Int),.i (0:Int),.i (0:Int),.i (0:Int),.str [],.str [],.nils,.nils,.i (0:Int),.str [],.nils,.nils,.nils,.nils]))] [57] [.agg [.nils,.nils,.b16 (aL 0),.nils,.nils,.nils],.own 57] (fun _=>(yU _ _ _ _ _ _ _ _ hr5)) (fun _=>⟨(.aggs ⟨.nilL,.nilL,.refl _,.nilL,.nilL,.nilL,trivial⟩),(VLe.of (RL.lstV (enc:=sB) [(((0:Int),(3:Int),(0:Int),(1:Int),(0:Int),(bU),[]):Y51)] rfl ⟨.refl _,.refl _,.refl _,.refl _,.refl _,.refl _,.refl _,VLe.opq rfl,VLe.opq rfl,VLe.opq rfl,VLe.opq rfl,VLe.opq rfl,VLe.opq rfl,VLe.opq rfl,VLe.opq rfl,VLe.opq rfl,VLe.opq rfl,VLe.opq rfl,VLe.opq rfl,VLe.opq rfl,VLe.opq rfl,VLe.opq rfl,VLe.opq rfl,VLe.opq rfl,VLe.opq rfl,VLe.opq rfl,VLe.opq rfl,VLe.opq rfl,trivial⟩ (fun _=>rfl))),trivial⟩) (.inr ⟨rfl,trivial⟩))) ?_;refine tN (aaE ?_);by_cases hg9_39:((((((((((r1.2.2.2==(0:Int))&&((r1.1==(0:Int))&&((r1.2.1==(0:Int))&&((r1.2.2.1==(12:Int))&&true))))&&(r2.2.2==(0:Int)))&&(r2.1==(1:Int)))&&(r2.2.1==(1:Int)))&&(r3.2.2==(13:Int)))&&(r4.2.2==(0:Int)))&&(r4.2.1==(3:Int)))&&(r5.2.2==(0:Int)))&&(r5.2.1==(2:Int)))=true
 ·replace h:=xC hg9_39 h;obtain⟨r6,hr6,h⟩:=bind_ok h;obtain⟨r7,hr7,h⟩:=bind_ok h;have ob2:=idA ((aCP r1)=true);have ob3:=idA ((aCP r1)=true);have ob4:true=true->(r1.2.2.2==(0:Int))=true->(aCP r1)=true:=fun _ h=>beq_iff_eq.2 h;have ob5:=idA (((aAK r1)==true)=true);have ob6:=bqA (aAK r1) true;have ob7:=idA ((aBN r1 r2)=true);have ob8:true=true->((aAK r1)&&(r2.2.2==(0:Int)))=true->(aBN r1 r2)=true:=fun _ h=>beq_iff_eq.2 h;have ob9:=idA (((aCQ r1 r2)==true)=true);have ob10:=bqA (aCQ r1 r2) true;have ob11:=idA (((aAJ r1 r2)==true)=true);have ob12:=bqA (aAJ r1 r2) true;have ob13:=idA ((aBM r1 r2 r3)=true);have ob14:true=true->((aAJ r1 r2)&&(r3.2.2==(13:Int)))=true->(aBM r1 r2 r3)=true:=fun _ h=>beq_iff_eq.2 h;have ob15:=idA (((f11z1 r1 r2 r3 r4)==true)=true);have ob16:=bqA (f11z1 r1 r2 r3 r4) true;have ob17:=idA (((sM r1 r2 r3 r4)==true)=true);have ob18:=bqA (sM r1 r2 r3 r4) true;have ob19:=idA ((((sM r1 r2 r3 r4)&&(r5.2.2==(0:Int)))==true)=true);have ob20:=bqA ((sM r1 r2 r3 r4)&&(r5.2.2==(0:Int))) true;have ob21:=idA (true=true);have ob22:true=true->true=true->true=true:=fun _ h=>h;refine aZ [] [(39,⟨[],[],[],[],(.bool true),[],[0],[]⟩),(41,⟨[aO [(((([(((0:Int),(4:Int),(0:Int),(0:Int),(0:Int),(bU),[]):Y51),(((0:Int),(3:Int),(0:Int),(0:Int),(0:Int),(cB),[]):Y51)]).getD 0 aH).1,(([(((0:Int),(4:Int),(0:Int),(0:Int),(0:Int),(bU),[]):Y51),(((0:Int),(3:Int),(0:Int),(0:Int),(0:Int),(cB),[]):Y51)]).getD 0 aH).2.1,(([(((0:Int),(4:Int),(0:Int),(0:Int),(0:Int),(bU),[]):Y51),(((0:Int),(3:Int),(0:Int),(0:Int),(0:Int),(cB),[]):Y51)]).getD 0 aH).2.2.1,(([(((0:Int),(4:Int),(0:Int),(0:Int),(0:Int),(bU),[]):Y51),(((0:Int),(3:Int),(0:Int),(0:Int),(0:Int),(cB),[]):Y51)]).getD 0 aH).2.2.2.1,(([(((0:Int),(4:Int),(0:Int),(0:Int),(0:Int),(bU),[]):Y51),(((0:Int),(3:Int),(0:Int),(0:Int),(0:Int),(cB),[]):Y51)]).getD 0 aH).2.2.2.2.1,(([(((0:Int),(4:Int),(0:Int),(0:Int),(0:Int),(bU),[]):Y51),(((0:Int),(3:Int),(0:Int),(0:Int),(0:Int),(cB),[]):Y51)]).getD 0 aH).2.2.2.2.2.1,(([(((0:Int),(4:Int),(0:Int),(0:Int),(0:Int),(bU),[]):Y51),(((0:Int),(3:Int),(0:Int),(0:Int),(0:Int),(cB),[]):Y51)]).getD 0 aH).2.2.2.2.2.2):Y51),(((0:Int),(3:Int),(0:Int),(0:Int),(0:Int),(bU),[]):Y51)]],[],[],[(6001,aU r6)],.own 6001,[6001],[38],[]⟩),(43,⟨[cQ r6,cQ [(bU)]],[],[],[],.bool r7,[],[6001,104],[]⟩)] [0] [] (ac6 (an2 ob2 ob3) ob4 (an1 ob5) ob6 (an1 ob7) ob8 (ac6 (an1 ob9) ob10 (an1 ob11) ob12 (an1 ob13) ob14 (ac6 (an1 ob15) ob16 (an1 ob17) ob18 (an1 ob19) ob20 (an4 (show((.bool (((sM r1 r2 r3 r4)&&(r5.2.2==(0:Int)))&&(r5.2.1==(2:Int)))):V)=(.bool true)from(congrArg (fun x=>((.bool x):V)) hg9_39)) (aaK (cpL (c:=true) [(38,fO [(((([(((0:Int),(4:Int),(0:Int),(0:Int),(0:Int),(bU),[]):Y51),(((0:Int),(3:Int),(0:Int),(0:Int),(0:Int),(cB),[]):Y51)]).getD 0 aH).1,(([(((0:Int),(4:Int),(0:Int),(0:Int),(0:Int),(bU),[]):Y51),(((0:Int),(3:Int),(0:Int),(0:Int),(0:Int),(cB),[]):Y51)]).getD 0 aH).2.1,(([(((0:Int),(4:Int),(0:Int),(0:Int),(0:Int),(bU),[]):Y51),(((0:Int),(3:Int),(0:Int),(0:Int),(0:Int),(cB),[]):Y51)]).getD 0 aH).2.2.1,(([(((0:Int),(4:Int),(0:Int),(0:Int),(0:Int),(bU),[]):Y51),(((0:Int),(3:Int),(0:Int),(0:Int),(0:Int),(cB),[]):Y51)]).getD 0 aH).2.2.2.1,(([(((0:Int),(4:Int),(0:Int),(0:Int),(0:Int),(bU),[]):Y51),(((0:Int),(3:Int),(0:Int),(0:Int),(0:Int),(cB),[]):Y51)]).getD 0 aH).2.2.2.2.1,(([(((0:Int),(4:Int),(0:Int),(0:Int),(0:Int),(bU),[]):Y51),(((0:Int),(3:Int),(0:Int),(0:Int),(0:Int),(cB),[]):Y51)]).getD 0 aH).2.2.2.2.2.1,(([(((0:Int),(4:Int),(0:Int),(0:Int),(0:Int),(bU),[]):Y51),(((0:Int),(3:Int),(0:Int),(0:Int),(0:Int),(cB),[]):Y51)]).getD 0 aH).2.2.2.2.2.2):Y51),(((0:Int),(3:Int),(0:Int),(0:Int),(0:Int),(bU),[]):Y51)])] [38] [.own 38] (fun _=>(aG.ren (aV 3000 6001) (aD 3000 6001) rfl (f14_ok _ _ hr6))) (fun _=>⟨.refl _,trivial⟩) (.inr ⟨rfl,⟨(fun _ _ _ _=>eS_flat _ _),trivial⟩⟩)) (an1 ob21)) (cpL (c:=true) [(6001,aU r6),(104,.rows 9 1 1 (dE 1 [.str (bU)]))] [6001,104] [.own 6001,.own 104] (fun _=>(f15_ok _ _ _ hr7)) (fun _=>⟨.refl _,(VLe.of (acM (enc:=eS) [(bU)] rfl rfl (fun _=>rfl))),trivial⟩) (.inr ⟨rfl,trivial⟩)) ob22)))) ?_;refine tN ?_;obtain rfl:=aaD h;refine aaH ?_;exact bK
 ·replace h:=xD hg9_39 h;have ob2:=idA ((aCP r1)=true);have ob3:=idA ((aCP r1)=true);have ob4:true=true->(r1.2.2.2==(0:Int))=true->(aCP r1)=true:=fun _ h=>beq_iff_eq.2 h;have ob5:=idA (((aAK r1)==true)=true);have ob6:=bqA (aAK r1) true;have ob7:=idA ((aBN r1 r2)=true);have ob8:true=true->((aAK r1)&&(r2.2.2==(0:Int)))=true->(aBN r1 r2)=true:=fun _ h=>beq_iff_eq.2 h;have ob9:=idA (((aCQ r1 r2)==true)=true);have ob10:=bqA (aCQ r1 r2) true;have ob11:=idA (((aAJ r1 r2)==true)=true);have ob12:=bqA (aAJ r1 r2) true;have ob13:=idA ((aBM r1 r2 r3)=true);have ob14:true=true->((aAJ r1 r2)&&(r3.2.2==(13:Int)))=true->(aBM r1 r2 r3)=true:=fun _ h=>beq_iff_eq.2 h;have ob15:=idA (((f11z1 r1 r2 r3 r4)==true)=true);have ob16:=bqA (f11z1 r1 r2 r3 r4) true;have ob17:=idA (((sM r1 r2 r3 r4)==true)=true);have ob18:=bqA (sM r1 r2 r3 r4) true;have ob19:=idA ((((sM r1 r2 r3 r4)&&(r5.2.2==(0:Int)))==true)=true);have ob20:=bqA ((sM r1 r2 r3 r4)&&(r5.2.2==(0:Int))) true;have ob21:=idA (false=true);have ob22:=idA (false=true);have ob24:true=true->false=true->false=true:=fun _ h=>h;refine bB [] [(39,⟨[],[],[],[],(.bool false),[],[0],[]⟩),(41,⟨[],[],[],[],.any,[],[],[]⟩),(43,⟨[],[],[],[],.bool false,[],[],[]⟩)] ⟨107,[(0,.bool false)],[],[],0⟩ (ac6 (an2 ob2 ob3) ob4 (an1 ob5) ob6 (an1 ob7) ob8 (ac6 (an1 ob9) ob10 (an1 ob11) ob12 (an1 ob13) ob14 (ac6 (an1 ob15) ob16 (an1 ob17) ob18 (an1 ob19) ob20 (an4 (show((.bool (((sM r1 r2 r3 r4)&&(r5.2.2==(0:Int)))&&(r5.2.1==(2:Int)))):V)=(.bool false)from(congrArg (fun x=>((.bool x):V)) (aeL.2 hg9_39))) (aaK (show(rX Tryz.prog false 14 [] [] [] [] [] [.own 38] [] (.any) [])from⟨nofun,nofun,.inl rfl⟩) (an1 ob21)) (aaK (show(rX Tryz.prog false 15 [] [] [] [] [] [.any,.bool false] [] (.bool false) [])from⟨nofun,nofun,.inl rfl⟩) (an2 ob22 (idA (false=true)))) ob24)))) ?_;refine tN ?_;obtain rfl:=aaD h;refine aaH ?_;exact bK
def jR (x1:List Y51) (K1:Int->Option Bool):Nat->(Int×Nat)->Option Bool
 |0,_=>none
 |k+1,(i2,n3)=>
  if(decide ((n3:Int)<(((x1).length:Nat):Int)))then(
  chk ((n3:Int)<(((x1).length:Nat):Int))<|
  chk ((n3:Int)<(((x1).length:Nat):Int))<|
  chk (((n3:Int)+(1:Int))<=9223372036854775807)<|
  (jR x1 K1 k) ((IntKind.wrap .i64 ((IntKind.wrap .i64 (i2+((((x1.getD n3 (default:Y51)).2.2.2.2.2.1).length:Nat):Int)))+((((x1.getD n3 (default:Y51)).2.2.2.2.2.2).length:Nat):Int))),(n3+1))
  )else(
  K1 i2
  )
def f16 (x1:List Y51):Option Bool:=
 jn (fun(i4:Int)=>
 some ((decide ((((x1).length:Nat):Int)<=(60:Int)))&&(decide (i4<=(20000:Int))))
 ) fun(K1:Int->Option Bool)=>
 jR x1 K1 aY ((0:Int),0)
theorem f16_ok (x1:List Y51) (r:Bool) (h:f16 x1=some r):aG Tryz.prog 16 [] [] [] [vL 28 sB (default:Y51) x1] (.bool r) []:=by
 unfold f16 at h;refine aG.body 0 _ _ Tryz.func16 rfl Tryz.ntmps16 rfl rfl ?_;refine aN [18,25] [] [0] [] trivial ?_;refine bC [18,25] [] ⟨33,[(0,aO x1),(3,.i (0:Int))],[],[],0⟩ trivial ?_;obtain⟨K1,hK1,h⟩:=aI h;refine aaR (α:=Int) (fun(i4:Int)=>⟨33,[(0,aO x1),(3,.i i4)],[],[],0⟩) (fun x=>K1 x=some r) ?_ ?_
 ·refine aN [18,25] [] [0,3,4] [] trivial ?_;refine aaJ (abG (α:=Nat×(Int×Nat)) (fun x=>match x with|(_,i2,n3)=>⟨33,[(0,aO x1),(3,.i i2),(4,.i (n3:Int))],[],[],0⟩) (fun x=>jR x1 K1 x.1 x.2=some r) (fun x=>x.1) (aY,(0:Int),0) LR h ?_)
  rintro⟨k0,i2,n3⟩ h
  cases k0 with
  |zero=>exact nEx h
  |succ k0=>
  obtain⟨C0,hC0⟩:∃C,C=jR x1 K1 k0:=⟨_,rfl⟩;replace h:=(jR.eq_2 ..).symm.trans h
  try rw[<-hC0]at h
  refine aaE (aN [18,25] [] [0,3,4,8] [] trivial ?_);refine cK (decide ((n3:Int)<(lZ x1))) (fun hc1=> ?_) fun hc1=> ?_
  ·replace h:=aE hc1 h;refine aaG (tN (aaE (aaJ ?_)));obtain⟨ob0p,h⟩:=aB h;obtain⟨ob1p,h⟩:=aB h;refine bB [18,25] [] ⟨33,[(0,aO x1),(3,.i (IntKind.wrap .i64 ((IntKind.wrap .i64 (i2+((((x1.getD n3 aH).2.2.2.2.2.1).length:Nat):Int)))+((((x1.getD n3 aH).2.2.2.2.2.2).length:Nat):Int)))),(4,.i (n3:Int))],[],[],0⟩ (an4 (iN ob0p) trivial (iN ob1p) trivial) ?_;refine kN (tN ?_);obtain⟨ob2p,h⟩:=aB h;refine aZ [18,25] [] [0,3,4] [] (an1 (iP ob2p)) ?_;rw[hC0]at h;exact lN (_,(IntKind.wrap .i64 ((IntKind.wrap .i64 (i2+((((x1.getD n3 aH).2.2.2.2.2.1).length:Nat):Int)))+((((x1.getD n3 aH).2.2.2.2.2.2).length:Nat):Int))),(n3+1)) LR h (aaM _)
  ·replace h:=aF hc1 h;refine abJ (tE (tE (kS ?_)));exact jN (i2) LR h
 ·rintro i4 h;replace h:=(congrFun hK1 _).symm.trans h;refine aaE (aZ [18,25] [] [2] [] (an2 (an1 (idA (((decide ((lZ x1)<=(60:Int)))==true)=true))) (bqA (decide ((lZ x1)<=(60:Int))) true)) ?_);refine tN ?_;obtain rfl:=aaD h;refine aaH ?_;exact bK
def f131 (x1 x2:BitVec 16):Option Bool:=
 some ((x1&&& ~~~x2)==(BitVec.ofInt 16 0))
theorem aAG (x1 x2:BitVec 16) (r:Bool) (h:f131 x1 x2=some r):aG Tryz.prog 131 [] [] [] [.b16 x1,.b16 x2] (.bool r) []:=by
 unfold f131 at h;refine aG.body 0 _ _ Tryz.func131 rfl Tryz.ntmps131 rfl rfl ?_;refine aN [] [] [0,1] [] trivial ?_;refine bC [] [] ⟨9,[(4,.bool ((x1&&& ~~~x2)==(aL 0)))],[],[],0⟩ trivial ?_;obtain rfl:=aaD h;refine aaH ?_;exact bK
abbrev tQ (x2:Int):=((decide (x2>=(0:Int)))&&(decide (x2<(16:Int))))
def f200 (x1:BitVec 16) (x2:Int):Option Bool:=
 chk ((((decide (x2>=(0:Int)))&&(decide (x2<(16:Int))))==true)=true->0<=x2)<|
 some (((decide (x2>=(0:Int)))&&(decide (x2<(16:Int))))&&(((x1>>>((x2).toNat))&&&(BitVec.ofInt 16 1))==(BitVec.ofInt 16 1)))
theorem f200_ok (x1:BitVec 16) (x2:Int) (r:Bool) (h:f200 x1 x2=some r):aG Tryz.prog 200 [] [] [] [.b16 x1,.i x2] (.bool r) []:=by
 unfold f200 at h;refine aG.body 0 _ _ Tryz.func200 rfl Tryz.ntmps200 rfl rfl ?_;refine aN [] [] [0,1] [] trivial ?_;refine aaE ?_;obtain⟨ob2,h⟩:=aB h;refine bB [] [] ⟨18,[(4,.bool ((tQ x2)&&(((x1>>>((x2).toNat))&&&(aL 1))==(aL 1))))],[],[],0⟩ (an6 (an1 (idA (((decide (x2>=(0:Int)))==true)=true))) (bqA (decide (x2>=(0:Int))) true) (aaK ob2 (an2 (idA (((tQ x2)==true)=true)) (idA (((tQ x2)==true)=true)))) (an1 (idA (((tQ x2)==true)=true))) (an1 (idA (((tQ x2)==true)=true))) (bqA (tQ x2) true)) ?_;refine tN ?_;obtain rfl:=aaD h;refine aaH ?_;exact bK
def jT (x1:BitVec 16) (K1:(List Int)->Option (List Int)):Nat->(Nat×List Int)->Option (List Int)
 |0,_=>none
 |k+1,(n2,l3)=>
  if(decide ((n2:Int)<(16:Int)))then(
  jn (fun(l5:List Int)=>
  chk (((n2:Int)+(1:Int))<=9223372036854775807)<|
  (jT x1 K1 k) ((n2+1),l5)
  ) fun(K2:(List Int)->Option (List Int))=>
  (f200 x1 (n2:Int)).bind fun r4=>
  if r4 then(
  chk (((l3).length+1) *8<=140737488355328)<|
  K2 (l3++[(n2:Int)])
  )else(
  K2 l3
  )
  )else(
  K1 l3
  )
abbrev f166z0 (x1:BitVec 16) (n2:Nat):List (Nat×V):=[(0,.b16 x1),(3,.own 5003),(4,.i (n2:Int))]
abbrev f166z1 (x1:BitVec 16) (n2:Nat):List (Nat×V):=[(0,.b16 x1),(3,.own 15),(4,.i (n2:Int))]
def f166 (x1:BitVec 16):Option (List Int):=
 jn (fun(l6:List Int)=>
 some l6
 ) fun(K1:(List Int)->Option (List Int))=>
 jT x1 K1 aY (0,[])
theorem f166_ok (x1:BitVec 16) (r:List Int) (h:f166 x1=some r):aG Tryz.prog 166 [] [] [] [.b16 x1] (.own 3000) [(3000,bL 3 1 eI 0 r)]:=by
 unfold f166 at h;refine aG.body 0 _ _ Tryz.func166 rfl Tryz.ntmps166 rfl rfl ?_;refine aN [] [] [0] [] trivial ?_;refine bC [] [] ⟨17,[(0,.b16 x1),(3,.nils)],[],[],0⟩ trivial ?_;obtain⟨K1,hK1,h⟩:=aI h;refine aaR (α:=List Int) (fun(l6:List Int)=>⟨17,[(3,.own 5003)],[(5003,cG l6)],[],0⟩) (fun x=>K1 x=some r) ?_ ?_
 ·refine bC [] [] ⟨17,[(0,.b16 x1),(3,.nils),(4,.i (0:Int))],[],[],0⟩ trivial ?_;refine aaJ (abG (α:=Nat×(Nat×List Int)) (fun x=>match x with|(_,n2,l3)=>⟨17,(f166z0 x1 n2),[(5003,cG l3)],[],0⟩) (fun x=>jT x1 K1 x.1 x.2=some r) (fun x=>x.1) (aY,0,[]) (aaI (aaI (adE 3 5003 3 1 (bY eI 0 []) rfl rfl (aaW rfl)) (LR (s':=⟨17,[(0,.b16 x1),(3,.own 5003),(4,.i (0:Int))],[(5003,cG [])],[],0⟩))) LR) h ?_)
  rintro⟨k0,n2,l3⟩ h
  cases k0 with
  |zero=>exact nEx h
  |succ k0=>
  obtain⟨C0,hC0⟩:∃C,C=jT x1 K1 k0:=⟨_,rfl⟩;replace h:=(jT.eq_2 ..).symm.trans h
  try rw[<-hC0]at h
  refine aaE (aN [] [] [0,3,4,6] [5003] trivial ?_);refine cK (decide ((n2:Int)<(16:Int))) (fun hc1=> ?_) fun hc1=> ?_
  ·replace h:=aE hc1 h;refine aaG (tN ?_);obtain⟨K2,hK2,h⟩:=aI h;refine aaR (α:=List Int) (fun(l5:List Int)=>⟨17,(f166z1 x1 n2),[(15,cG l5)],[],0⟩) (fun x=>K2 x=some r) ?_ ?_
   ·refine aaJ (aaE ?_);obtain⟨r4,hr4,h⟩:=bind_ok h;refine bB [] [(2,⟨[.b16 x1,.i (n2:Int)],[],[],[],.bool r4,[],[],[]⟩)] ⟨17,[(0,.b16 x1),(3,.own 5003),(4,.i (n2:Int)),(11,.bool r4)],[(5003,cG l3)],[],0⟩ (an1 (cpT (f200_ok _ _ _ hr4))) ?_;refine tN (cK r4 (fun hc2=> ?_) fun hc2=> ?_)
    ·replace h:=aE hc2 h;obtain⟨ob0,h⟩:=aB h;refine bB [] [] ⟨17,(f166z0 x1 n2),[(5003,.rows 3 1 ((l3).length+1) (fH (l3).length (bY eI 0 l3) (dE 1 [.i (n2:Int)])))],[],0⟩ (an1 ob0) ?_;refine kN ?_;exact jN ((l3++[(n2:Int)])) (aaI (acO (s':=⟨17,(f166z0 x1 n2),[(5003,cG (l3++[(n2:Int)]))],[],0⟩) rfl rfl ⟨.refl _,.refl _,.refl _,trivial⟩ ⟨⟨_,rfl,(acE (adF (acH _) (acM (enc:=eI) [(n2:Int)] rfl rfl (fun _=>rfl))))⟩,trivial⟩) (aaI (aaI (abX (aV 5003 15) (aD 5003 15) rfl) (LR (s':=⟨17,(f166z1 x1 n2),[(15,cG (l3++[(n2:Int)]))],[],0⟩))) LR)) h
    ·replace h:=aF hc2 h;refine aaG (kN ?_);exact jN (l3) (aaI (aaI (abX (aV 5003 15) (aD 5003 15) rfl) (LR (s':=⟨17,[(0,.b16 x1),(3,.own 15),(4,.i (n2:Int)),(11,.bool r4)],[(15,cG l3)],[],0⟩))) LR) h
   ·rintro l5 h;replace h:=(congrFun hK2 _).symm.trans h;obtain⟨ob1p,h⟩:=aB h;refine bB [] [] ⟨17,[(0,.b16 x1),(3,.own 15),(4,.i (((n2+1):Nat):Int))],[(15,cG l5)],[],0⟩ (an1 (iP ob1p)) ?_;rw[hC0]at h;exact lN (_,(n2+1),l5) (aaI (aaI (abX (aV 15 5003) (aD 15 5003) rfl) (LR (s':=⟨17,[(0,.b16 x1),(3,.own 5003),(4,.i (((n2+1):Nat):Int))],[(5003,cG l5)],[],0⟩))) LR) h (aaM _)
  ·replace h:=aF hc1 h;refine abJ (tE (tE (kS ?_)));exact jN (l3) LR h
 ·rintro l6 h;replace h:=(congrFun hK1 _).symm.trans h;refine bC [] [] ⟨17,[(2,.own 5003)],[(5003,cG l6)],[],0⟩ trivial ?_;refine aaS (aaI (abX (aV 5003 3000) (aD 5003 3000) rfl) (LR (s':=⟨17,[(2,.own 3000)],[(3000,cG l6)],[],0⟩))) ?_;obtain rfl:=aaD h;refine aaS (LR (s':=⟨17,[(2,.own 3000)],[(3000,cG l6)],[],0⟩)) ?_;refine aaH ?_;exact bK
def f132 (x1:BitVec 16):Option Int:=
 (f166 x1).bind fun r2=>
 some (((r2).length:Nat):Int)
theorem rN (x1:BitVec 16) (r:Int) (h:f132 x1=some r):aG Tryz.prog 132 [] [] [] [.b16 x1] (.i r) []:=by
 unfold f132 at h;refine aG.body 0 _ _ Tryz.func132 rfl Tryz.ntmps132 rfl rfl ?_;refine aN [] [] [0] [] trivial ?_;refine aaE ?_;obtain⟨r2,hr2,h⟩:=bind_ok h;refine bB [] [(1,⟨[.b16 x1],[],[],[(6001,cG r2)],.own 6001,[6001],[],[]⟩)] ⟨6,[(2,.i (lZ r2))],[],[],0⟩ (an1 (cpT (aG.ren (aV 3000 6001) (aD 3000 6001) rfl (f166_ok _ _ hr2)))) ?_;refine tN ?_;obtain rfl:=aaD h;refine aaH ?_;exact bK
def lV (x1:BitVec 16) (x2:Int) (K1:Ty8->Option Ty8):Nat->aC5->Option Ty8
 |0,_=>none
 |k+1,(n3,l4)=>
  if(decide ((n3:Int)<(65536:Int)))then(
  jn (fun(l7:aaB)=>
  chk (((n3:Int)+(1:Int))<=9223372036854775807)<|
  (lV x1 x2 K1 k) ((n3+1),l7)
  ) fun(K2:Ty8->Option Ty8)=>
  (f131 (BitVec.ofInt 16 (n3:Int)) x1).bind fun r5=>
  eO (r5==true) (f132 (BitVec.ofInt 16 (n3:Int))) fun r6=>
  chk ((r5==true)=true->True)<|
  if(r5&&(r6==x2))then(
  chk (((l4).length+1) *2<=140737488355328)<|
  K2 (l4++[(BitVec.ofInt 16 (n3:Int))])
  )else(
  K2 l4
  )
  )else(
  K1 l4
  )
theorem nK (x1:BitVec 16) (x2:Int) (K1:Ty8->Option Ty8) (k n3:Nat) (l4:aaB):lV x1 x2 K1 (k+1) (n3,l4)=
  if(decide ((n3:Int)<(65536:Int)))then(
  jn (fun(l7:aaB)=>
  chk (((n3:Int)+(1:Int))<=9223372036854775807)<|
  (lV x1 x2 K1 k) ((n3+1),l7)
  ) fun(K2:Ty8->Option Ty8)=>
  (f131 (BitVec.ofInt 16 (n3:Int)) x1).bind fun(r5:Bool)=>
  eO (r5==true) (f132 (BitVec.ofInt 16 (n3:Int))) fun(r6:Int)=>
  chk ((r5==true)=true->True)<|
  if(r5&&(r6==x2))then(
  chk (((l4).length+1) *2<=140737488355328)<|
  K2 (l4++[(BitVec.ofInt 16 (n3:Int))])
  )else(
  K2 l4
  )
  )else(
  K1 l4
  ):=rfl
abbrev rR (n3:Nat):=(BitVec.ofInt 16 (n3:Int))
abbrev f102z1 (x1:BitVec 16) (x2:Int) (n3:Nat):List (Nat×V):=[(0,.b16 x1),(1,.i x2),(5,.own 5005),(6,.i (n3:Int))]
abbrev f102z2 (x1:BitVec 16) (x2:Int) (n3:Nat):List (Nat×V):=[(0,.b16 x1),(1,.i x2),(5,.own 26),(6,.i (n3:Int))]
def f102 (x1:BitVec 16) (x2:Int):Option Ty8:=
 jn (fun(l8:aaB)=>
 some l8
 ) fun(K1:Ty8->Option Ty8)=>
 lV x1 x2 K1 aY (0,[])
theorem f102_ok (x1:BitVec 16) (x2:Int) (r:aaB) (h:f102 x1 x2=some r):aG Tryz.prog 102 [] [] [] [.b16 x1,.i x2] (.own 3000) [(3000,bL 32 1 eW 0#16 r)]:=by
 unfold f102 at h;refine aG.body 0 _ _ Tryz.func102 rfl Tryz.ntmps102 rfl rfl ?_;refine aN [] [] [0,1] [] trivial ?_;refine bC [] [] ⟨28,[(0,.b16 x1),(1,.i x2),(5,.nils)],[],[],0⟩ trivial ?_;obtain⟨K1,hK1,h⟩:=aI h;refine aaR (α:=aaB) (fun(l8:aaB)=>⟨28,[(5,.own 5005)],[(5005,aT l8)],[],0⟩) (fun x=>K1 x=some r) ?_ ?_
 ·refine bC [] [] ⟨28,[(0,.b16 x1),(1,.i x2),(5,.nils),(6,.i (0:Int))],[],[],0⟩ trivial ?_;refine aaJ (abG (α:=Nat×aC5) (fun x=>match x with|(_,n3,l4)=>⟨28,(f102z1 x1 x2 n3),[(5005,aT l4)],[],0⟩) (fun x=>lV x1 x2 K1 x.1 x.2=some r) (fun x=>x.1) (aY,0,[]) (aaI (aaI (adE 5 5005 32 1 (bY eW 0#16 []) rfl rfl (aaW rfl)) (LR (s':=⟨28,[(0,.b16 x1),(1,.i x2),(5,.own 5005),(6,.i (0:Int))],[(5005,aT [])],[],0⟩))) LR) h ?_)
  rintro⟨k0,n3,l4⟩ h
  cases k0 with
  |zero=>exact nEx h
  |succ k0=>
  obtain⟨C0,hC0⟩:∃C,C=lV x1 x2 K1 k0:=⟨_,rfl⟩;replace h:=(nK ..).symm.trans h
  try rw[<-hC0]at h
  refine aaE (aN [] [] [0,1,5,6,8] [5005] trivial ?_);refine cK (decide ((n3:Int)<(65536:Int))) (fun hc1=> ?_) fun hc1=> ?_
  ·replace h:=aE hc1 h;refine aaG (tN ?_);obtain⟨K2,hK2,h⟩:=aI h;refine aaR (α:=aaB) (fun(l7:aaB)=>⟨28,(f102z2 x1 x2 n3),[(26,aT l7)],[],0⟩) (fun x=>K2 x=some r) ?_ ?_
   ·refine aaJ (aaE ?_);obtain⟨r5,hr5,h⟩:=bind_ok h;obtain⟨r6,hr6,h⟩:=bI h;obtain⟨ob0,h⟩:=aB h;refine bB [] [(3,⟨[.b16 (rR n3),.b16 x1],[],[],[],.bool r5,[],[],[]⟩),(7,⟨[.b16 (rR n3)],[],[],[],.i r6,[],[],[]⟩)] ⟨28,[(0,.b16 x1),(1,.i x2),(5,.own 5005),(6,.i (n3:Int)),(21,.bool (r5&&(r6==x2)))],[(5005,aT l4)],[],0⟩ (an6 trivial (cpT (aAG _ _ _ hr5)) (aaK ob0 (an1 (idA ((r5==true)=true)))) (aaK (cpC fun hc=>(rN _ _ (hr6 hc))) (an1 (idA ((r5==true)=true)))) (an2 (idA ((r5==true)=true)) (idA ((r5==true)=true))) (bqA r5 true)) ?_;refine tN (cK (r5&&(r6==x2)) (fun hc2=> ?_) fun hc2=> ?_)
    ·replace h:=aE hc2 h;obtain⟨ob6,h⟩:=aB h;refine bB [] [] ⟨28,(f102z1 x1 x2 n3),[(5005,.rows 32 1 ((l4).length+1) (fH (l4).length (bY eW 0#16 l4) (dE 1 [.b16 (rR n3)])))],[],0⟩ (an2 trivial ob6) ?_;refine kN ?_;exact jN ((l4++[(rR n3)])) (aaI (acO (s':=⟨28,(f102z1 x1 x2 n3),[(5005,aT (l4++[(rR n3)]))],[],0⟩) rfl rfl ⟨.refl _,.refl _,.refl _,.refl _,trivial⟩ ⟨⟨_,rfl,(acE (adF (acH _) (acM (enc:=eW) [(rR n3)] rfl rfl (fun _=>rfl))))⟩,trivial⟩) (aaI (aaI (abX (aV 5005 26) (aD 5005 26) rfl) (LR (s':=⟨28,(f102z2 x1 x2 n3),[(26,aT (l4++[(rR n3)]))],[],0⟩))) LR)) h
    ·replace h:=aF hc2 h;refine aaG (kN ?_);exact jN (l4) (aaI (aaI (abX (aV 5005 26) (aD 5005 26) rfl) (LR (s':=⟨28,[(0,.b16 x1),(1,.i x2),(5,.own 26),(6,.i (n3:Int)),(21,.bool (r5&&(r6==x2)))],[(26,aT l4)],[],0⟩))) LR) h
   ·rintro l7 h;replace h:=(congrFun hK2 _).symm.trans h;obtain⟨ob7p,h⟩:=aB h;refine bB [] [] ⟨28,[(0,.b16 x1),(1,.i x2),(5,.own 26),(6,.i (((n3+1):Nat):Int))],[(26,aT l7)],[],0⟩ (an1 (iP ob7p)) ?_;rw[hC0]at h;exact lN (_,(n3+1),l7) (aaI (aaI (abX (aV 26 5005) (aD 26 5005) rfl) (LR (s':=⟨28,[(0,.b16 x1),(1,.i x2),(5,.own 5005),(6,.i (((n3+1):Nat):Int))],[(5005,aT l7)],[],0⟩))) LR) h (aaM _)
  ·replace h:=aF hc1 h;refine abJ (tE (tE (kS ?_)));exact jN (l4) LR h
 ·rintro l8 h;replace h:=(congrFun hK1 _).symm.trans h;refine bC [] [] ⟨28,[(4,.own 5005)],[(5005,aT l8)],[],0⟩ trivial ?_;refine aaS (aaI (abX (aV 5005 3000) (aD 5005 3000) rfl) (LR (s':=⟨28,[(4,.own 3000)],[(3000,aT l8)],[],0⟩))) ?_;obtain rfl:=aaD h;refine aaS (LR (s':=⟨28,[(4,.own 3000)],[(3000,aT l8)],[],0⟩)) ?_;refine aaH ?_;exact bK
def jP (x1:BitVec 16) (K1:Nat->Option Int):Nat->(Nat×Nat)->Option Int
 |0,_=>none
 |k+1,(n2,n3)=>
  if(decide ((n3:Int)<(16:Int)))then(
  chk (((n2:Int)+((((x1>>>n3)&&&(BitVec.ofInt 16 1)).toNat:Nat):Int))<=9223372036854775807)<|
  chk (((n3:Int)+(1:Int))<=9223372036854775807)<|
  (jP x1 K1 k) ((n2+((x1>>>n3)&&&(BitVec.ofInt 16 1)).toNat),(n3+1))
  )else(
  K1 n2
  )
def f201 (x1:BitVec 16):Option Int:=
 jn (fun(n4:Nat)=>
 some (n4:Int)
 ) fun(K1:Nat->Option Int)=>
 jP x1 K1 aY (0,0)
theorem vE (x1:BitVec 16) (r:Int) (h:f201 x1=some r):aG Tryz.prog 201 [] [] [] [.b16 x1] (.i r) []:=by
 unfold f201 at h;refine aG.body 0 _ _ Tryz.func201 rfl Tryz.ntmps201 rfl rfl ?_;refine aN [] [] [0] [] trivial ?_;refine bC [] [] ⟨17,[(0,.b16 x1),(3,.i (0:Int))],[],[],0⟩ trivial ?_;obtain⟨K1,hK1,h⟩:=aI h;refine aaR (α:=Nat) (fun(n4:Nat)=>⟨17,[(3,.i (n4:Int))],[],[],0⟩) (fun x=>K1 x=some r) ?_ ?_
 ·refine aN [] [] [0,3,4] [] trivial ?_;refine aaJ (abG (α:=Nat×(Nat×Nat)) (fun x=>match x with|(_,n2,n3)=>⟨17,[(0,.b16 x1),(3,.i (n2:Int)),(4,.i (n3:Int))],[],[],0⟩) (fun x=>jP x1 K1 x.1 x.2=some r) (fun x=>x.1) (aY,0,0) LR h ?_)
  rintro⟨k0,n2,n3⟩ h
  cases k0 with
  |zero=>exact nEx h
  |succ k0=>
  obtain⟨C0,hC0⟩:∃C,C=jP x1 K1 k0:=⟨_,rfl⟩;replace h:=(jP.eq_2 ..).symm.trans h
  try rw[<-hC0]at h
  refine aaE (aN [] [] [0,3,4,6] [] trivial ?_);refine cK (decide ((n3:Int)<(16:Int))) (fun hc1=> ?_) fun hc1=> ?_
  ·replace h:=aE hc1 h;refine aaG (tN (aaE (aaJ ?_)));have ob0:0<=(n3:Int):=by omega
   have ob1: -9223372036854775808<=((((x1>>>n3)&&&(aL 1)).toNat:Nat):Int)/\((((x1>>>n3)&&&(aL 1)).toNat:Nat):Int)<=9223372036854775807:=⟨by omega,by(have:=(((x1>>>n3)&&&(aL 1)):BitVec 16).isLt;omega)⟩;obtain⟨ob2p,h⟩:=aB h;have ob2: -9223372036854775808<=((n2:Int)+((((x1>>>n3)&&&(aL 1)).toNat:Nat):Int))/\((n2:Int)+((((x1>>>n3)&&&(aL 1)).toNat:Nat):Int))<=9223372036854775807:=⟨by omega,ob2p⟩;refine bB [] [] ⟨17,[(0,.b16 x1),(3,.i (((n2+((x1>>>n3)&&&(aL 1)).toNat):Nat):Int)),(4,.i (n3:Int))],[],[],0⟩ (an3 ob0 ob1 ob2) ?_;refine kN (tN ?_);obtain⟨ob3p,h⟩:=aB h;refine aZ [] [] [0,3,4] [] (an1 (iP ob3p)) ?_;rw[hC0]at h;exact lN (_,(n2+((x1>>>n3)&&&(aL 1)).toNat),(n3+1)) LR h (aaM _)
  ·replace h:=aF hc1 h;refine abJ (tE (tE (kS ?_)));exact jN (n2) LR h
 ·rintro n4 h;replace h:=(congrFun hK1 _).symm.trans h;refine aN [] [] [2] [] trivial ?_;obtain rfl:=aaD h;refine aaH ?_;exact bK
def f167 (x1 x2:BitVec 16):Option Bool:=
 (f201 x1).bind fun r3=>
 (f201 x2).bind fun r4=>
 if(r3 !=r4)then(
 (f201 x1).bind fun r5=>
 (f201 x2).bind fun r6=>
 some (decide (r5<r6))
 )else(
 some (decide (x1.toNat<x2.toNat))
 )
theorem f167_ok (x1 x2:BitVec 16) (r:Bool) (h:f167 x1 x2=some r):aG Tryz.prog 167 [] [] [] [.b16 x1,.b16 x2] (.bool r) []:=by
 unfold f167 at h;refine aG.body 0 _ _ Tryz.func167 rfl Tryz.ntmps167 rfl rfl ?_;refine aN [] [] [0,1] [] trivial ?_;refine aaE (aaE ?_);obtain⟨r3,hr3,h⟩:=bind_ok h;obtain⟨r4,hr4,h⟩:=bind_ok h;refine aZ [] [(1,⟨[.b16 x1],[],[],[],.i r3,[],[],[]⟩),(3,⟨[.b16 x2],[],[],[],.i r4,[],[],[]⟩)] [0,1,9] [] (an2 (cpT (vE _ _ hr3)) (cpT (vE _ _ hr4))) ?_;refine tN (cK (r3 !=r4) (fun hc1=> ?_) fun hc1=> ?_)
 ·replace h:=aE hc1 h;refine aaE ?_;obtain⟨r5,hr5,h⟩:=bind_ok h;obtain⟨r6,hr6,h⟩:=bind_ok h;refine bB [] [(1,⟨[.b16 x1],[],[],[],.i r5,[],[],[]⟩),(3,⟨[.b16 x2],[],[],[],.i r6,[],[],[]⟩)] ⟨18,[(4,.bool (decide (r5<r6)))],[],[],0⟩ (an2 (cpT (vE _ _ hr5)) (cpT (vE _ _ hr6))) ?_;refine tN ?_;obtain rfl:=aaD h;refine aaH (tR ?_);exact bK
 ·replace h:=aF hc1 h;refine aaG (tN (aN [] [] [4] [] trivial ?_));obtain rfl:=aaD h;refine aaH ?_;exact bK
def jV (x1:aaB) (n2:Nat) (K3:aC5->Option Ty8):Nat->aC5->Option Ty8
 |0,_=>none
 |k+1,(n4,l5)=>
  eO ((decide ((n4:Int)<(((l5).length:Nat):Int)))==true) (f167 (l5.getD n4 0#16) (x1.getD n2 0#16)) fun r6=>
  chk (((decide ((n4:Int)<(((l5).length:Nat):Int)))==true)=true->0<=(n4:Int)/\(n4:Int)<(((l5).length:Nat):Int))<|
  chk (((decide ((n4:Int)<(((l5).length:Nat):Int)))==true)=true->n4<(l5).length)<|
  chk (((decide ((n4:Int)<(((l5).length:Nat):Int)))==true)=true->0<=(n2:Int)/\(n2:Int)<(((x1).length:Nat):Int))<|
  if((decide ((n4:Int)<(((l5).length:Nat):Int)))&&r6)then(
  chk (((n4:Int)+(1:Int))<=9223372036854775807)<|
  (jV x1 n2 K3 k) ((n4+1),l5)
  )else(
  K3 (n4,l5)
  )
def jU (n7:Nat) (K4:Ty8->Option Ty8):Nat->(Int×aaB)->Option Ty8
 |0,_=>none
 |k+1,(i10,l11)=>
  if(decide (i10>(n7:Int)))then(
  chk (-9223372036854775808<=(i10-(1:Int))/\(i10-(1:Int))<=9223372036854775807)<|
  chk (0<=(i10-(1:Int))/\(i10-(1:Int))<(((l11).length:Nat):Int))<|
  chk ((((i10-(1:Int))).toNat)<(l11).length)<|
  chk (0<=i10/\i10<(((l11).length:Nat):Int))<|
  chk (((i10).toNat)<(l11).length)<|
  chk (-9223372036854775808<=(i10-(1:Int))/\(i10-(1:Int))<=9223372036854775807)<|
  (jU n7 K4 k) ((i10-(1:Int)),(l11.set ((i10).toNat) (l11.getD (((i10-(1:Int))).toNat) 0#16)))
  )else(
  K4 l11
  )
def jW (x1:aaB) (K1:Ty8->Option Ty8):Nat->aC5->Option Ty8
 |0,_=>none
 |k+1,(n2,l3)=>
  if(decide ((n2:Int)<(((x1).length:Nat):Int)))then(
  jn (fun(l9:aaB)=>
  chk (((n2:Int)+(1:Int))<=9223372036854775807)<|
  (jW x1 K1 k) ((n2+1),l9)
  ) fun(K2:Ty8->Option Ty8)=>
  jn (fun((n7,l8):Nat×aaB)=>
  chk (((decide ((n7:Int)<(((l8).length:Nat):Int)))==true)=true->0<=(n7:Int)/\(n7:Int)<(((l8).length:Nat):Int))<|
  chk (((decide ((n7:Int)<(((l8).length:Nat):Int)))==true)=true->n7<(l8).length)<|
  chk (((decide ((n7:Int)<(((l8).length:Nat):Int)))==true)=true->0<=(n2:Int)/\(n2:Int)<(((x1).length:Nat):Int))<|
  if((decide ((n7:Int)<(((l8).length:Nat):Int)))&&((l8.getD n7 0#16)==(x1.getD n2 0#16)))then(
  K2 l8
  )else(
  chk (((l8).length+1) *2<=140737488355328)<|
  jn (fun(l12:aaB)=>
  chk ((n2:Int)<(((x1).length:Nat):Int))<|
  chk ((n7:Int)<(((l12).length:Nat):Int))<|
  chk (n7<(l12).length)<|
  K2 (l12.set n7 (x1.getD n2 0#16))
  ) fun(K4:Ty8->Option Ty8)=>
  chk (-9223372036854775808<=(((((l8++[(BitVec.ofInt 16 0)])).length:Nat):Int)-(1:Int))/\(((((l8++[(BitVec.ofInt 16 0)])).length:Nat):Int)-(1:Int))<=9223372036854775807)<|
  jU n7 K4 aY ((((((l8++[(BitVec.ofInt 16 0)])).length:Nat):Int)-(1:Int)),(l8++[(BitVec.ofInt 16 0)]))
  )
  ) fun(K3:aC5->Option Ty8)=>
  jV x1 n2 K3 aY (0,l3)
  )else(
  K1 l3
  )
abbrev aBF (x1:aaB) (n2 n7:Nat):List (Nat×V):=[(0,vL 1 eW 0#16 x1),(3,.own 5003),(4,.i (n2:Int)),(5,.i (n7:Int))]
abbrev aBE (x1:aaB) (n2:Nat):List (Nat×V):=[(0,vL 1 eW 0#16 x1),(3,.own 5003),(4,.i (n2:Int))]
abbrev f133z2 (x1:aaB) (n2 n7:Nat) (i10:Int):List (Nat×V):=[(0,vL 1 eW 0#16 x1),(3,.own 5003),(4,.i (n2:Int)),(5,.i (n7:Int)),(6,.i i10)]
abbrev f133z3 (l11:aaB) (i10:Int):aJ:=[(5003,bL 32 1 eW 0#16 (l11.set ((i10).toNat) (l11.getD (((i10-(1:Int))).toNat) 0#16)))]
def f133 (x1:aaB):Option Ty8:=
 jn (fun(l13:aaB)=>
 some l13
 ) fun(K1:Ty8->Option Ty8)=>
 jW x1 K1 aY (0,[])
theorem f133_ok (x1 r:aaB) (h:f133 x1=some r):aG Tryz.prog 133 [] [] [] [vL 1 eW 0#16 x1] (.own 3000) [(3000,bL 32 1 eW 0#16 r)]:=by
 unfold f133 at h;refine aG.body 0 _ _ Tryz.func133 rfl Tryz.ntmps133 rfl rfl ?_;refine aN [] [] [0] [] trivial ?_;refine bC [] [] ⟨72,[(0,gR x1),(3,.nils)],[],[],0⟩ trivial ?_;obtain⟨K1,hK1,h⟩:=aI h;refine aaR (α:=aaB) (fun(l13:aaB)=>⟨72,[(3,.own 5003)],[(5003,aT l13)],[],0⟩) (fun x=>K1 x=some r) ?_ ?_
 ·refine bC [] [] ⟨72,[(0,gR x1),(3,.nils),(4,.i (0:Int))],[],[],0⟩ trivial ?_;refine aaJ (abG (α:=Nat×aC5) (fun x=>match x with|(_,n2,l3)=>⟨72,(aBE x1 n2),[(5003,aT l3)],[],0⟩) (fun x=>jW x1 K1 x.1 x.2=some r) (fun x=>x.1) (aY,0,[]) (aaI (aaI (adE 3 5003 32 1 (bY eW 0#16 []) rfl rfl (aaW rfl)) (LR (s':=⟨72,[(0,gR x1),(3,.own 5003),(4,.i (0:Int))],[(5003,aT [])],[],0⟩))) LR) h ?_)
  rintro⟨k0,n2,l3⟩ h
  cases k0 with
  |zero=>exact nEx h
  |succ k0=>
  obtain⟨C0,hC0⟩:∃C,C=jW x1 K1 k0:=⟨_,rfl⟩;replace h:=(jW.eq_2 ..).symm.trans h
  try rw[<-hC0]at h
  refine aaE (aN [] [] [0,3,4,10] [5003] trivial ?_);refine cK (decide ((n2:Int)<(lZ x1))) (fun hc1=> ?_) fun hc1=> ?_
  ·replace h:=aE hc1 h;refine aaG (tN ?_);obtain⟨K2,hK2,h⟩:=aI h;refine aaR (α:=aaB) (fun(l9:aaB)=>⟨72,(aBE x1 n2),[(5003,aT l9)],[],0⟩) (fun x=>K2 x=some r) ?_ ?_
   ·refine aaJ (bC [] [] ⟨72,[(0,gR x1),(3,.own 5003),(4,.i (n2:Int)),(5,.i (0:Int))],[(5003,aT l3)],[],0⟩ trivial ?_);obtain⟨K3,hK3,h⟩:=aI h;refine aaR (fun(x:Nat×aaB)=>match x with|(n7,l8)=>⟨72,(aBF x1 n2 n7),[(5003,aT l8)],[],0⟩) (fun x=>K3 x=some r) ?_ ?_
    ·refine aaJ (abG (α:=Nat×aC5) (fun x=>match x with|(_,n4,l5)=>⟨72,[(0,gR x1),(3,.own 5003),(4,.i (n2:Int)),(5,.i (n4:Int))],[(5003,aT l5)],[],0⟩) (fun x=>jV x1 n2 K3 x.1 x.2=some r) (fun x=>x.1) (aY,0,l3) LR h ?_)
     rintro⟨k1,n4,l5⟩ h
     cases k1 with
     |zero=>exact nEx h
     |succ k1=>
     obtain⟨C1,hC1⟩:∃C,C=jV x1 n2 K3 k1:=⟨_,rfl⟩;replace h:=(jV.eq_2 ..).symm.trans h
     try rw[<-hC1]at h
     refine aaE (aaE ?_);obtain⟨r6,hr6,h⟩:=bI h;obtain⟨ob0,h⟩:=aB h;obtain⟨ob3,h⟩:=aB h;obtain⟨ob5,h⟩:=aB h;refine aZ [] [(13,⟨[.b16 (l5.getD n4 0#16),.b16 (x1.getD n2 0#16)],[],[],[],.bool r6,[],[],[]⟩)] [0,3,4,5,27] [5003] (an6 (aaK ob0 (an2 (idA (((decide ((n4:Int)<(lZ l5)))==true)=true)) (idA (((decide ((n4:Int)<(lZ l5)))==true)=true)))) (aaK ob3 (an1 (idA (((decide ((n4:Int)<(lZ l5)))==true)=true)))) (aaK ob5 (an2 (idA (((decide ((n4:Int)<(lZ l5)))==true)=true)) (idA (((decide ((n4:Int)<(lZ l5)))==true)=true)))) (an1 (idA (((decide ((n4:Int)<(lZ l5)))==true)=true))) (aaK (cpC fun hc=>(f167_ok _ _ _ (hr6 hc))) (an2 (idA (((decide ((n4:Int)<(lZ l5)))==true)=true)) (idA (((decide ((n4:Int)<(lZ l5)))==true)=true)))) (bqA (decide ((n4:Int)<(lZ l5))) true)) ?_;refine tN (cK ((decide ((n4:Int)<(lZ l5)))&&r6) (fun hc2=> ?_) fun hc2=> ?_)
     ·replace h:=aE hc2 h;refine aaG (tN (aaJ ?_));obtain⟨ob12p,h⟩:=aB h;refine bB [] [] ⟨72,[(0,gR x1),(3,.own 5003),(4,.i (n2:Int)),(5,.i (((n4+1):Nat):Int))],[(5003,aT l5)],[],0⟩ (an1 (iP ob12p)) ?_;refine kN ?_;rw[hC1]at h;exact lN (_,(n4+1),l5) LR h (aaM _)
     ·replace h:=aF hc2 h;refine abJ (tE (tE (kS ?_)));exact jN (n4,l5) LR h
    ·rintro⟨n7,l8⟩ h;replace h:=(congrFun hK3 _).symm.trans h;refine aaE (aaE ?_);obtain⟨ob13,h⟩:=aB h;obtain⟨ob16,h⟩:=aB h;obtain⟨ob18,h⟩:=aB h;refine aZ [] [] [0,3,4,5,44] [5003] (an6 (aaK ob13 (an2 (idA (((decide ((n7:Int)<(lZ l8)))==true)=true)) (idA (((decide ((n7:Int)<(lZ l8)))==true)=true)))) (aaK ob16 (an1 (idA (((decide ((n7:Int)<(lZ l8)))==true)=true)))) (aaK ob18 (an2 (idA (((decide ((n7:Int)<(lZ l8)))==true)=true)) (idA (((decide ((n7:Int)<(lZ l8)))==true)=true)))) (an1 (idA (((decide ((n7:Int)<(lZ l8)))==true)=true))) (an2 (idA (((decide ((n7:Int)<(lZ l8)))==true)=true)) (idA (((decide ((n7:Int)<(lZ l8)))==true)=true))) (bqA (decide ((n7:Int)<(lZ l8))) true)) ?_;refine tN (cK ((decide ((n7:Int)<(lZ l8)))&&((l8.getD n7 0#16)==(x1.getD n2 0#16))) (fun hc3=> ?_) fun hc3=> ?_)
     ·replace h:=aE hc3 h;refine abJ (tE (kS ?_));exact jN (l8) LR h
     ·replace h:=aF hc3 h;refine aaG (tN (aaE ?_));obtain⟨ob25,h⟩:=aB h;refine bB [] [] ⟨72,(aBF x1 n2 n7),[(5003,.rows 32 1 ((l8).length+1) (fH (l8).length (bY eW 0#16 l8) (dE 1 [.b16 (aL 0)])))],[],0⟩ (an1 ob25) ?_;refine tN (aaS (acO (s':=⟨72,(aBF x1 n2 n7),[(5003,aT (l8++[(aL 0)]))],[],0⟩) rfl rfl ⟨.refl _,.refl _,.refl _,.refl _,trivial⟩ ⟨⟨_,rfl,(acE (adF (acH _) (acM (enc:=eW) [(aL 0)] rfl rfl (fun _=>rfl))))⟩,trivial⟩) ?_);obtain⟨K4,hK4,h⟩:=aI h;refine aaR (α:=aaB) (fun(l12:aaB)=>⟨72,(aBF x1 n2 n7),[(5003,aT l12)],[],0⟩) (fun x=>K4 x=some r) ?_ ?_
      ·refine aaE ?_;obtain⟨ob26,h⟩:=aB h;refine aZ [] [] [0,3,4,5,6] [5003] (an1 ob26) ?_;refine tN (aaJ (abG (α:=Nat×(Int×aaB)) (fun x=>match x with|(_,i10,l11)=>⟨72,(f133z2 x1 n2 n7 i10),[(5003,aT l11)],[],0⟩) (fun x=>jU n7 K4 x.1 x.2=some r) (fun x=>x.1) (aY,(((((l8++[(aL 0)])).length:Nat):Int)-(1:Int)),(l8++[(aL 0)])) LR h ?_))
       rintro⟨k2,i10,l11⟩ h
       cases k2 with
       |zero=>exact nEx h
       |succ k2=>
       obtain⟨C2,hC2⟩:∃C,C=jU n7 K4 k2:=⟨_,rfl⟩;replace h:=(jU.eq_2 ..).symm.trans h
       try rw[<-hC2]at h
       refine aaE (aN [] [] [0,3,4,5,6,53] [5003] trivial ?_);refine cK (decide (i10>(n7:Int))) (fun hc4=> ?_) fun hc4=> ?_
       ·replace h:=aE hc4 h;refine aaG (tN (aaE (aaJ ?_)));obtain⟨ob27,ob28,ob29,ob30,ob31,h⟩:=ck5 h;refine bB [] [] ⟨72,(f133z2 x1 n2 n7 i10),[(5003,.rows 32 1 (l11).length (aC0 (bY eW 0#16 l11) ((i10).toNat) 0 [.b16 (l11.getD (((i10-(1:Int))).toNat) 0#16)]))],[],0⟩ (an5 ob27 ob28 ob29 ob30 ob31) ?_;refine kN (tN ?_);refine aaS (acO (s':=⟨72,(f133z2 x1 n2 n7 i10),(f133z3 l11 i10),[],0⟩) rfl rfl ⟨.refl _,.refl _,.refl _,.refl _,.refl _,trivial⟩ ⟨⟨_,rfl,(acE (RL.set (l11.getD (((i10-(1:Int))).toNat) 0#16) (acH _) (by intro j hj;match j,hj with|0,_=>rfl)))⟩,trivial⟩) ?_;obtain⟨ob32,h⟩:=aB h;refine aZ [] [] [0,3,4,5,6] [5003] (an1 ob32) ?_;rw[hC2]at h;exact lN (_,(i10-(1:Int)),(l11.set ((i10).toNat) (l11.getD (((i10-(1:Int))).toNat) 0#16))) LR h (aaM _)
       ·replace h:=aF hc4 h;refine abJ (tE (tE (kS ?_)));exact jN (l11) LR h
      ·rintro l12 h;replace h:=(congrFun hK4 _).symm.trans h;obtain⟨ob33p,h⟩:=aB h;obtain⟨ob34p,h⟩:=aB h;obtain⟨ob35,h⟩:=aB h;refine bB [] [] ⟨72,(aBE x1 n2),[(5003,.rows 32 1 (l12).length (aC0 (bY eW 0#16 l12) n7 0 [.b16 (x1.getD n2 0#16)]))],[],0⟩ (an3 (iN ob33p) (iN ob34p) ob35) ?_;refine kN ?_;exact jN ((l12.set n7 (x1.getD n2 0#16))) (aaI (acO (s':=⟨72,(aBE x1 n2),[(5003,aT (l12.set n7 (x1.getD n2 0#16)))],[],0⟩) rfl rfl ⟨.refl _,.refl _,.refl _,trivial⟩ ⟨⟨_,rfl,(acE (RL.set (x1.getD n2 0#16) (acH _) (by intro j hj;match j,hj with|0,_=>rfl)))⟩,trivial⟩) LR) h
   ·rintro l9 h;replace h:=(congrFun hK2 _).symm.trans h;obtain⟨ob36p,h⟩:=aB h;refine aZ [] [] [0,3,4] [5003] (an1 (iP ob36p)) ?_;rw[hC0]at h;exact lN (_,(n2+1),l9) LR h (aaM _)
  ·replace h:=aF hc1 h;refine abJ (tE (tE (kS ?_)));exact jN (l3) LR h
 ·rintro l13 h;replace h:=(congrFun hK1 _).symm.trans h;refine bC [] [] ⟨72,[(2,.own 5003)],[(5003,aT l13)],[],0⟩ trivial ?_;refine aaS (aaI (abX (aV 5003 3000) (aD 5003 3000) rfl) (LR (s':=⟨72,[(2,.own 3000)],[(3000,aT l13)],[],0⟩))) ?_;obtain rfl:=aaD h;refine aaS (LR (s':=⟨72,[(2,.own 3000)],[(3000,aT l13)],[],0⟩)) ?_;refine aaH ?_;exact bK
def f134 (x1 x2:BitVec 16):Option Bool:=
 some ((x2&&& ~~~x1)==(BitVec.ofInt 16 0))
theorem f134_ok (x1 x2:BitVec 16) (r:Bool) (h:f134 x1 x2=some r):aG Tryz.prog 134 [] [] [] [.b16 x1,.b16 x2] (.bool r) []:=by
 unfold f134 at h;refine aG.body 0 _ _ Tryz.func134 rfl Tryz.ntmps134 rfl rfl ?_;refine aN [] [] [0,1] [] trivial ?_;refine bC [] [] ⟨9,[(4,.bool ((x2&&& ~~~x1)==(aL 0)))],[],[],0⟩ trivial ?_;obtain rfl:=aaD h;refine aaH ?_;exact bK
def kG (r2:aaB) (n3:Nat) (K3:Bool->Option Ty8):Nat->(Bool×Nat)->Option Ty8
 |0,_=>none
 |k+1,(b5,n6)=>
  if(decide ((n6:Int)<(((r2).length:Nat):Int)))then(
  jn (fun(b8:Bool)=>
  chk (((n6:Int)+(1:Int))<=9223372036854775807)<|
  (kG r2 n3 K3 k) (b8,(n6+1))
  ) fun(K4:Bool->Option Ty8)=>
  eO (((n3:Int) !=(n6:Int))==true) (f134 (r2.getD n3 0#16) (r2.getD n6 0#16)) fun r7=>
  chk ((((n3:Int) !=(n6:Int))==true)=true->0<=(n3:Int)/\(n3:Int)<(((r2).length:Nat):Int))<|
  chk ((((n3:Int) !=(n6:Int))==true)=true->n3<(r2).length)<|
  chk ((((n3:Int) !=(n6:Int))==true)=true->0<=(n6:Int)/\(n6:Int)<(((r2).length:Nat):Int))<|
  chk ((((n3:Int) !=(n6:Int))==true)=true->n6<(r2).length)<|
  if(((n3:Int) !=(n6:Int))&&r7)then(
  K4 false
  )else(
  K4 b5
  )
  )else(
  K3 b5
  )
def kH (r2:aaB) (K1:Ty8->Option Ty8):Nat->aC5->Option Ty8
 |0,_=>none
 |k+1,(n3,l4)=>
  if(decide ((n3:Int)<(((r2).length:Nat):Int)))then(
  jn (fun(l10:aaB)=>
  chk (((n3:Int)+(1:Int))<=9223372036854775807)<|
  (kH r2 K1 k) ((n3+1),l10)
  ) fun(K2:Ty8->Option Ty8)=>
  jn (fun(b9:Bool)=>
  if b9 then(
  chk ((n3:Int)<(((r2).length:Nat):Int))<|
  chk (n3<(r2).length)<|
  chk (((l4).length+1) *2<=140737488355328)<|
  K2 (l4++[(r2.getD n3 0#16)])
  )else(
  K2 l4
  )
  ) fun(K3:Bool->Option Ty8)=>
  kG r2 n3 K3 aY (true,0)
  )else(
  K1 l4
  )
abbrev rQ (l4 r2:aaB):aJ:=[(5003,bL 32 1 eW 0#16 l4),(6001,bL 32 1 eW 0#16 r2)]
abbrev mU (n3 n6:Nat):=(((n3:Int) !=(n6:Int))==true)
abbrev f103z2 (n3:Nat):List (Nat×V):=[(3,.own 5003),(4,.own 6001),(5,.i (n3:Int))]
abbrev f103z3 (n3:Nat):List (Nat×V):=[(3,.own 43),(4,.own 6001),(5,.i (n3:Int))]
def f103 (x1:aaB):Option Ty8:=
 (f133 x1).bind fun r2=>
 jn (fun(l11:aaB)=>
 some l11
 ) fun(K1:Ty8->Option Ty8)=>
 kH r2 K1 aY (0,[])
theorem f103_ok (x1 r:aaB) (h:f103 x1=some r):aG Tryz.prog 103 [] [] [] [vL 1 eW 0#16 x1] (.own 3000) [(3000,bL 32 1 eW 0#16 r)]:=by
 unfold f103 at h;refine aG.body 0 _ _ Tryz.func103 rfl Tryz.ntmps103 rfl rfl ?_;refine aN [] [] [0] [] trivial ?_;refine aN [] [] [0,3] [] trivial ?_;refine aaE ?_;obtain⟨r2,hr2,h⟩:=bind_ok h;refine bB [] [(1,⟨[gR x1],[],[],[(6001,aT r2)],.own 6001,[6001],[],[]⟩)] ⟨45,[(3,.nils),(4,.own 6001)],[(6001,aT r2)],[],0⟩ (an1 (cpT (aG.ren (aV 3000 6001) (aD 3000 6001) rfl (f133_ok _ _ hr2)))) ?_;refine tN ?_;obtain⟨K1,hK1,h⟩:=aI h;refine aaR (α:=aaB) (fun(l11:aaB)=>⟨45,[(3,.own 5003)],[(5003,aT l11)],[],0⟩) (fun x=>K1 x=some r) ?_ ?_
 ·refine bC [] [] ⟨45,[(3,.nils),(4,.own 6001),(5,.i (0:Int))],[(6001,aT r2)],[],0⟩ trivial ?_;refine aaJ (abG (α:=Nat×aC5) (fun x=>match x with|(_,n3,l4)=>⟨45,(f103z2 n3),(rQ l4 r2),[],0⟩) (fun x=>kH r2 K1 x.1 x.2=some r) (fun x=>x.1) (aY,0,[]) (aaI (aaI (adE 3 5003 32 1 (bY eW 0#16 []) rfl rfl (aaW rfl)) (LR (s':=⟨45,[(3,.own 5003),(4,.own 6001),(5,.i (0:Int))],[(6001,aT r2),(5003,aT [])],[],0⟩))) LR) h ?_)
  rintro⟨k0,n3,l4⟩ h
  cases k0 with
  |zero=>exact nEx h
  |succ k0=>
  obtain⟨C0,hC0⟩:∃C,C=kH r2 K1 k0:=⟨_,rfl⟩;replace h:=(kH.eq_2 ..).symm.trans h
  try rw[<-hC0]at h
  refine aaE (aN [] [] [3,4,5,13] [5003,6001] trivial ?_);refine cK (decide ((n3:Int)<(lZ r2))) (fun hc1=> ?_) fun hc1=> ?_
  ·replace h:=aE hc1 h;refine aaG (tN ?_);obtain⟨K2,hK2,h⟩:=aI h;refine aaR (α:=aaB) (fun(l10:aaB)=>⟨45,(f103z3 n3),[(43,aT l10),(6001,aT r2)],[],0⟩) (fun x=>K2 x=some r) ?_ ?_
   ·refine aaJ (bC [] [] ⟨45,[(3,.own 5003),(4,.own 6001),(5,.i (n3:Int)),(6,.bool true)],(rQ l4 r2),[],0⟩ trivial ?_);obtain⟨K3,hK3,h⟩:=aI h;refine aaR (α:=Bool) (fun(b9:Bool)=>⟨45,[(3,.own 5003),(4,.own 6001),(5,.i (n3:Int)),(6,.bool b9)],(rQ l4 r2),[],0⟩) (fun x=>K3 x=some r) ?_ ?_
    ·refine aN [] [] [3,4,5,6,7] [5003,6001] trivial ?_;refine aaJ (abG (α:=Nat×(Bool×Nat)) (fun x=>match x with|(_,b5,n6)=>⟨45,[(3,.own 5003),(4,.own 6001),(5,.i (n3:Int)),(6,.bool b5),(7,.i (n6:Int))],(rQ l4 r2),[],0⟩) (fun x=>kG r2 n3 K3 x.1 x.2=some r) (fun x=>x.1) (aY,true,0) LR h ?_)
     rintro⟨k1,b5,n6⟩ h
     cases k1 with
     |zero=>exact nEx h
     |succ k1=>
     obtain⟨C1,hC1⟩:∃C,C=kG r2 n3 K3 k1:=⟨_,rfl⟩;replace h:=(kG.eq_2 ..).symm.trans h
     try rw[<-hC1]at h
     refine aaE (aN [] [] [3,4,5,6,7,19] [5003,6001] trivial ?_);refine cK (decide ((n6:Int)<(lZ r2))) (fun hc2=> ?_) fun hc2=> ?_
     ·replace h:=aE hc2 h;refine aaG (tN ?_);obtain⟨K4,hK4,h⟩:=aI h;refine aaR (α:=Bool) (fun(b8:Bool)=>⟨45,[(3,.own 5003),(4,.own 6001),(5,.i (n3:Int)),(6,.bool b8),(7,.i (n6:Int))],(rQ l4 r2),[],0⟩) (fun x=>K4 x=some r) ?_ ?_
      ·refine aaJ (aaE ?_);obtain⟨r7,hr7,h⟩:=bI h;obtain⟨ob0,h⟩:=aB h;obtain⟨ob3,h⟩:=aB h;obtain⟨ob5,h⟩:=aB h;obtain⟨ob8,h⟩:=aB h;have ob12:true=true->((n3:Int) !=(n6:Int))=true->(mU n3 n6)=true:=fun _ h=>beq_iff_eq.2 h;refine bB [] [(12,⟨[.b16 (r2.getD n3 0#16),.b16 (r2.getD n6 0#16)],[],[],[],.bool r7,[],[],[]⟩)] ⟨45,[(3,.own 5003),(4,.own 6001),(5,.i (n3:Int)),(6,.bool b5),(7,.i (n6:Int)),(35,.bool (((n3:Int) !=(n6:Int))&&r7))],(rQ l4 r2),[],0⟩ (an6 (aaK ob0 (an2 (idA ((mU n3 n6)=true)) (idA ((mU n3 n6)=true)))) (aaK ob3 (an1 (idA ((mU n3 n6)=true)))) (aaK ob5 (an2 (idA ((mU n3 n6)=true)) (idA ((mU n3 n6)=true)))) (aaK ob8 (an1 (idA ((mU n3 n6)=true)))) (aaK (cpC fun hc=>(f134_ok _ _ _ (hr7 hc))) (an2 (idA ((mU n3 n6)=true)) (idA ((mU n3 n6)=true)))) ob12) ?_;refine tN (cK (((n3:Int) !=(n6:Int))&&r7) (fun hc3=> ?_) fun hc3=> ?_)
       ·replace h:=aE hc3 h;refine aZ [] [] [3,4,5,6,7] [5003,6001] trivial ?_;refine kN ?_;exact jN (false) LR h
       ·replace h:=aF hc3 h;refine aaG (kN ?_);exact jN (b5) LR h
      ·rintro b8 h;replace h:=(congrFun hK4 _).symm.trans h;obtain⟨ob13p,h⟩:=aB h;refine aZ [] [] [3,4,5,6,7] [5003,6001] (an1 (iP ob13p)) ?_;rw[hC1]at h;exact lN (_,b8,(n6+1)) LR h (aaM _)
     ·replace h:=aF hc2 h;refine abJ (tE (tE (kS ?_)));exact jN (b5) LR h
    ·rintro b9 h;replace h:=(congrFun hK3 _).symm.trans h;refine bC [] [] ⟨45,[(3,.own 5003),(4,.own 6001),(5,.i (n3:Int)),(36,.bool b9)],(rQ l4 r2),[],0⟩ trivial ?_;refine cK b9 (fun hc4=> ?_) fun hc4=> ?_
     ·replace h:=aE hc4 h;obtain⟨ob14p,h⟩:=aB h;obtain⟨ob15,ob16,h⟩:=ck2 h;refine bB [] [] ⟨45,(f103z2 n3),[(5003,.rows 32 1 ((l4).length+1) (fH (l4).length (bY eW 0#16 l4) (dE 1 [.b16 (r2.getD n3 0#16)]))),(6001,aT r2)],[],0⟩ (an3 (iN ob14p) ob15 ob16) ?_;refine kN ?_;exact jN ((l4++[(r2.getD n3 0#16)])) (aaI (acO (s':=⟨45,(f103z2 n3),[(5003,aT (l4++[(r2.getD n3 0#16)])),(6001,aT r2)],[],0⟩) rfl rfl ⟨.refl _,.refl _,.refl _,trivial⟩ ⟨⟨_,rfl,(acE (adF (acH _) (acM (enc:=eW) [(r2.getD n3 0#16)] rfl rfl (fun _=>rfl))))⟩,⟨_,rfl,.refl _⟩,trivial⟩) (aaI (aaI (abX (aV 5003 43) (aD 5003 43) rfl) (LR (s':=⟨45,(f103z3 n3),[(43,aT (l4++[(r2.getD n3 0#16)])),(6001,aT r2)],[],0⟩))) LR)) h
     ·replace h:=aF hc4 h;refine aaG (kN ?_);exact jN (l4) (aaI (aaI (abX (aV 5003 43) (aD 5003 43) rfl) (LR (s':=⟨45,[(3,.own 43),(4,.own 6001),(5,.i (n3:Int)),(36,.bool b9)],[(43,aT l4),(6001,aT r2)],[],0⟩))) LR) h
   ·rintro l10 h;replace h:=(congrFun hK2 _).symm.trans h;obtain⟨ob17p,h⟩:=aB h;refine bB [] [] ⟨45,[(3,.own 43),(4,.own 6001),(5,.i (((n3+1):Nat):Int))],[(43,aT l10),(6001,aT r2)],[],0⟩ (an1 (iP ob17p)) ?_;rw[hC0]at h;exact lN (_,(n3+1),l10) (aaI (aaI (abX (aV 43 5003) (aD 43 5003) rfl) (LR (s':=⟨45,[(3,.own 5003),(4,.own 6001),(5,.i (((n3+1):Nat):Int))],[(5003,aT l10),(6001,aT r2)],[],0⟩))) LR) h (aaM _)
  ·replace h:=aF hc1 h;refine abJ (tE (tE (kS ?_)));exact jN (l4) LR h
 ·rintro l11 h;replace h:=(congrFun hK1 _).symm.trans h;refine bC [] [] ⟨45,[(2,.own 5003)],[(5003,aT l11)],[],0⟩ trivial ?_;refine aaS (aaI (abX (aV 5003 3000) (aD 5003 3000) rfl) (LR (s':=⟨45,[(2,.own 3000)],[(3000,aT l11)],[],0⟩))) ?_;obtain rfl:=aaD h;refine aaS (LR (s':=⟨45,[(2,.own 3000)],[(3000,aT l11)],[],0⟩)) ?_;refine aaH ?_;exact bK
def oH (x7:aaB) (x8:Int) (K2:Ty8->Option Ty8):Nat->aC5->Option Ty8
 |0,_=>none
 |k+1,(n11,l12)=>
  if((decide ((n11:Int)<(((x7).length:Nat):Int)))&&(decide ((n11:Int)<(6:Int))))then(
  jn (fun(l13:aaB)=>
  chk (((n11:Int)+(1:Int))<=9223372036854775807)<|
  (oH x7 x8 K2 k) ((n11+1),l13)
  ) fun(K3:Ty8->Option Ty8)=>
  chk ((n11:Int)<(((x7).length:Nat):Int))<|
  if(!(((x7.getD n11 0#16)&&&(((BitVec.ofInt 16 1)<<<((x8).toNat))-(BitVec.ofInt 16 1)))==(BitVec.ofInt 16 0)))then(
  chk (((l12).length+1) *2<=140737488355328)<|
  K3 (l12++[((x7.getD n11 0#16)&&&(((BitVec.ofInt 16 1)<<<((x8).toNat))-(BitVec.ofInt 16 1)))])
  )else(
  K3 l12
  )
  )else(
  K2 l12
  )
abbrev f72z0 (x7:aaB) (x8:Int) (n11:Nat):List (Nat×V):=[(1,vL 1 eW 0#16 x7),(7,.b16 (((BitVec.ofInt 16 1)<<<((x8).toNat))-(BitVec.ofInt 16 1))),(9,.own 5009),(10,.i (n11:Int))]
abbrev f72z1 (x7:aaB) (x8:Int) (n11:Nat):List (Nat×V):=[(1,vL 1 eW 0#16 x7),(7,.b16 (((BitVec.ofInt 16 1)<<<((x8).toNat))-(BitVec.ofInt 16 1))),(9,.own 54),(10,.i (n11:Int))]
def f72 (x1 x2 x3:Int) (x4 x5:aaB) (x6:List Tq3) (x7:aaB) (x8:Int):Option Ty8:=
 chk (0<=x8)<|
 chk (0<=x3/\1<=(2:Int))<|
 if((x3%(2:Int))==(1:Int))then(
 jn (fun(i9:Int)=>
 (f102 (((BitVec.ofInt 16 1)<<<((x8).toNat))-(BitVec.ofInt 16 1)) i9).bind fun r10=>
 some r10
 ) fun(K1:Int->Option Ty8)=>
 if(decide ((((x7).length:Nat):Int)>(0:Int)))then(
 chk ((0:Int)<(((x7).length:Nat):Int))<|
 chk ((((x7.getD 0 0#16).toNat:Nat):Int)<=9223372036854775807)<|
 chk (1<=x8)<|
 chk (-9223372036854775808<=((1:Int)+((((x7.getD 0 0#16).toNat:Nat):Int)%x8))/\((1:Int)+((((x7.getD 0 0#16).toNat:Nat):Int)%x8))<=9223372036854775807)<|
 K1 ((1:Int)+((((x7.getD 0 0#16).toNat:Nat):Int)%x8))
 )else(
 K1 x8
 )
 )else(
 jn (fun(l14:aaB)=>
 jn (fun(l15:aaB)=>
 (f103 l15).bind fun r16=>
 some r16
 ) fun(K4:Ty8->Option Ty8)=>
 if((((l14).length:Nat):Int)==(0:Int))then(
 chk (((l14).length+1) *2<=140737488355328)<|
 K4 (l14++[(((BitVec.ofInt 16 1)<<<((x8).toNat))-(BitVec.ofInt 16 1))])
 )else(
 K4 l14
 )
 ) fun(K2:Ty8->Option Ty8)=>
 oH x7 x8 K2 aY (0,[])
 )
theorem f72_ok (x1 x2 x3:Int) (x4 x5:aaB) (x6:List Tq3) (x7:aaB) (x8:Int) (r:aaB) (h:f72 x1 x2 x3 x4 x5 x6 x7 x8=some r):aG Tryz.prog 72 [] [] [] [.agg [.int .u8 x1,.int .u8 x2,.int .u8 x3,vL 1 eW 0#16 x4,vL 1 eW 0#16 x5,vL 2 eWW (default:Tq3) x6],vL 1 eW 0#16 x7,.i x8] (.own 3000) [(3000,bL 32 1 eW 0#16 r)]:=by
 unfold f72 at h;refine aG.body 0 _ _ Tryz.func72 rfl Tryz.ntmps72 rfl rfl ?_;refine aN [] [] [1,2,3] [3] trivial ?_;refine aaE ?_;obtain⟨ob0,h⟩:=aB h;refine aZ [] [] [1,2,3,7] [3] (an2 ob0 trivial) ?_;refine tN (aaE (aaE ?_));obtain⟨ob1,h⟩:=aB h;refine aZ [] [] [1,2,7,18] [] (an1 ob1) ?_;refine tN (cK ((x3%(2:Int))==(1:Int)) (fun hc1=> ?_) fun hc1=> ?_)
 ·replace h:=aE hc1 h;refine bC [] [] ⟨64,[(1,gR x7),(2,.i x8),(7,.b16 (((aL 1)<<<((x8).toNat))-(aL 1))),(8,.i x8)],[],[],0⟩ trivial ?_;obtain⟨K1,hK1,h⟩:=aI h;refine aaR (α:=Int) (fun(i9:Int)=>⟨64,[(7,.b16 (((aL 1)<<<((x8).toNat))-(aL 1))),(8,.i i9)],[],[],0⟩) (fun x=>K1 x=some r) ?_ ?_
  ·refine aN [] [] [1,2,7,8,22] [] trivial ?_;refine cK (decide ((lZ x7)>(0:Int))) (fun hc2=> ?_) fun hc2=> ?_
   ·replace h:=aE hc2 h;obtain⟨ob2p,h⟩:=aB h;have ob2:0<=(0:Int)/\(0:Int)<(((x7).length:Nat):Int):=⟨by omega,ob2p⟩;obtain⟨ob3p,h⟩:=aB h;have ob3: -9223372036854775808<=(((x7.getD 0 0#16).toNat:Nat):Int)/\(((x7.getD 0 0#16).toNat:Nat):Int)<=9223372036854775807:=⟨by omega,ob3p⟩;obtain⟨ob4p,h⟩:=aB h;have ob4:0<=(((x7.getD 0 0#16).toNat:Nat):Int)/\1<=x8:=⟨by omega,ob4p⟩;obtain⟨ob5,h⟩:=aB h;refine bB [] [] ⟨64,[(7,.b16 (((aL 1)<<<((x8).toNat))-(aL 1))),(8,.i ((1:Int)+((((x7.getD 0 0#16).toNat:Nat):Int)%x8)))],[],[],0⟩ (an4 ob2 ob3 ob4 ob5) ?_;exact jN (((1:Int)+((((x7.getD 0 0#16).toNat:Nat):Int)%x8))) LR h
   ·replace h:=aF hc2 h;refine aaG ?_;exact jN (x8) LR h
  ·rintro i9 h;replace h:=(congrFun hK1 _).symm.trans h;refine aaE ?_;obtain⟨r10,hr10,h⟩:=bind_ok h;refine bB [] [(2,⟨[.b16 (((aL 1)<<<((x8).toNat))-(aL 1)),.i i9],[],[],[(6001,aT r10)],.own 6001,[6001],[],[]⟩)] ⟨64,[(6,.own 6001)],[(6001,aT r10)],[],0⟩ (an1 (cpT (aG.ren (aV 3000 6001) (aD 3000 6001) rfl (f102_ok _ _ _ hr10)))) ?_;refine tN (aaS (aaI (abX (aV 6001 3000) (aD 6001 3000) rfl) (LR (s':=⟨64,[(6,.own 3000)],[(3000,aT r10)],[],0⟩))) ?_);obtain rfl:=aaD h;refine aaS (LR (s':=⟨64,[(6,.own 3000)],[(3000,aT r10)],[],0⟩)) ?_;refine aaH (tR ?_);exact bK
 ·replace h:=aF hc1 h;refine aaG (tN (aN [] [] [1,7,9] [] trivial ?_));obtain⟨K2,hK2,h⟩:=aI h;refine aaR (α:=aaB) (fun(l14:aaB)=>⟨64,[(7,.b16 (((aL 1)<<<((x8).toNat))-(aL 1))),(9,.own 5009)],[(5009,aT l14)],[],0⟩) (fun x=>K2 x=some r) ?_ ?_
  ·refine bC [] [] ⟨64,[(1,gR x7),(7,.b16 (((aL 1)<<<((x8).toNat))-(aL 1))),(9,.nils),(10,.i (0:Int))],[],[],0⟩ trivial ?_;refine aaJ (abG (α:=Nat×aC5) (fun x=>match x with|(_,n11,l12)=>⟨64,(f72z0 x7 x8 n11),[(5009,aT l12)],[],0⟩) (fun x=>oH x7 x8 K2 x.1 x.2=some r) (fun x=>x.1) (aY,0,[]) (aaI (aaI (adE 9 5009 32 1 (bY eW 0#16 []) rfl rfl (aaW rfl)) (LR (s':=⟨64,[(1,gR x7),(7,.b16 (((aL 1)<<<((x8).toNat))-(aL 1))),(9,.own 5009),(10,.i (0:Int))],[(5009,aT [])],[],0⟩))) LR) h ?_)
   rintro⟨k0,n11,l12⟩ h
   cases k0 with
   |zero=>exact nEx h
   |succ k0=>
   obtain⟨C0,hC0⟩:∃C,C=oH x7 x8 K2 k0:=⟨_,rfl⟩;replace h:=(oH.eq_2 ..).symm.trans h
   try rw[<-hC0]at h
   refine aaE (aaE (aZ [] [] [1,7,9,10,40] [5009] (an2 (an1 (idA (((decide ((n11:Int)<(lZ x7)))==true)=true))) (bqA (decide ((n11:Int)<(lZ x7))) true)) ?_));refine tN (cK ((decide ((n11:Int)<(lZ x7)))&&(decide ((n11:Int)<(6:Int)))) (fun hc3=> ?_) fun hc3=> ?_)
   ·replace h:=aE hc3 h;refine aaG (tN ?_);obtain⟨K3,hK3,h⟩:=aI h;refine aaR (α:=aaB) (fun(l13:aaB)=>⟨64,(f72z1 x7 x8 n11),[(54,aT l13)],[],0⟩) (fun x=>K3 x=some r) ?_ ?_
    ·refine aaJ (aaE ?_);obtain⟨ob8p,h⟩:=aB h;refine aZ [] [] [1,7,9,10,11] [5009] (an1 (iN ob8p)) ?_;refine tN (bC [] [] ⟨64,[(1,gR x7),(7,.b16 (((aL 1)<<<((x8).toNat))-(aL 1))),(9,.own 5009),(10,.i (n11:Int)),(11,.b16 ((x7.getD n11 0#16)&&&(((aL 1)<<<((x8).toNat))-(aL 1)))),(50,.bool (!(((x7.getD n11 0#16)&&&(((aL 1)<<<((x8).toNat))-(aL 1)))==(aL 0))))],[(5009,aT l12)],[],0⟩ trivial ?_);refine cK (!(((x7.getD n11 0#16)&&&(((aL 1)<<<((x8).toNat))-(aL 1)))==(aL 0))) (fun hc4=> ?_) fun hc4=> ?_
     ·replace h:=aE hc4 h;obtain⟨ob9,h⟩:=aB h;refine bB [] [] ⟨64,(f72z0 x7 x8 n11),[(5009,.rows 32 1 ((l12).length+1) (fH (l12).length (bY eW 0#16 l12) (dE 1 [.b16 ((x7.getD n11 0#16)&&&(((aL 1)<<<((x8).toNat))-(aL 1)))])))],[],0⟩ (an1 ob9) ?_;refine kN ?_;exact jN ((l12++[((x7.getD n11 0#16)&&&(((aL 1)<<<((x8).toNat))-(aL 1)))])) (aaI (acO (s':=⟨64,(f72z0 x7 x8 n11),[(5009,aT (l12++[((x7.getD n11 0#16)&&&(((aL 1)<<<((x8).toNat))-(aL 1)))]))],[],0⟩) rfl rfl ⟨.refl _,.refl _,.refl _,.refl _,trivial⟩ ⟨⟨_,rfl,(acE (adF (acH _) (acM (enc:=eW) [((x7.getD n11 0#16)&&&(((aL 1)<<<((x8).toNat))-(aL 1)))] rfl rfl (fun _=>rfl))))⟩,trivial⟩) (aaI (aaI (abX (aV 5009 54) (aD 5009 54) rfl) (LR (s':=⟨64,(f72z1 x7 x8 n11),[(54,aT (l12++[((x7.getD n11 0#16)&&&(((aL 1)<<<((x8).toNat))-(aL 1)))]))],[],0⟩))) LR)) h
     ·replace h:=aF hc4 h;refine aaG (kN ?_);exact jN (l12) (aaI (aaI (abX (aV 5009 54) (aD 5009 54) rfl) (LR (s':=⟨64,[(1,gR x7),(7,.b16 (((aL 1)<<<((x8).toNat))-(aL 1))),(9,.own 54),(10,.i (n11:Int)),(11,.b16 ((x7.getD n11 0#16)&&&(((aL 1)<<<((x8).toNat))-(aL 1)))),(50,.bool (!(((x7.getD n11 0#16)&&&(((aL 1)<<<((x8).toNat))-(aL 1)))==(aL 0))))],[(54,aT l12)],[],0⟩))) LR) h
    ·rintro l13 h;replace h:=(congrFun hK3 _).symm.trans h;obtain⟨ob10p,h⟩:=aB h;refine bB [] [] ⟨64,[(1,gR x7),(7,.b16 (((aL 1)<<<((x8).toNat))-(aL 1))),(9,.own 54),(10,.i (((n11+1):Nat):Int))],[(54,aT l13)],[],0⟩ (an1 (iP ob10p)) ?_;rw[hC0]at h;exact lN (_,(n11+1),l13) (aaI (aaI (abX (aV 54 5009) (aD 54 5009) rfl) (LR (s':=⟨64,[(1,gR x7),(7,.b16 (((aL 1)<<<((x8).toNat))-(aL 1))),(9,.own 5009),(10,.i (((n11+1):Nat):Int))],[(5009,aT l13)],[],0⟩))) LR) h (aaM _)
   ·replace h:=aF hc3 h;refine abJ (tE (tE (kS ?_)));exact jN (l12) LR h
  ·rintro l14 h;replace h:=(congrFun hK2 _).symm.trans h;obtain⟨K4,hK4,h⟩:=aI h;refine aaR (α:=aaB) (fun(l15:aaB)=>⟨64,[(9,.own 5009)],[(5009,aT l15)],[],0⟩) (fun x=>K4 x=some r) ?_ ?_
   ·refine aN [] [] [7,9,57] [5009] trivial ?_;refine cK ((lZ l14)==(0:Int)) (fun hc5=> ?_) fun hc5=> ?_
    ·replace h:=aE hc5 h;obtain⟨ob11,h⟩:=aB h;refine bB [] [] ⟨64,[(9,.own 5009)],[(5009,.rows 32 1 ((l14).length+1) (fH (l14).length (bY eW 0#16 l14) (dE 1 [.b16 (((aL 1)<<<((x8).toNat))-(aL 1))])))],[],0⟩ (an1 ob11) ?_;exact jN ((l14++[(((aL 1)<<<((x8).toNat))-(aL 1))])) (aaI (acO (s':=⟨64,[(9,.own 5009)],[(5009,aT (l14++[(((aL 1)<<<((x8).toNat))-(aL 1))]))],[],0⟩) rfl rfl ⟨.refl _,trivial⟩ ⟨⟨_,rfl,(acE (adF (acH _) (acM (enc:=eW) [(((aL 1)<<<((x8).toNat))-(aL 1))] rfl rfl (fun _=>rfl))))⟩,trivial⟩) LR) h
    ·replace h:=aF hc5 h;refine aaG ?_;exact jN (l14) LR h
   ·rintro l15 h;replace h:=(congrFun hK4 _).symm.trans h;refine aaE ?_;obtain⟨r16,hr16,h⟩:=bind_ok h;refine bB [] [(1,⟨[gR l15],[],[],[(6002,aT r16)],.own 6002,[6002],[5009],[]⟩)] ⟨64,[(6,.own 6002)],[(6002,aT r16)],[],0⟩ (an1 (cpL (c:=true) [(5009,aT l15)] [5009] [.own 5009] (fun _=>(aG.ren (aV 3000 6002) (aD 3000 6002) rfl (f103_ok _ _ hr16))) (fun _=>⟨.refl _,trivial⟩) (.inr ⟨rfl,⟨(fun _ _ _ _=>eW_flat _ _),trivial⟩⟩))) ?_;refine tN (aaS (aaI (abX (aV 6002 3000) (aD 6002 3000) rfl) (LR (s':=⟨64,[(6,.own 3000)],[(3000,aT r16)],[],0⟩))) ?_);obtain rfl:=aaD h;refine aaS (LR (s':=⟨64,[(6,.own 3000)],[(3000,aT r16)],[],0⟩)) ?_;refine aaH ?_;exact bK
def f168 (x1 x2:BitVec 16):Option (BitVec 16):=
 some (x1|||x2)
theorem f168_ok (x1 x2 r:BitVec 16) (h:f168 x1 x2=some r):aG Tryz.prog 168 [] [] [] [.agg [.b16 x1,.b16 x2]] (.b16 r) []:=by
 unfold f168 at h;refine aG.body 0 _ _ Tryz.func168 rfl Tryz.ntmps168 rfl rfl ?_;refine aN [] [] [1] [1] trivial ?_;refine bC [] [] ⟨8,[(2,.b16 (x1|||x2))],[],[],0⟩ trivial ?_;obtain rfl:=aaD h;refine aaH ?_;exact bK
def f135 (x1 x2 x3 x4:BitVec 16):Option Bool:=
 (f131 x3 x1).bind fun r5=>
 eO (r5==true) (f168 x3 x4) fun r6=>
 eO (r5==true) (f168 x1 x2) fun r7=>
 eO (r5==true) (f131 r6 r7) fun r8=>
 some (r5&&r8)
theorem f135_ok (x1 x2 x3 x4:BitVec 16) (r:Bool) (h:f135 x1 x2 x3 x4=some r):aG Tryz.prog 135 [] [] [] [.agg [.b16 x1,.b16 x2],.agg [.b16 x3,.b16 x4]] (.bool r) []:=by
 unfold f135 at h;refine aG.body 0 _ _ Tryz.func135 rfl Tryz.ntmps135 rfl rfl ?_;refine aN [] [] [2,3] [2,3] trivial ?_;refine aaE ?_;obtain⟨r5,hr5,h⟩:=bind_ok h;obtain⟨r6,hr6,h⟩:=bI h;obtain⟨r7,hr7,h⟩:=bI h;obtain⟨r8,hr8,h⟩:=bI h;refine bB [] [(4,⟨[.b16 x3,.b16 x1],[],[],[],.bool r5,[],[],[]⟩),(7,⟨[.agg [.b16 x3,.b16 x4]],[],[],[],.b16 r6,[],[],[]⟩),(9,⟨[.agg [.b16 x1,.b16 x2]],[],[],[],.b16 r7,[],[],[]⟩),(10,⟨[.b16 r6,.b16 r7],[],[],[],.bool r8,[],[],[]⟩)] ⟨17,[(4,.bool (r5&&r8))],[],[],0⟩ (an5 (cpT (aAG _ _ _ hr5)) (aaK (cpC fun hc=>(f168_ok _ _ _ (hr6 hc))) (an1 (idA ((r5==true)=true)))) (aaK (cpC fun hc=>(f168_ok _ _ _ (hr7 hc))) (an1 (idA ((r5==true)=true)))) (aaK (cpC fun hc=>(aAG _ _ _ (hr8 hc))) (an2 (idA ((r5==true)=true)) (idA ((r5==true)=true)))) (bqA r5 true)) ?_;refine tN ?_;obtain rfl:=aaD h;refine aaH ?_;exact bK
abbrev mR (r3 r4:Int):=((decide (r3<r4))==false)
def f169 (x1 x2:BitVec 16):Option Int:=
 if(x1==x2)then(
 some (0:Int)
 )else(
 (f132 x1).bind fun r3=>
 (f132 x2).bind fun r4=>
 eO ((decide (r3<r4))==false) (f132 x1) fun r5=>
 eO ((decide (r3<r4))==false) (f132 x2) fun r6=>
 chk (((decide (r3<r4))==false)=true->((decide (r3<r4))==false)=true->(r5==r6)=true->(((decide (r3<r4))==false)&&((r5==r6)==true))=true)<|
 if((decide (r3<r4))||((r5==r6)&&(decide (x1.toNat<x2.toNat))))then(
 some (-1:Int)
 )else(
 some (1:Int)
 )
 )
theorem f169_ok (x1 x2:BitVec 16) (r:Int) (h:f169 x1 x2=some r):aG Tryz.prog 169 [] [] [] [.b16 x1,.b16 x2] (.i r) []:=by
 unfold f169 at h;refine aG.body 0 _ _ Tryz.func169 rfl Tryz.ntmps169 rfl rfl ?_;refine aN [] [] [0,1] [] trivial ?_;refine aaE (aN [] [] [0,1,7] [] trivial ?_);refine cK (x1==x2) (fun hc1=> ?_) fun hc1=> ?_
 ·replace h:=aE hc1 h;refine bC [] [] ⟨25,[(4,.i (0:Int))],[],[],0⟩ trivial ?_;obtain rfl:=aaD h;refine aaH (tR ?_);exact bK
 ·replace h:=aF hc1 h;refine aaG (tN (aaE (aaE ?_)));obtain⟨r3,hr3,h⟩:=bind_ok h;obtain⟨r4,hr4,h⟩:=bind_ok h;obtain⟨r5,hr5,h⟩:=bI h;obtain⟨r6,hr6,h⟩:=bI h;obtain⟨ob7,h⟩:=aB h;have ob9:true=true->(decide (r3<r4))=false->(mR r3 r4)=true:=fun _ h=>beq_iff_eq.2 h;refine aZ [] [(1,⟨[.b16 x1],[],[],[],.i r3,[],[],[]⟩),(3,⟨[.b16 x2],[],[],[],.i r4,[],[],[]⟩),(7,⟨[.b16 x1],[],[],[],.i r5,[],[],[]⟩),(9,⟨[.b16 x2],[],[],[],.i r6,[],[],[]⟩)] [24] [] (ac6 (cpT (rN _ _ hr3)) (cpT (rN _ _ hr4)) (aaK (cpC fun hc=>(rN _ _ (hr5 hc))) (an1 (idA ((mR r3 r4)=true)))) (aaK (cpC fun hc=>(rN _ _ (hr6 hc))) (an1 (idA ((mR r3 r4)=true)))) (an2 (idA ((mR r3 r4)=true)) (idA ((mR r3 r4)=true))) (an1 (idA ((mR r3 r4)=true))) (an3 (an2 (idA (((mR r3 r4)&&((r5==r6)==true))=true)) (idA (((mR r3 r4)&&((r5==r6)==true))=true))) (aaK ob7 (an1 (idA ((mR r3 r4)=true)))) ob9)) ?_;refine tN (cK ((decide (r3<r4))||((r5==r6)&&(decide (x1.toNat<x2.toNat)))) (fun hc2=> ?_) fun hc2=> ?_)
  ·replace h:=aE hc2 h;refine bC [] [] ⟨25,[(4,.i (-1:Int))],[],[],0⟩ trivial ?_;obtain rfl:=aaD h;refine aaH (tR ?_);exact bK
  ·replace h:=aF hc2 h;refine aaG (tN (aN [] [] [4] [] trivial ?_));obtain rfl:=aaD h;refine aaH ?_;exact bK
def f136 (x1 x2 x3 x4:BitVec 16):Option Int:=
 (f169 x1 x3).bind fun r5=>
 if(r5 !=(0:Int))then(
 some r5
 )else(
 (f169 x2 x4).bind fun r6=>
 some r6
 )
theorem f136_ok (x1 x2 x3 x4:BitVec 16) (r:Int) (h:f136 x1 x2 x3 x4=some r):aG Tryz.prog 136 [] [] [] [.agg [.b16 x1,.b16 x2],.agg [.b16 x3,.b16 x4]] (.i r) []:=by
 unfold f136 at h;refine aG.body 0 _ _ Tryz.func136 rfl Tryz.ntmps136 rfl rfl ?_;refine aN [] [] [2,3] [2,3] trivial ?_;refine aaE (aaE ?_);obtain⟨r5,hr5,h⟩:=bind_ok h;refine aZ [] [(4,⟨[.b16 x1,.b16 x3],[],[],[],.i r5,[],[],[]⟩)] [2,3,5] [2,3] (an1 (cpT (f169_ok _ _ _ hr5))) ?_;refine tN (aN [] [] [2,3,5,12] [2,3] trivial ?_);refine cK (r5 !=(0:Int)) (fun hc1=> ?_) fun hc1=> ?_
 ·replace h:=aE hc1 h;refine bC [] [] ⟨19,[(4,.i r5)],[],[],0⟩ trivial ?_;obtain rfl:=aaD h;refine aaH (tR ?_);exact bK
 ·replace h:=aF hc1 h;refine aaG (tN (aaE ?_));obtain⟨r6,hr6,h⟩:=bind_ok h;refine aZ [] [(4,⟨[.b16 x2,.b16 x4],[],[],[],.i r6,[],[],[]⟩)] [4] [] (an1 (cpT (f169_ok _ _ _ hr6))) ?_;refine tN ?_;obtain rfl:=aaD h;refine aaH ?_;exact bK
def kD (x1:List Tq3) (n2:Nat) (K3:Bool->Option cU):Nat->(Bool×Nat)->Option cU
 |0,_=>none
 |k+1,(b4,n5)=>
  if(decide ((n5:Int)<(((x1).length:Nat):Int)))then(
  jn (fun(b7:Bool)=>
  chk (((n5:Int)+(1:Int))<=9223372036854775807)<|
  (kD x1 n2 K3 k) (b7,(n5+1))
  ) fun(K4:Bool->Option cU)=>
  (f135 ((x1.getD n5 (default:Tq3)).1) ((x1.getD n5 (default:Tq3)).2) ((x1.getD n2 (default:Tq3)).1) ((x1.getD n2 (default:Tq3)).2)).bind fun r6=>
  chk ((n5:Int)<(((x1).length:Nat):Int))<|
  chk ((n2:Int)<(((x1).length:Nat):Int))<|
  chk ((r6==true)=true->0<=(n5:Int)/\(n5:Int)<(((x1).length:Nat):Int))<|
  chk ((r6==true)=true->0<=(n2:Int)/\(n2:Int)<(((x1).length:Nat):Int))<|
  chk ((r6==true)=true->(r6==true)=true->(!((((x1.getD n5 (default:Tq3)).1)==((x1.getD n2 (default:Tq3)).1))&&((((x1.getD n5 (default:Tq3)).2)==((x1.getD n2 (default:Tq3)).2))&&true)))=false->((r6==true)&&((!((((x1.getD n5 (default:Tq3)).1)==((x1.getD n2 (default:Tq3)).1))&&((((x1.getD n5 (default:Tq3)).2)==((x1.getD n2 (default:Tq3)).2))&&true)))==false))=true)<|
  if(r6&&((!((((x1.getD n5 (default:Tq3)).1)==((x1.getD n2 (default:Tq3)).1))&&((((x1.getD n5 (default:Tq3)).2)==((x1.getD n2 (default:Tq3)).2))&&true)))||(decide ((n5:Int)<(n2:Int)))))then(
  K4 false
  )else(
  K4 b4
  )
  )else(
  K3 b4
  )
def jZ (x1:List Tq3) (n2:Nat) (K5:(Nat×cU)->Option cU):Nat->(Nat×cU)->Option cU
 |0,_=>none
 |k+1,(n10,l11)=>
  eO ((decide ((n10:Int)<(((l11).length:Nat):Int)))==true) (f136 ((l11.getD n10 (default:Tq3)).1) ((l11.getD n10 (default:Tq3)).2) ((x1.getD n2 (default:Tq3)).1) ((x1.getD n2 (default:Tq3)).2)) fun r12=>
  chk (((decide ((n10:Int)<(((l11).length:Nat):Int)))==true)=true->0<=(n10:Int)/\(n10:Int)<(((l11).length:Nat):Int))<|
  chk (((decide ((n10:Int)<(((l11).length:Nat):Int)))==true)=true->n10<(l11).length)<|
  chk (((decide ((n10:Int)<(((l11).length:Nat):Int)))==true)=true->0<=(n2:Int)/\(n2:Int)<(((x1).length:Nat):Int))<|
  if((decide ((n10:Int)<(((l11).length:Nat):Int)))&&(decide (r12<(0:Int))))then(
  chk (((n10:Int)+(1:Int))<=9223372036854775807)<|
  (jZ x1 n2 K5 k) ((n10+1),l11)
  )else(
  K5 (n10,l11)
  )
def kE (x1:List Tq3) (K1:cU->Option cU):Nat->(Nat×cU)->Option cU
 |0,_=>none
 |k+1,(n2,l3)=>
  if(decide ((n2:Int)<(((x1).length:Nat):Int)))then(
  jn (fun(l9:List Tq3)=>
  chk (((n2:Int)+(1:Int))<=9223372036854775807)<|
  (kE x1 K1 k) ((n2+1),l9)
  ) fun(K2:cU->Option cU)=>
  jn (fun(b8:Bool)=>
  if(!b8)then(
  K2 l3
  )else(
  jn (fun((n13,l14):Nat×cU)=>
  chk ((n13:Int)<=(((l14).length:Nat):Int))<|
  chk ((0+n13) *4<=140737488355328)<|
  chk ((n2:Int)<(((x1).length:Nat):Int))<|
  chk ((((l14.take n13)).length+1) *4<=140737488355328)<|
  chk ((n13:Int)<=(((l14).length:Nat):Int))<|
  chk (((((l14.take n13)++[((x1.getD n2 (default:Tq3)).1,(x1.getD n2 (default:Tq3)).2)])).length+((l14).length-n13)) *4<=140737488355328)<|
  K2 (((l14.take n13)++[((x1.getD n2 (default:Tq3)).1,(x1.getD n2 (default:Tq3)).2)])++(l14.drop n13))
  ) fun(K5:(Nat×cU)->Option cU)=>
  jZ x1 n2 K5 aY (0,l3)
  )
  ) fun(K3:Bool->Option cU)=>
  kD x1 n2 K3 aY (true,0)
  )else(
  K1 l3
  )
abbrev dK (x1:List Tq3) (n2:Nat):=(x1.getD n2 (default:Tq3))
abbrev rP (l3:List Tq3):aJ:=[(5003,bL 186 2 eWW (default:Tq3) l3)]
abbrev aBW (x1:List Tq3) (n5 n2:Nat):=(!((((x1.getD n5 (default:Tq3)).1)==((dK x1 n2).1))&&((((x1.getD n5 (default:Tq3)).2)==((dK x1 n2).2))&&true)))
abbrev aBV (x1 l14:List Tq3) (n2 n13:Nat):List (Nat×V):=[(0,vL 2 eWW (default:Tq3) x1),(3,vL 2 eWW (default:Tq3) l14),(4,.i (n2:Int)),(7,.i (n13:Int)),(8,.own 70)]
abbrev f104z4 (x1:List Tq3) (n2:Nat):List (Nat×V):=[(0,vL 2 eWW (default:Tq3) x1),(3,.own 5003),(4,.i (n2:Int))]
abbrev f104z5 (l11:List Tq3):aJ:=[(5003,bL 186 2 eWW (default:Tq3) l11)]
abbrev f104z6 (x1:List Tq3) (n2:Nat):List (Nat×V):=[(0,vL 2 eWW (default:Tq3) x1),(3,.own 70),(4,.i (n2:Int))]
abbrev rO :=Tq3
def f104 (x1:List Tq3):Option cU:=
 jn (fun(l15:List Tq3)=>
 some l15
 ) fun(K1:cU->Option cU)=>
 kE x1 K1 aY (0,[])
theorem f104_ok (x1 r:List Tq3) (h:f104 x1=some r):aG Tryz.prog 104 [] [] [] [vL 2 eWW (default:Tq3) x1] (.own 3000) [(3000,bL 186 2 eWW (default:Tq3) r)]:=by
 unfold f104 at h;refine aG.body 0 _ _ Tryz.func104 rfl Tryz.ntmps104 rfl rfl ?_;refine aN [] [] [0] [] trivial ?_;refine bC [] [] ⟨84,[(0,dN x1),(3,.nils)],[],[],0⟩ trivial ?_;obtain⟨K1,hK1,h⟩:=aI h;refine aaR (α:=List (rO)) (fun(l15:List (rO))=>⟨84,[(3,.own 5003)],[(5003,bX l15)],[],0⟩) (fun x=>K1 x=some r) ?_ ?_
 ·refine bC [] [] ⟨84,[(0,dN x1),(3,.nils),(4,.i (0:Int))],[],[],0⟩ trivial ?_;refine aaJ (abG (α:=Nat×(Nat×(List (rO)))) (fun x=>match x with|(_,n2,l3)=>⟨84,(f104z4 x1 n2),(rP l3),[],0⟩) (fun x=>kE x1 K1 x.1 x.2=some r) (fun x=>x.1) (aY,0,[]) (aaI (aaI (adE 3 5003 186 2 (bY eWW sH []) rfl rfl (aaW rfl)) (LR (s':=⟨84,[(0,dN x1),(3,.own 5003),(4,.i (0:Int))],[(5003,bX [])],[],0⟩))) LR) h ?_)
  rintro⟨k0,n2,l3⟩ h
  cases k0 with
  |zero=>exact nEx h
  |succ k0=>
  obtain⟨C0,hC0⟩:∃C,C=kE x1 K1 k0:=⟨_,rfl⟩;replace h:=(kE.eq_2 ..).symm.trans h
  try rw[<-hC0]at h
  refine aaE (aN [] [] [0,3,4,12] [5003] trivial ?_);refine cK (decide ((n2:Int)<(lZ x1))) (fun hc1=> ?_) fun hc1=> ?_
  ·replace h:=aE hc1 h;refine aaG (tN ?_);obtain⟨K2,hK2,h⟩:=aI h;refine aaR (α:=List (rO)) (fun(l9:List (rO))=>⟨84,(f104z4 x1 n2),[(5003,bX l9)],[],0⟩) (fun x=>K2 x=some r) ?_ ?_
   ·refine aaJ (bC [] [] ⟨84,[(0,dN x1),(3,.own 5003),(4,.i (n2:Int)),(5,.bool true)],(rP l3),[],0⟩ trivial ?_);obtain⟨K3,hK3,h⟩:=aI h;refine aaR (α:=Bool) (fun(b8:Bool)=>⟨84,[(0,dN x1),(3,.own 5003),(4,.i (n2:Int)),(5,.bool b8)],(rP l3),[],0⟩) (fun x=>K3 x=some r) ?_ ?_
    ·refine aN [] [] [0,3,4,5,6] [5003] trivial ?_;refine aaJ (abG (α:=Nat×(Bool×Nat)) (fun x=>match x with|(_,b4,n5)=>⟨84,[(0,dN x1),(3,.own 5003),(4,.i (n2:Int)),(5,.bool b4),(6,.i (n5:Int))],(rP l3),[],0⟩) (fun x=>kD x1 n2 K3 x.1 x.2=some r) (fun x=>x.1) (aY,true,0) LR h ?_)
     rintro⟨k1,b4,n5⟩ h
     cases k1 with
     |zero=>exact nEx h
     |succ k1=>
     obtain⟨C1,hC1⟩:∃C,C=kD x1 n2 K3 k1:=⟨_,rfl⟩;replace h:=(kD.eq_2 ..).symm.trans h
     try rw[<-hC1]at h
     refine aaE (aN [] [] [0,3,4,5,6,18] [5003] trivial ?_);refine cK (decide ((n5:Int)<(lZ x1))) (fun hc2=> ?_) fun hc2=> ?_
     ·replace h:=aE hc2 h;refine aaG (tN ?_);obtain⟨K4,hK4,h⟩:=aI h;refine aaR (α:=Bool) (fun(b7:Bool)=>⟨84,[(0,dN x1),(3,.own 5003),(4,.i (n2:Int)),(5,.bool b7),(6,.i (n5:Int))],(rP l3),[],0⟩) (fun x=>K4 x=some r) ?_ ?_
      ·refine aaJ (aaE ?_);obtain⟨r6,hr6,h⟩:=bind_ok h;obtain⟨ob0p,h⟩:=aB h;obtain⟨ob1p,h⟩:=aB h;obtain⟨ob2,h⟩:=aB h;obtain⟨ob6,h⟩:=aB h;obtain⟨ob15,h⟩:=aB h;refine bB [] [(8,⟨[.agg [.b16 (x1.getD n5 sH).1,.b16 (x1.getD n5 sH).2],.agg [.b16 (dK x1 n2).1,.b16 (dK x1 n2).2]],[],[],[],.bool r6,[],[],[]⟩)] ⟨84,[(0,dN x1),(3,.own 5003),(4,.i (n2:Int)),(5,.bool b4),(6,.i (n5:Int)),(45,.bool (r6&&((aBW x1 n5 n2)||(decide ((n5:Int)<(n2:Int))))))],(rP l3),[],0⟩ (ac6 (iN ob0p) (iN ob1p) (cpT (f135_ok _ _ _ _ _ hr6)) (aaK ob2 (an2 (idA ((r6==true)=true)) (idA ((r6==true)=true)))) (an1 (idA ((r6==true)=true))) (aaK ob6 (an2 (idA ((r6==true)=true)) (idA ((r6==true)=true)))) (an6 (an1 (idA ((r6==true)=true))) (an2 (idA ((r6==true)=true)) (idA ((r6==true)=true))) (an1 (idA ((r6==true)=true))) (an2 (idA (((r6==true)&&((aBW x1 n5 n2)==false))=true)) (idA (((r6==true)&&((aBW x1 n5 n2)==false))=true))) (aaK ob15 (an1 (idA ((r6==true)=true)))) (bqA r6 true))) ?_;refine tN (cK (r6&&((aBW x1 n5 n2)||(decide ((n5:Int)<(n2:Int))))) (fun hc3=> ?_) fun hc3=> ?_)
       ·replace h:=aE hc3 h;refine aZ [] [] [0,3,4,5,6] [5003] trivial ?_;refine kN ?_;exact jN (false) LR h
       ·replace h:=aF hc3 h;refine aaG (kN ?_);exact jN (b4) LR h
      ·rintro b7 h;replace h:=(congrFun hK4 _).symm.trans h;obtain⟨ob18p,h⟩:=aB h;refine aZ [] [] [0,3,4,5,6] [5003] (an1 (iP ob18p)) ?_;rw[hC1]at h;exact lN (_,b7,(n5+1)) LR h (aaM _)
     ·replace h:=aF hc2 h;refine abJ (tE (tE (kS ?_)));exact jN (b4) LR h
    ·rintro b8 h;replace h:=(congrFun hK3 _).symm.trans h;refine aaE (aN [] [] [0,3,4,47] [5003] trivial ?_);refine cK (!b8) (fun hc4=> ?_) fun hc4=> ?_
     ·replace h:=aE hc4 h;refine abJ (tE (kS ?_));exact jN (l3) LR h
     ·replace h:=aF hc4 h;refine aaG (tN (bC [] [] ⟨84,[(0,dN x1),(3,.own 5003),(4,.i (n2:Int)),(7,.i (0:Int))],(rP l3),[],0⟩ trivial ?_));obtain⟨K5,hK5,h⟩:=aI h;refine aaR (fun(x:Nat×(List (rO)))=>match x with|(n13,l14)=>⟨84,[(0,dN x1),(3,.own 5003),(4,.i (n2:Int)),(7,.i (n13:Int))],[(5003,bX l14)],[],0⟩) (fun x=>K5 x=some r) ?_ ?_
      ·refine aaJ (abG (α:=Nat×(Nat×(List (rO)))) (fun x=>match x with|(_,n10,l11)=>⟨84,[(0,dN x1),(3,.own 5003),(4,.i (n2:Int)),(7,.i (n10:Int))],(f104z5 l11),[],0⟩) (fun x=>jZ x1 n2 K5 x.1 x.2=some r) (fun x=>x.1) (aY,0,l3) LR h ?_)
       rintro⟨k2,n10,l11⟩ h
       cases k2 with
       |zero=>exact nEx h
       |succ k2=>
       obtain⟨C2,hC2⟩:∃C,C=jZ x1 n2 K5 k2:=⟨_,rfl⟩;replace h:=(jZ.eq_2 ..).symm.trans h
       try rw[<-hC2]at h
       refine aaE (aaE ?_);obtain⟨r12,hr12,h⟩:=bI h;obtain⟨ob19,h⟩:=aB h;obtain⟨ob22,h⟩:=aB h;obtain⟨ob24,h⟩:=aB h;refine aZ [] [(13,⟨[.agg [.b16 (l11.getD n10 sH).1,.b16 (l11.getD n10 sH).2],.agg [.b16 (dK x1 n2).1,.b16 (dK x1 n2).2]],[],[],[],.i r12,[],[],[]⟩)] [0,3,4,7,63] [5003] (ac6 (aaK ob19 (an2 (idA (((decide ((n10:Int)<(lZ l11)))==true)=true)) (idA (((decide ((n10:Int)<(lZ l11)))==true)=true)))) (aaK ob22 (an1 (idA (((decide ((n10:Int)<(lZ l11)))==true)=true)))) (aaK ob24 (an2 (idA (((decide ((n10:Int)<(lZ l11)))==true)=true)) (idA (((decide ((n10:Int)<(lZ l11)))==true)=true)))) (an1 (idA (((decide ((n10:Int)<(lZ l11)))==true)=true))) (aaK (cpC fun hc=>(f136_ok _ _ _ _ _ (hr12 hc))) (an2 (idA (((decide ((n10:Int)<(lZ l11)))==true)=true)) (idA (((decide ((n10:Int)<(lZ l11)))==true)=true)))) (an1 (idA (((decide ((n10:Int)<(lZ l11)))==true)=true))) (an1 (bqA (decide ((n10:Int)<(lZ l11))) true))) ?_;refine tN (cK ((decide ((n10:Int)<(lZ l11)))&&(decide (r12<(0:Int)))) (fun hc5=> ?_) fun hc5=> ?_)
       ·replace h:=aE hc5 h;refine aaG (tN (aaJ ?_));obtain⟨ob32p,h⟩:=aB h;refine bB [] [] ⟨84,[(0,dN x1),(3,.own 5003),(4,.i (n2:Int)),(7,.i (((n10+1):Nat):Int))],(f104z5 l11),[],0⟩ (an1 (iP ob32p)) ?_;refine kN ?_;rw[hC2]at h;exact lN (_,(n10+1),l11) LR h (aaM _)
       ·replace h:=aF hc5 h;refine abJ (tE (tE (kS ?_)));exact jN (n10,l11) LR h
      ·rintro⟨n13,l14⟩ h;replace h:=(congrFun hK5 _).symm.trans h;refine bC [] [] ⟨84,[(0,dN x1),(3,.own 5003),(4,.i (n2:Int)),(7,.i (n13:Int)),(8,.nils)],[(5003,bX l14)],[],0⟩ trivial ?_;refine aaE (aaS (aaI (adI 5003 rfl rfl) (LR (s':=⟨84,[(0,dN x1),(3,dN l14),(4,.i (n2:Int)),(7,.i (n13:Int)),(8,.nils)],[],[],0⟩))) ?_);obtain⟨ob33p,h⟩:=aB h;obtain⟨ob34,h⟩:=aB h;refine bB [] [] ⟨84,(aBV x1 l14 n2 n13),[(70,.rows 186 2 (0+n13) (bY eWW sH l14))],[],0⟩ (an2 (iL ob33p) ob34) ?_;refine tN ?_;refine aaS (acO (s':=⟨84,(aBV x1 l14 n2 n13),[(70,bX (l14.take n13))],[],0⟩) rfl rfl ⟨.refl _,.refl _,.refl _,.refl _,.refl _,trivial⟩ ⟨⟨_,rfl,(acE (RL.app0 (RL.takeL (by first|omega|(simp only[aaF,aaN,abB,abE,aaZ]at *;omega)|(simp;done)|(simp_all;done)|(simp_all;omega)|rfl))))⟩,trivial⟩) ?_;refine aaE ?_;obtain⟨ob35p,h⟩:=aB h;obtain⟨ob36,h⟩:=aB h;refine bB [] [] ⟨84,(aBV x1 l14 n2 n13),[(70,.rows 186 2 (((l14.take n13)).length+1) (fH ((l14.take n13)).length (bY eWW sH (l14.take n13)) (dE 2 [.b16 (dK x1 n2).1,.b16 (dK x1 n2).2])))],[],0⟩ (an2 (iN ob35p) ob36) ?_;refine tN (aaS (acO (s':=⟨84,(aBV x1 l14 n2 n13),[(70,bX ((l14.take n13)++[((dK x1 n2).1,(dK x1 n2).2)]))],[],0⟩) rfl rfl ⟨.refl _,.refl _,.refl _,.refl _,.refl _,trivial⟩ ⟨⟨_,rfl,(acE (adF (acH _) (acM (enc:=eWW) [((dK x1 n2).1,(dK x1 n2).2)] rfl rfl (fun _=>rfl))))⟩,trivial⟩) ?_);obtain⟨ob37p,h⟩:=aB h;obtain⟨ob38,h⟩:=aB h;refine bB [] [] ⟨84,(f104z6 x1 n2),[(70,.rows 186 2 ((((l14.take n13)++[((dK x1 n2).1,(dK x1 n2).2)])).length+((l14).length-n13)) (fH (((l14.take n13)++[((dK x1 n2).1,(dK x1 n2).2)])).length (bY eWW sH ((l14.take n13)++[((dK x1 n2).1,(dK x1 n2).2)])) (fun i j=>(bY eWW sH l14) (i+n13) j)))],[],0⟩ (an2 (iL ob37p) ob38) ?_;refine kN ?_;exact jN ((((l14.take n13)++[((dK x1 n2).1,(dK x1 n2).2)])++(l14.drop n13))) (aaI (acO (s':=⟨84,(f104z6 x1 n2),[(70,bX (((l14.take n13)++[((dK x1 n2).1,(dK x1 n2).2)])++(l14.drop n13)))],[],0⟩) rfl rfl ⟨.refl _,.refl _,.refl _,trivial⟩ ⟨⟨_,rfl,(acE (adF (acH _) RL.dropL))⟩,trivial⟩) (aaI (aaI (abX (aV 70 5003) (aD 70 5003) rfl) (LR (s':=⟨84,(f104z4 x1 n2),[(5003,bX (((l14.take n13)++[((dK x1 n2).1,(dK x1 n2).2)])++(l14.drop n13)))],[],0⟩))) LR)) h
   ·rintro l9 h;replace h:=(congrFun hK2 _).symm.trans h;obtain⟨ob39p,h⟩:=aB h;refine aZ [] [] [0,3,4] [5003] (an1 (iP ob39p)) ?_;rw[hC0]at h;exact lN (_,(n2+1),l9) LR h (aaM _)
  ·replace h:=aF hc1 h;refine abJ (tE (tE (kS ?_)));exact jN (l3) LR h
 ·rintro l15 h;replace h:=(congrFun hK1 _).symm.trans h;refine bC [] [] ⟨84,[(2,.own 5003)],[(5003,bX l15)],[],0⟩ trivial ?_;refine aaS (aaI (abX (aV 5003 3000) (aD 5003 3000) rfl) (LR (s':=⟨84,[(2,.own 3000)],[(3000,bX l15)],[],0⟩))) ?_;obtain rfl:=aaD h;refine aaS (LR (s':=⟨84,[(2,.own 3000)],[(3000,bX l15)],[],0⟩)) ?_;refine aaH ?_;exact bK
def oG (x1:Int) (x2:List Tq3) (K1:cU->Option cU):Nat->(Nat×cU)->Option cU
 |0,_=>none
 |k+1,(n3,l4)=>
  if((decide ((n3:Int)<(((x2).length:Nat):Int)))&&(decide ((n3:Int)<(6:Int))))then(
  chk ((n3:Int)<(((x2).length:Nat):Int))<|
  chk ((n3:Int)<(((x2).length:Nat):Int))<|
  chk ((n3:Int)<(((x2).length:Nat):Int))<|
  chk (((l4).length+1) *4<=140737488355328)<|
  chk (((n3:Int)+(1:Int))<=9223372036854775807)<|
  (oG x1 x2 K1 k) ((n3+1),(l4++[(((x2.getD n3 (default:Tq3)).1&&&(((BitVec.ofInt 16 1)<<<((x1).toNat))-(BitVec.ofInt 16 1))),(((x2.getD n3 (default:Tq3)).2&&&(((BitVec.ofInt 16 1)<<<((x1).toNat))-(BitVec.ofInt 16 1)))&&& ~~~(x2.getD n3 (default:Tq3)).1))]))
  )else(
  K1 l4
  )
abbrev f73z0 (l4 x2:List Tq3) (n3:Nat) (x1:Int):aJ:=[(12,bL 186 2 eWW (default:Tq3) (l4++[(((x2.getD n3 (default:Tq3)).1&&&(((BitVec.ofInt 16 1)<<<((x1).toNat))-(BitVec.ofInt 16 1))),(((x2.getD n3 (default:Tq3)).2&&&(((BitVec.ofInt 16 1)<<<((x1).toNat))-(BitVec.ofInt 16 1)))&&& ~~~(x2.getD n3 (default:Tq3)).1))]))]
abbrev f73z1 (x2:List Tq3) (x1:Int) (n3:Nat):List (Nat×V):=[(1,vL 2 eWW (default:Tq3) x2),(5,.b16 (((BitVec.ofInt 16 1)<<<((x1).toNat))-(BitVec.ofInt 16 1))),(6,.own 12),(7,.i (n3:Int))]
abbrev vB (x2:List Tq3) (n3:Nat):=(x2.getD n3 (default:Tq3))
abbrev f73z3 :aJ:=[(12,bL 186 2 eWW (default:Tq3) [((BitVec.ofInt 16 0),(BitVec.ofInt 16 0))])]
def f73 (x1:Int) (x2:List Tq3):Option cU:=
 chk (0<=x1)<|
 jn (fun(l5:List Tq3)=>
 (f104 l5).bind fun r6=>
 some r6
 ) fun(K1:cU->Option cU)=>
 oG x1 x2 K1 aY (0,[((BitVec.ofInt 16 0),(BitVec.ofInt 16 0))])
theorem f73_ok (x1:Int) (x2 r:List Tq3) (h:f73 x1 x2=some r):aG Tryz.prog 73 [] [] [] [.i x1,vL 2 eWW (default:Tq3) x2] (.own 3000) [(3000,bL 186 2 eWW (default:Tq3) r)]:=by
 unfold f73 at h;refine aG.body 0 _ _ Tryz.func73 rfl Tryz.ntmps73 rfl rfl ?_;refine aN [] [] [0,1] [] trivial ?_;refine aaE ?_;obtain⟨ob0,h⟩:=aB h;refine aZ [] [] [1,5] [] (an2 ob0 trivial) ?_;refine tN (bC [] [] ⟨49,[(1,dN x2),(5,.b16 (((aL 1)<<<((x1).toNat))-(aL 1))),(6,.own 12)],[(12,.rows 186 2 1 (dE 2 [.b16 (aL 0),.b16 (aL 0)]))],[],0⟩ trivial ?_);refine aaS (acO (s':=⟨49,[(1,dN x2),(5,.b16 (((aL 1)<<<((x1).toNat))-(aL 1))),(6,.own 12)],(f73z3),[],0⟩) rfl rfl ⟨.refl _,.refl _,.refl _,trivial⟩ ⟨⟨_,rfl,(acE (acM (enc:=eWW) [((aL 0),(aL 0))] rfl rfl (fun _=>rfl)))⟩,trivial⟩) ?_;obtain⟨K1,hK1,h⟩:=aI h;refine aaR (α:=List Tq3) (fun(l5:List Tq3)=>⟨49,[(6,.own 12)],[(12,bX l5)],[],0⟩) (fun x=>K1 x=some r) ?_ ?_
 ·refine aN [] [] [1,5,6,7] [12] trivial ?_;refine aaJ (abG (α:=Nat×(Nat×cU)) (fun x=>match x with|(_,n3,l4)=>⟨49,(f73z1 x2 x1 n3),[(12,bX l4)],[],0⟩) (fun x=>oG x1 x2 K1 x.1 x.2=some r) (fun x=>x.1) (aY,0,[((aL 0),(aL 0))]) LR h ?_)
  rintro⟨k0,n3,l4⟩ h
  cases k0 with
  |zero=>exact nEx h
  |succ k0=>
  obtain⟨C0,hC0⟩:∃C,C=oG x1 x2 K1 k0:=⟨_,rfl⟩;replace h:=(oG.eq_2 ..).symm.trans h
  try rw[<-hC0]at h
  refine aaE (aaE (aZ [] [] [1,5,6,7,20] [12] (an2 (an1 (idA (((decide ((n3:Int)<(lZ x2)))==true)=true))) (bqA (decide ((n3:Int)<(lZ x2))) true)) ?_));refine tN (cK ((decide ((n3:Int)<(lZ x2)))&&(decide ((n3:Int)<(6:Int)))) (fun hc1=> ?_) fun hc1=> ?_)
  ·replace h:=aE hc1 h;refine aaG (tN (aaE (aaJ ?_)));obtain⟨ob3p,h⟩:=aB h;obtain⟨ob4p,h⟩:=aB h;obtain⟨ob5p,h⟩:=aB h;obtain⟨ob6,h⟩:=aB h;refine bB [] [] ⟨49,(f73z1 x2 x1 n3),[(12,.rows 186 2 ((l4).length+1) (fH (l4).length (bY eWW sH l4) (dE 2 [.b16 ((vB x2 n3).1&&&(((aL 1)<<<((x1).toNat))-(aL 1))),.b16 (((vB x2 n3).2&&&(((aL 1)<<<((x1).toNat))-(aL 1)))&&& ~~~(vB x2 n3).1)])))],[],0⟩ (an4 (iN ob3p) (iN ob4p) (iN ob5p) ob6) ?_;refine kN (tN (aaS (acO (s':=⟨49,(f73z1 x2 x1 n3),(f73z0 l4 x2 n3 x1),[],0⟩) rfl rfl ⟨.refl _,.refl _,.refl _,.refl _,trivial⟩ ⟨⟨_,rfl,(acE (adF (acH _) (acM (enc:=eWW) [(((vB x2 n3).1&&&(((aL 1)<<<((x1).toNat))-(aL 1))),(((vB x2 n3).2&&&(((aL 1)<<<((x1).toNat))-(aL 1)))&&& ~~~(vB x2 n3).1))] rfl rfl (fun _=>rfl))))⟩,trivial⟩) ?_));obtain⟨ob7p,h⟩:=aB h;refine aZ [] [] [1,5,6,7] [12] (an1 (iP ob7p)) ?_;rw[hC0]at h;exact lN (_,(n3+1),(l4++[(((vB x2 n3).1&&&(((aL 1)<<<((x1).toNat))-(aL 1))),(((vB x2 n3).2&&&(((aL 1)<<<((x1).toNat))-(aL 1)))&&& ~~~(vB x2 n3).1))])) LR h (aaM _)
  ·replace h:=aF hc1 h;refine abJ (tE (tE (kS ?_)));exact jN (l4) LR h
 ·rintro l5 h;replace h:=(congrFun hK1 _).symm.trans h;refine aaE ?_;obtain⟨r6,hr6,h⟩:=bind_ok h;refine bB [] [(1,⟨[dN l5],[],[],[(6001,bX r6)],.own 6001,[6001],[12],[]⟩)] ⟨49,[(4,.own 6001)],[(6001,bX r6)],[],0⟩ (an1 (cpL (c:=true) [(12,bX l5)] [12] [.own 12] (fun _=>(aG.ren (aV 3000 6001) (aD 3000 6001) rfl (f104_ok _ _ hr6))) (fun _=>⟨.refl _,trivial⟩) (.inr ⟨rfl,⟨(fun _ _ _ _=>eWW_flat _ _),trivial⟩⟩))) ?_;refine tN (aaS (aaI (abX (aV 6001 3000) (aD 6001 3000) rfl) (LR (s':=⟨49,[(4,.own 3000)],[(3000,bX r6)],[],0⟩))) ?_);obtain rfl:=aaD h;refine aaS (LR (s':=⟨49,[(4,.own 3000)],[(3000,bX r6)],[],0⟩)) ?_;refine aaH ?_;exact bK
abbrev f54z0 (x7:aaA) (x1 x2:Int):List V:=[.str x7,.i ((1:Int)+(x1%(2:Int))),.b16 (((BitVec.ofInt 16 1)<<<((((1:Int)+(x2%(5:Int)))).toNat))-(BitVec.ofInt 16 1)),.own 6001,.own 6002,.own 6003]
abbrev f54z1 (x1 x2 x3:Int) (x4 x5:aaB) (x6:List Tq3):List V:=[.int .u8 x1,.int .u8 x2,.int .u8 x3,vL 1 eW 0#16 x4,vL 1 eW 0#16 x5,vL 2 eWW (default:Tq3) x6]
def f54 (x1 x2 x3:Int) (x4 x5:aaB) (x6:List Tq3) (x7:aaA):Option Ty1:=
 chk (0<=x2/\1<=(5:Int))<|
 chk (-9223372036854775808<=(x2%(5:Int))/\(x2%(5:Int))<=9223372036854775807)<|
 chk (-9223372036854775808<=((1:Int)+(x2%(5:Int)))/\((1:Int)+(x2%(5:Int)))<=9223372036854775807)<|
 (f72 x1 x2 x3 x4 x5 x6 x4 ((1:Int)+(x2%(5:Int)))).bind fun r8=>
 (f72 x1 x2 x3 x4 x5 x6 x5 ((1:Int)+(x2%(5:Int)))).bind fun r9=>
 chk (0<=x1/\1<=(2:Int))<|
 chk (-9223372036854775808<=(x1%(2:Int))/\(x1%(2:Int))<=9223372036854775807)<|
 chk (-9223372036854775808<=((1:Int)+(x1%(2:Int)))/\((1:Int)+(x1%(2:Int)))<=9223372036854775807)<|
 chk (0<=((1:Int)+(x2%(5:Int))))<|
 (f73 ((1:Int)+(x2%(5:Int))) x6).bind fun r10=>
 some (x7,((1:Int)+(x1%(2:Int))),(((BitVec.ofInt 16 1)<<<((((1:Int)+(x2%(5:Int)))).toNat))-(BitVec.ofInt 16 1)),r8,r9,r10)
theorem f54_ok (x1 x2 x3:Int) (x4 x5:aaB) (x6:List Tq3) (x7:aaA) (r:aaA×Int×BitVec 16×aaB×aaB×cU) (h:f54 x1 x2 x3 x4 x5 x6 x7=some r):aG Tryz.prog 54 [] [] [] [.agg [.int .u8 x1,.int .u8 x2,.int .u8 x3,vL 1 eW 0#16 x4,vL 1 eW 0#16 x5,vL 2 eWW (default:Tq3) x6],.str x7] (.agg [.str r.1,.i r.2.1,.b16 r.2.2.1,vL 1 eW 0#16 r.2.2.2.1,vL 1 eW 0#16 r.2.2.2.2.1,vL 2 eWW (default:Tq3) r.2.2.2.2.2]) []:=by
 unfold f54 at h;refine aG.bodyD [4] 0 _ _ Tryz.func54 rfl Tryz.ntmps54 rfl rfl ?_;refine aN [] [] [1,2,4] [2,4] trivial ?_;refine aaE ?_;obtain⟨ob0,ob1,ob2,h⟩:=ck3 h;refine aZ [] [] [1,2,4,5] [2,4] (an3 ob0 ob1 ob2) ?_;refine tN (aaE ?_);obtain⟨r8,hr8,h⟩:=bind_ok h;obtain⟨r9,hr9,h⟩:=bind_ok h;obtain⟨ob3,ob4,ob5,ob6,h⟩:=ck4 h;refine aZ [] [(13,⟨[.agg (f54z1 x1 x2 x3 x4 x5 x6),gR x4,.i ((1:Int)+(x2%(5:Int)))],[],[],[(6001,aT r8)],.own 6001,[6001],[],[]⟩),(18,⟨[.agg (f54z1 x1 x2 x3 x4 x5 x6),gR x5,.i ((1:Int)+(x2%(5:Int)))],[],[],[(6002,aT r9)],.own 6002,[6002],[],[]⟩)] [2,4,5,6] [2,4,6,6001,6002] (ac6 ob3 ob4 ob5 ob6 trivial (cpT (aG.ren (aV 3000 6001) (aD 3000 6001) rfl (f72_ok _ _ _ _ _ _ _ _ _ hr8))) (an2 (cpT (aG.ren (aV 3000 6002) (aD 3000 6002) rfl (f72_ok _ _ _ _ _ _ _ _ _ hr9))) trivial)) ?_;refine tN (aaE ?_);obtain⟨r10,hr10,h⟩:=bind_ok h;refine aZ [] [(3,⟨[.i ((1:Int)+(x2%(5:Int))),dN x6],[],[],[(6003,bX r10)],.own 6003,[6003],[],[]⟩)] [4,6] [4,6,6001,6002,6003] (an2 (cpT (aG.ren (aV 3000 6003) (aD 3000 6003) rfl (f73_ok _ _ _ hr10))) trivial) ?_;refine tN (bC [] [] ⟨38,[(4,.ptr 4 0)],[(4,.cells 73 (f54z0 x7 x1 x2)),(6001,aT r8),(6002,aT r9),(6003,bX r10)],[],0⟩ (an1 trivial) ?_);refine aaS (aaI (adI 6001 rfl rfl) (LR (s':=⟨38,[(4,.ptr 4 0)],[(4,.cells 73 [.str x7,.i ((1:Int)+(x1%(2:Int))),.b16 (((aL 1)<<<((((1:Int)+(x2%(5:Int)))).toNat))-(aL 1)),gR r8,.own 6002,.own 6003]),(6002,aT r9),(6003,bX r10)],[],0⟩))) ?_;refine aaS (aaI (adI 6002 rfl rfl) (LR (s':=⟨38,[(4,.ptr 4 0)],[(4,.cells 73 [.str x7,.i ((1:Int)+(x1%(2:Int))),.b16 (((aL 1)<<<((((1:Int)+(x2%(5:Int)))).toNat))-(aL 1)),gR r8,gR r9,.own 6003]),(6003,bX r10)],[],0⟩))) ?_;refine aaS (aaI (adI 6003 rfl rfl) (LR (s':=⟨38,[(4,.ptr 4 0)],[(4,.cells 73 [.str x7,.i ((1:Int)+(x1%(2:Int))),.b16 (((aL 1)<<<((((1:Int)+(x2%(5:Int)))).toNat))-(aL 1)),gR r8,gR r9,dN r10])],[],0⟩))) ?_;obtain rfl:=aaD h;refine aaS (LR (s':=⟨38,[(4,.ptr 4 0)],[(4,.cells 73 [.str x7,.i ((1:Int)+(x1%(2:Int))),.b16 (((aL 1)<<<((((1:Int)+(x2%(5:Int)))).toNat))-(aL 1)),gR r8,gR r9,dN r10])],[],0⟩)) ?_;refine aaH ?_;exact bD
def lG (x1:Int) (x4:List Ty3) (K2:((List Ty1)×List Int)->Option Ty9):Nat->(Nat×(List Ty1)×List Int)->Option Ty9
 |0,_=>none
 |k+1,(n6,l7,l8)=>
  if(((decide ((n6:Int)<(((x4).length:Nat):Int)))&&(decide ((n6:Int)<(2:Int))))||((n6:Int)==(0:Int)))then(
  chk (0<=((3:Int)+(x1%(3:Int)))/\1<=(2:Int)/\ -9223372036854775808<=(((3:Int)+(x1%(3:Int)))/(2:Int))/\(((3:Int)+(x1%(3:Int)))/(2:Int))<=9223372036854775807)<|
  chk (0<=((3:Int)+(x1%(3:Int)))/\1<=(2:Int)/\ -9223372036854775808<=(((3:Int)+(x1%(3:Int)))/(2:Int))/\(((3:Int)+(x1%(3:Int)))/(2:Int))<=9223372036854775807)<|
  jn (fun((i9,i10,i11,l12,l13,l14):Int×Int×Int×aaB×aaB×cU)=>
  chk (-9223372036854775808<=(((3:Int)+(x1%(3:Int)))-(1:Int))/\(((3:Int)+(x1%(3:Int)))-(1:Int))<=9223372036854775807)<|
  chk (0<=(((3:Int)+(x1%(3:Int)))-(1:Int))/\(((3:Int)+(x1%(3:Int)))-(1:Int))<=255)<|
  (f54 i9 (((3:Int)+(x1%(3:Int)))-(1:Int)) i11 l12 l13 l14 (([([99,48]:aaA),([99,49]:aaA)]:List Ty0).getD n6 [])).bind fun r15=>
  chk ((n6:Int)<(2:Int))<|
  chk (n6<2)<|
  chk (((l7).length+1) *104<=140737488355328)<|
  chk (((l8).length+1) *8<=140737488355328)<|
  chk (((n6:Int)+(1:Int))<=9223372036854775807)<|
  (lG x1 x4 K2 k) ((n6+1),(l7++[(r15.1,r15.2.1,r15.2.2.1,r15.2.2.2.1,r15.2.2.2.2.1,r15.2.2.2.2.2)]),(l8++[(n6:Int)]))
  ) fun(K3:Ty3->Option Ty9)=>
  if(decide ((n6:Int)<(((x4).length:Nat):Int)))then(
  chk ((n6:Int)<(((x4).length:Nat):Int))<|
  K3 ((x4.getD n6 (default:Int×Int×Int×aaB×aaB×cU)).1,(x4.getD n6 (default:Int×Int×Int×aaB×aaB×cU)).2.1,(x4.getD n6 (default:Int×Int×Int×aaB×aaB×cU)).2.2.1,(x4.getD n6 (default:Int×Int×Int×aaB×aaB×cU)).2.2.2.1,(x4.getD n6 (default:Int×Int×Int×aaB×aaB×cU)).2.2.2.2.1,(x4.getD n6 (default:Int×Int×Int×aaB×aaB×cU)).2.2.2.2.2)
  )else(
  K3 ((0:Int),(0:Int),(1:Int),[(BitVec.ofInt 16 (((3:Int)+(x1%(3:Int)))/(2:Int)))],[(BitVec.ofInt 16 (((3:Int)+(x1%(3:Int)))/(2:Int)))],[])
  )
  )else(
  K2 (l7,l8)
  )
def mQ (x3:Int) (K4:(List Ty4)->Option Ty9):Nat->(Nat×(List Ty4))->Option Ty9
 |0,_=>none
 |k+1,(n18,l19)=>
  chk (0<=x3/\1<=(3:Int))<|
  chk (-9223372036854775808<=(x3%(3:Int))/\(x3%(3:Int))<=9223372036854775807)<|
  if(decide ((n18:Int)<(x3%(3:Int))))then(
  chk ((n18:Int)<(2:Int))<|
  chk (n18<2)<|
  chk (((l19).length+1) *48<=140737488355328)<|
  chk (((n18:Int)+(1:Int))<=9223372036854775807)<|
  (mQ x3 K4 k) ((n18+1),(l19++[((([([107,48]:aaA),([107,49]:aaA)]:List Ty0).getD n18 []),true,[])]))
  )else(
  K4 l19
  )
abbrev eY (x1 x2 x3:Int) (x4:List Ty3):List V:=[.int .u8 x1,.int .u8 x2,.int .u8 x3,vL 6 eT129 (default:Int×Int×Int×aaB×aaB×cU) x4]
abbrev mP (x1:Int) (w5:BitVec 16):List V:=[vL 1 eS [] (([([115,48]:aaA),([115,49]:aaA),([115,50]:aaA),([115,51]:aaA),([115,52]:aaA)]).take ((((3:Int)+(x1%(3:Int)))).toNat)),.own 22,.b16 w5,.own 6003,.own 6004,.nils]
abbrev aCJ (x1:Int) (w5:BitVec 16):List V:=[vL 1 eS [] (([([115,48]:aaA),([115,49]:aaA),([115,50]:aaA),([115,51]:aaA),([115,52]:aaA)]).take ((((3:Int)+(x1%(3:Int)))).toNat)),.own 22,.b16 w5,.own 6003,.own 6004,.own 6005]
abbrev cW :=cU
abbrev dZ :=([104,111,109,101]:aaA)
abbrev pI (x4:List Ty3) (n6:Nat):=(x4.getD n6 (default:Int×Int×Int×aaB×aaB×(cW)))
abbrev f28z6 (x1 x2 x3:Int) (x4:List Ty3):aJ:=[(1,.cells 68 (eY x1 x2 x3 x4)),(2,.cells 37 [.nils,.nils,.b16 (BitVec.ofInt 16 0),.nils,.nils,.nils]),(5,.cells 37 [vL 1 eS [] (([([115,48]:aaA),([115,49]:aaA),([115,50]:aaA),([115,51]:aaA),([115,52]:aaA)]).take ((((3:Int)+(x1%(3:Int)))).toNat)),.own 22,.b16 (BitVec.ofInt 16 0),.nils,.nils,.nils]),(22,bL 126 2 eSW (default:Tq7) [((dZ),(((BitVec.ofInt 16 1)<<<((((3:Int)+(x1%(3:Int)))).toNat))-(BitVec.ofInt 16 1)))])]
abbrev f28z7 (x1 x2 x3:Int) (x4:List Ty3) (w5:BitVec 16):aJ:=[(1,.cells 68 (eY x1 x2 x3 x4)),(2,.cells 37 [.nils,.nils,.b16 (BitVec.ofInt 16 0),.nils,.nils,.nils]),(5,.cells 37 [vL 1 eS [] (([([115,48]:aaA),([115,49]:aaA),([115,50]:aaA),([115,51]:aaA),([115,52]:aaA)]).take ((((3:Int)+(x1%(3:Int)))).toNat)),.own 22,.b16 w5,.nils,.nils,.nils]),(22,bL 126 2 eSW (default:Tq7) [((dZ),(((BitVec.ofInt 16 1)<<<((((3:Int)+(x1%(3:Int)))).toNat))-(BitVec.ofInt 16 1)))])]
abbrev f28z8 (x1:Int) (n6:Nat):List (Nat×V):=[(1,.ptr 1 0),(2,.ptr 2 0),(3,.i ((3:Int)+(x1%(3:Int)))),(5,.ptr 5 0),(6,.i (n6:Int)),(7,.ptr 7 0)]
abbrev f28z9 (x1:Int) (n6:Nat) (x4:List Ty3):List (Nat×V):=[(1,.ptr 1 0),(2,.ptr 2 0),(3,.i ((3:Int)+(x1%(3:Int)))),(5,.ptr 5 0),(6,.i (n6:Int)),(7,.ptr 7 0),(61,.bool (decide ((n6:Int)<(((x4).length:Nat):Int))))]
abbrev f28z10 (x1 x2 x3:Int) (x4:List Ty3) (w5:BitVec 16) (l7:List Ty1) (r15:aaA×Int×BitVec 16×aaB×aaB×cU) (l8:List Int) (n6:Nat):aJ:=[(1,.cells 68 (eY x1 x2 x3 x4)),(2,.cells 37 [.nils,.nils,.b16 (BitVec.ofInt 16 0),.nils,.nils,.nils]),(5,.cells 37 (mP x1 w5)),(22,bL 126 2 eSW (default:Tq7) [((dZ),(((BitVec.ofInt 16 1)<<<((((3:Int)+(x1%(3:Int)))).toNat))-(BitVec.ofInt 16 1)))]),(6003,bL 73 6 dL (default:aaA×Int×BitVec 16×aaB×aaB×(cW)) (l7++[(r15.1,r15.2.1,r15.2.2.1,r15.2.2.2.1,r15.2.2.2.2.1,r15.2.2.2.2.2)])),(6004,bL 3 1 eI 0 (l8++[(n6:Int)]))]
abbrev f28z11 (x1 x2 x3:Int) (x4:List Ty3) (w5:BitVec 16) (l7:List Ty1) (l8:List Int):aJ:=[(1,.cells 68 (eY x1 x2 x3 x4)),(2,.cells 37 [.nils,.nils,.b16 (BitVec.ofInt 16 0),.nils,.nils,.nils]),(5,.cells 37 (mP x1 w5)),(22,bL 126 2 eSW (default:Tq7) [((dZ),(((BitVec.ofInt 16 1)<<<((((3:Int)+(x1%(3:Int)))).toNat))-(BitVec.ofInt 16 1)))]),(6003,bL 73 6 dL (default:aaA×Int×BitVec 16×aaB×aaB×(cW)) l7),(6004,bL 3 1 eI 0 l8)]
abbrev f28z12 (x1:Int):List (Nat×V):=[(1,.ptr 1 0),(2,.ptr 2 0),(3,.i ((3:Int)+(x1%(3:Int)))),(5,.ptr 5 0),(6,.i (0:Int))]
abbrev f28z13 (x1 x2 x3:Int) (x4:List Ty3) (w5:BitVec 16) (l16:List Ty1) (l17:List Int):aJ:=[(1,.cells 68 (eY x1 x2 x3 x4)),(2,.cells 37 [.nils,.nils,.b16 (BitVec.ofInt 16 0),.nils,.nils,.nils]),(5,.cells 37 (mP x1 w5)),(22,bL 126 2 eSW (default:Tq7) [((dZ),(((BitVec.ofInt 16 1)<<<((((3:Int)+(x1%(3:Int)))).toNat))-(BitVec.ofInt 16 1)))]),(6003,bL 73 6 dL (default:aaA×Int×BitVec 16×aaB×aaB×(cW)) l16),(6004,bL 3 1 eI 0 l17)]
abbrev yJ (x1:Int) (n6:Nat):List (Nat×V):=[(1,.ptr 1 0),(2,.ptr 2 0),(3,.i ((3:Int)+(x1%(3:Int)))),(5,.ptr 5 0),(6,.i (n6:Int))]
abbrev aBB (x1:Int):List (Nat×V):=[(1,.ptr 1 0),(2,.ptr 2 0),(3,.i ((3:Int)+(x1%(3:Int)))),(5,.ptr 5 0)]
abbrev iU :=([115,48]:aaA)
abbrev iT :=([115,49]:aaA)
abbrev iS :=([115,50]:aaA)
abbrev iR :=([115,51]:aaA)
abbrev iQ :=([115,52]:aaA)
abbrev f28z21 :List V:=[.int .u8 (0:Int),.int .u8 (0:Int),.int .u8 (1:Int),.own 51,.own 55,.nils]
abbrev f28z22 :List (Nat×V):=[(1,.ptr 1 0),(2,.ptr 2 0),(5,.ptr 5 0),(8,.i (0:Int))]
abbrev f28z23 :=(List (aaA×Int×BitVec 16×aaB×aaB×(cW)))
abbrev f28z24 (x1:Int):List (Nat×V):=[(1,.ptr 1 0),(2,.ptr 2 0),(3,.i ((3:Int)+(x1%(3:Int)))),(4,.own 14)]
abbrev oU :=([107,48]:aaA)
abbrev oT :=([107,49]:aaA)
abbrev f28z27 (n6:Nat):=(decide ((n6:Int)<(2:Int)))
abbrev f28z28 (n18:Nat):List (Nat×V):=[(1,.ptr 1 0),(2,.ptr 2 0),(5,.ptr 5 0),(8,.i (n18:Int))]
def f28 (x1 x2 x3:Int) (x4:List Ty3):Option Ty9:=
 chk (0<=x1/\1<=(3:Int))<|
 chk (-9223372036854775808<=(x1%(3:Int))/\(x1%(3:Int))<=9223372036854775807)<|
 chk (-9223372036854775808<=((3:Int)+(x1%(3:Int)))/\((3:Int)+(x1%(3:Int)))<=9223372036854775807)<|
 chk (0<=((3:Int)+(x1%(3:Int)))/\((3:Int)+(x1%(3:Int)))<=((([([115,48]:aaA),([115,49]:aaA),([115,50]:aaA),([115,51]:aaA),([115,52]:aaA)]).length:Nat):Int))<|
 chk (0<=((3:Int)+(x1%(3:Int))))<|
 jn (fun(w5:BitVec 16)=>
 jn (fun((l16,l17):(List Ty1)×List Int)=>
 jn (fun(l20:List Ty4)=>
 some ((([([115,48]:aaA),([115,49]:aaA),([115,50]:aaA),([115,51]:aaA),([115,52]:aaA)]).take ((((3:Int)+(x1%(3:Int)))).toNat)),w5,[(([104,111,109,101]:aaA),(((BitVec.ofInt 16 1)<<<((((3:Int)+(x1%(3:Int)))).toNat))-(BitVec.ofInt 16 1)))],l16,l17,l20)
 ) fun(K4:(List Ty4)->Option Ty9)=>
 mQ x3 K4 aY (0,[])
 ) fun(K2:((List Ty1)×List Int)->Option Ty9)=>
 lG x1 x4 K2 aY (0,[],[])
 ) fun(K1:(BitVec 16)->Option Ty9)=>
 chk (-9223372036854775808<=x2/\x2<=9223372036854775807)<|
 if(decide (x2<((3:Int)+(x1%(3:Int)))))then(
 chk (0<=x2)<|
 K1 ((BitVec.ofInt 16 1)<<<((x2).toNat))
 )else(
 K1 (BitVec.ofInt 16 0)
 )
theorem f28_ok (x1 x2 x3:Int) (x4:List Ty3) (r:List Ty0×BitVec 16×(List Tq7)×(List Ty1)×List Int×(List Ty4)) (h:f28 x1 x2 x3 x4=some r):aG Tryz.prog 28 [] [] [] [.agg [.int .u8 x1,.int .u8 x2,.int .u8 x3,vL 6 eT129 (default:Int×Int×Int×aaB×aaB×cU) x4]] (.agg [vL 1 eS [] r.1,.own 3000,.b16 r.2.1,.own 3001,.own 3002,.own 3003]) [(3000,bL 126 2 eSW (default:Tq7) r.2.2.1),(3001,bL 73 6 dL (default:aaA×Int×BitVec 16×aaB×aaB×cU) r.2.2.2.1),(3002,bL 3 1 eI 0 r.2.2.2.2.1),(3003,bL 132 3 aX (default:aaA×Bool×cU) r.2.2.2.2.2)]:=by
 unfold f28 at h;refine aG.bodyD [2] 0 _ _ Tryz.func28 rfl Tryz.ntmps28 rfl rfl ?_;refine aN [] [] [1,2] [1,2] trivial ?_;refine aaE ?_;obtain⟨ob0,ob1,ob2,h⟩:=ck3 h;refine aZ [] [] [1,2,3] [1,2] (an3 ob0 ob1 ob2) ?_;refine tN (bC [] [] ⟨107,(f28z24 x1),[(1,.cells 68 (eY x1 x2 x3 x4)),(2,.cells 37 [.nils,.nils,.b16 (aL 0),.nils,.nils,.nils]),(14,.rows 9 1 5 (dE 1 [.str (iU),.str (iT),.str (iS),.str (iR),.str (iQ)]))],[],0⟩ trivial ?_);refine aaS (acO (s':=⟨107,(f28z24 x1),[(1,.cells 68 (eY x1 x2 x3 x4)),(2,.cells 37 [.nils,.nils,.b16 (aL 0),.nils,.nils,.nils]),(14,aU [(iU),(iT),(iS),(iR),(iQ)])],[],0⟩) rfl rfl ⟨.refl _,.refl _,.refl _,.refl _,trivial⟩ ⟨⟨_,rfl,.refl _⟩,⟨_,rfl,.refl _⟩,⟨_,rfl,(acE (acM (enc:=eS) [(iU),(iT),(iS),(iR),(iQ)] rfl rfl (fun _=>rfl)))⟩,trivial⟩) ?_;refine aaE (aaS (aaI (adI 14 rfl rfl) (LR (s':=⟨107,[(1,.ptr 1 0),(2,.ptr 2 0),(3,.i ((3:Int)+(x1%(3:Int)))),(4,cQ [(iU),(iT),(iS),(iR),(iQ)])],[(1,.cells 68 (eY x1 x2 x3 x4)),(2,.cells 37 [.nils,.nils,.b16 (aL 0),.nils,.nils,.nils])],[],0⟩))) ?_);obtain⟨ob3,ob4,h⟩:=ck2 h;refine bB [] [] ⟨107,(aBB x1),[(1,.cells 68 (eY x1 x2 x3 x4)),(2,.cells 37 [.nils,.nils,.b16 (aL 0),.nils,.nils,.nils]),(5,.cells 37 [.arr 1 ((((3:Int)+(x1%(3:Int)))).toNat) (bY eS [] [(iU),(iT),(iS),(iR),(iQ)]),.own 22,.b16 (aL 0),.nils,.nils,.nils]),(22,.rows 126 2 1 (dE 2 [.str (dZ),.b16 (((aL 1)<<<((((3:Int)+(x1%(3:Int)))).toNat))-(aL 1))]))],[],0⟩ (an4 ob3 ob4 trivial trivial) ?_;refine tN ?_;refine aaS (acO (s':=⟨107,(aBB x1),(f28z6 x1 x2 x3 x4),[],0⟩) rfl rfl ⟨.refl _,.refl _,.refl _,.refl _,trivial⟩ ⟨⟨_,rfl,.refl _⟩,⟨_,rfl,.refl _⟩,⟨_,rfl,(.cellsL ⟨(VLe.takeL (by first|omega|(simp only[aaF,aaN,abB,abE,aaZ]at *;omega)|(simp;done)|(simp_all;done)|(simp_all;omega)|rfl)),.refl _,.refl _,.refl _,.refl _,.refl _,trivial⟩)⟩,⟨_,rfl,(acE (acM (enc:=eSW) [((dZ),(((aL 1)<<<((((3:Int)+(x1%(3:Int)))).toNat))-(aL 1)))] rfl rfl (fun _=>rfl)))⟩,trivial⟩) ?_;obtain⟨K1,hK1,h⟩:=aI h;refine aaR (α:=BitVec 16) (fun(w5:BitVec 16)=>⟨107,(aBB x1),(f28z7 x1 x2 x3 x4 w5),[],0⟩) (fun x=>K1 x=some r) ?_ ?_
 ·refine aaE ?_;obtain⟨ob5,h⟩:=aB h;refine aZ [] [] [1,2,3,5,28] [1,2,5,22] (an1 ob5) ?_;refine tN (cK (decide (x2<((3:Int)+(x1%(3:Int))))) (fun hc1=> ?_) fun hc1=> ?_)
  ·replace h:=aE hc1 h;obtain⟨ob6,h⟩:=aB h;refine bB [] [] ⟨107,(aBB x1),[(1,.cells 68 (eY x1 x2 x3 x4)),(2,.cells 37 [.nils,.nils,.b16 (aL 0),.nils,.nils,.nils]),(5,.cells 37 [cQ (([(iU),(iT),(iS),(iR),(iQ)]).take ((((3:Int)+(x1%(3:Int)))).toNat)),.own 22,.b16 ((aL 1)<<<((x2).toNat)),.nils,.nils,.nils]),(22,bR [((dZ),(((aL 1)<<<((((3:Int)+(x1%(3:Int)))).toNat))-(aL 1)))])],[],0⟩ (an2 ob6 trivial) ?_;exact jN (((aL 1)<<<((x2).toNat))) LR h
  ·replace h:=aF hc1 h;refine aaG ?_;exact jN ((aL 0)) LR h
 ·rintro w5 h;replace h:=(congrFun hK1 _).symm.trans h;obtain⟨K2,hK2,h⟩:=aI h;refine aaR (fun(x:(f28z23)×List Int)=>match x with|(l16,l17)=>⟨107,[(1,.ptr 1 0),(2,.ptr 2 0),(5,.ptr 5 0)],(f28z13 x1 x2 x3 x4 w5 l16 l17),[],0⟩) (fun x=>K2 x=some r) ?_ ?_
  ·refine bC [] [] ⟨107,(f28z12 x1),(f28z7 x1 x2 x3 x4 w5),[],0⟩ trivial ?_;refine aaJ (abG (α:=Nat×(Nat×(f28z23)×List Int)) (fun x=>match x with|(_,n6,l7,l8)=>⟨107,(yJ x1 n6),(f28z11 x1 x2 x3 x4 w5 l7 l8),[],0⟩) (fun x=>lG x1 x4 K2 x.1 x.2=some r) (fun x=>x.1) (aY,0,[],[]) (aaI (aaI (Le.nilOwnC 5 3 6003 73 6 (bY dL (default:aaA×Int×BitVec 16×aaB×aaB×(cW)) []) rfl rfl rfl) (LR (s':=⟨107,(f28z12 x1),[(1,.cells 68 (eY x1 x2 x3 x4)),(2,.cells 37 [.nils,.nils,.b16 (aL 0),.nils,.nils,.nils]),(5,.cells 37 [cQ (([(iU),(iT),(iS),(iR),(iQ)]).take ((((3:Int)+(x1%(3:Int)))).toNat)),.own 22,.b16 w5,.own 6003,.nils,.nils]),(22,bR [((dZ),(((aL 1)<<<((((3:Int)+(x1%(3:Int)))).toNat))-(aL 1)))]),(6003,bL 73 6 dL (default:aaA×Int×BitVec 16×aaB×aaB×(cW)) [])],[],0⟩))) (aaI (aaI (Le.nilOwnC 5 4 6004 3 1 (bY eI 0 []) rfl rfl rfl) (LR (s':=⟨107,(f28z12 x1),[(1,.cells 68 (eY x1 x2 x3 x4)),(2,.cells 37 [.nils,.nils,.b16 (aL 0),.nils,.nils,.nils]),(5,.cells 37 (mP x1 w5)),(22,bR [((dZ),(((aL 1)<<<((((3:Int)+(x1%(3:Int)))).toNat))-(aL 1)))]),(6003,bL 73 6 dL (default:aaA×Int×BitVec 16×aaB×aaB×(cW)) []),(6004,cG [])],[],0⟩))) LR)) h ?_)
   rintro⟨k0,n6,l7,l8⟩ h
   cases k0 with
   |zero=>exact nEx h
   |succ k0=>
   obtain⟨C0,hC0⟩:∃C,C=lG x1 x4 K2 k0:=⟨_,rfl⟩;replace h:=(lG.eq_2 ..).symm.trans h
   try rw[<-hC0]at h
   refine aaE (aaE (aZ [] [] [1,2,3,5,6,45] [1,2,5,22,6003,6004] (an4 (an1 (idA (((decide ((n6:Int)<(lZ x4)))==true)=true))) (bqA (decide ((n6:Int)<(lZ x4))) true) (an1 (idA ((((decide ((n6:Int)<(lZ x4)))&&(f28z27 n6))==false)=true))) (bqA ((decide ((n6:Int)<(lZ x4)))&&(f28z27 n6)) false)) ?_));refine tN (cK (((decide ((n6:Int)<(lZ x4)))&&(f28z27 n6))||((n6:Int)==(0:Int))) (fun hc2=> ?_) fun hc2=> ?_)
   ·replace h:=aE hc2 h;refine aaG (tN (aaE (aaJ (aaE ?_))));obtain⟨ob11,ob12,h⟩:=ck2 h;refine bB [] [] ⟨107,(f28z8 x1 n6),[(1,.cells 68 (eY x1 x2 x3 x4)),(2,.cells 37 [.nils,.nils,.b16 (aL 0),.nils,.nils,.nils]),(5,.cells 37 (mP x1 w5)),(7,.cells 129 (f28z21)),(22,bR [((dZ),(((aL 1)<<<((((3:Int)+(x1%(3:Int)))).toNat))-(aL 1)))]),(51,.rows 31 1 1 (dE 1 [.b16 (aL (((3:Int)+(x1%(3:Int)))/(2:Int)))])),(55,.rows 31 1 1 (dE 1 [.b16 (aL (((3:Int)+(x1%(3:Int)))/(2:Int)))])),(6003,bL 73 6 dL (default:aaA×Int×BitVec 16×aaB×aaB×(cW)) l7),(6004,cG l8)],[],0⟩ (an5 ob11 trivial ob12 trivial trivial) ?_;refine tN (aaS (acO (s':=⟨107,(f28z8 x1 n6),[(1,.cells 68 (eY x1 x2 x3 x4)),(2,.cells 37 [.nils,.nils,.b16 (aL 0),.nils,.nils,.nils]),(5,.cells 37 (mP x1 w5)),(7,.cells 129 (f28z21)),(22,bR [((dZ),(((aL 1)<<<((((3:Int)+(x1%(3:Int)))).toNat))-(aL 1)))]),(51,qI [(aL (((3:Int)+(x1%(3:Int)))/(2:Int)))]),(55,qI [(aL (((3:Int)+(x1%(3:Int)))/(2:Int)))]),(6003,bL 73 6 dL (default:aaA×Int×BitVec 16×aaB×aaB×(cW)) l7),(6004,cG l8)],[],0⟩) rfl rfl ⟨.refl _,.refl _,.refl _,.refl _,.refl _,.refl _,trivial⟩ ⟨⟨_,rfl,.refl _⟩,⟨_,rfl,.refl _⟩,⟨_,rfl,.refl _⟩,⟨_,rfl,.refl _⟩,⟨_,rfl,.refl _⟩,⟨_,rfl,(acE (acM (enc:=eW) [(aL (((3:Int)+(x1%(3:Int)))/(2:Int)))] rfl rfl (fun _=>rfl)))⟩,⟨_,rfl,(acE (acM (enc:=eW) [(aL (((3:Int)+(x1%(3:Int)))/(2:Int)))] rfl rfl (fun _=>rfl)))⟩,⟨_,rfl,.refl _⟩,⟨_,rfl,.refl _⟩,trivial⟩) ?_);obtain⟨K3,hK3,h⟩:=aI h;refine aaR (fun(x:Int×Int×Int×aaB×aaB×(cW))=>match x with|(i9,i10,i11,l12,l13,l14)=>⟨107,(f28z8 x1 n6),[(1,.cells 68 (eY x1 x2 x3 x4)),(2,.cells 37 [.nils,.nils,.b16 (aL 0),.nils,.nils,.nils]),(5,.cells 37 (mP x1 w5)),(7,.cells 129 [.int .u8 i9,.int .u8 i10,.int .u8 i11,gR l12,gR l13,dN l14]),(22,bR [((dZ),(((aL 1)<<<((((3:Int)+(x1%(3:Int)))).toNat))-(aL 1)))]),(6003,bL 73 6 dL (default:aaA×Int×BitVec 16×aaB×aaB×(cW)) l7),(6004,cG l8)],[],0⟩) (fun x=>K3 x=some r) ?_ ?_
    ·refine bC [] [] ⟨107,(f28z9 x1 n6 x4),[(1,.cells 68 (eY x1 x2 x3 x4)),(2,.cells 37 [.nils,.nils,.b16 (aL 0),.nils,.nils,.nils]),(5,.cells 37 (mP x1 w5)),(7,.cells 129 (f28z21)),(22,bR [((dZ),(((aL 1)<<<((((3:Int)+(x1%(3:Int)))).toNat))-(aL 1)))]),(51,qI [(aL (((3:Int)+(x1%(3:Int)))/(2:Int)))]),(55,qI [(aL (((3:Int)+(x1%(3:Int)))/(2:Int)))]),(6003,bL 73 6 dL (default:aaA×Int×BitVec 16×aaB×aaB×(cW)) l7),(6004,cG l8)],[],0⟩ trivial ?_;refine cK (decide ((n6:Int)<(lZ x4))) (fun hc3=> ?_) fun hc3=> ?_
     ·replace h:=aE hc3 h;obtain⟨ob13p,h⟩:=aB h;refine bB [] [] ⟨107,(f28z8 x1 n6),[(1,.cells 68 (eY x1 x2 x3 x4)),(2,.cells 37 [.nils,.nils,.b16 (aL 0),.nils,.nils,.nils]),(5,.cells 37 (mP x1 w5)),(7,.cells 129 [.int .u8 (pI x4 n6).1,.int .u8 (pI x4 n6).2.1,.int .u8 (pI x4 n6).2.2.1,gR (pI x4 n6).2.2.2.1,gR (pI x4 n6).2.2.2.2.1,dN (pI x4 n6).2.2.2.2.2]),(22,bR [((dZ),(((aL 1)<<<((((3:Int)+(x1%(3:Int)))).toNat))-(aL 1)))]),(6003,bL 73 6 dL (default:aaA×Int×BitVec 16×aaB×aaB×(cW)) l7),(6004,cG l8)],[],0⟩ (an2 (iN ob13p) trivial) ?_;have eq14:(x4.getD n6 fA).1=((x4.getD n6 fA).1):=by first|omega|(simp only[aaF,aaN,abB,abE,aaZ]at *;omega)|(simp;done)|(simp_all;done)|(simp_all;omega)|rfl
      have eq15:(x4.getD n6 fA).2.1=((x4.getD n6 fA).2.1):=by first|omega|(simp only[aaF,aaN,abB,abE,aaZ]at *;omega)|(simp;done)|(simp_all;done)|(simp_all;omega)|rfl
      have eq16:(x4.getD n6 fA).2.2.1=((x4.getD n6 fA).2.2.1):=by first|omega|(simp only[aaF,aaN,abB,abE,aaZ]at *;omega)|(simp;done)|(simp_all;done)|(simp_all;omega)|rfl
      have eq17:(x4.getD n6 fA).2.2.2.1=((x4.getD n6 fA).2.2.2.1):=by first|omega|(simp only[aaF,aaN,abB,abE,aaZ]at *;omega)|(simp;done)|(simp_all;done)|(simp_all;omega)|rfl
      have eq18:(x4.getD n6 fA).2.2.2.2.1=((x4.getD n6 fA).2.2.2.2.1):=by first|omega|(simp only[aaF,aaN,abB,abE,aaZ]at *;omega)|(simp;done)|(simp_all;done)|(simp_all;omega)|rfl
      have eq19:(x4.getD n6 fA).2.2.2.2.2=((x4.getD n6 fA).2.2.2.2.2):=by first|omega|(simp only[aaF,aaN,abB,abE,aaZ]at *;omega)|(simp;done)|(simp_all;done)|(simp_all;omega)|rfl
      exact jN ((pI x4 n6).1,(pI x4 n6).2.1,(pI x4 n6).2.2.1,(pI x4 n6).2.2.2.1,(pI x4 n6).2.2.2.2.1,(pI x4 n6).2.2.2.2.2) (acO rfl rfl ⟨.refl _,.refl _,.refl _,.refl _,.refl _,.refl _,trivial⟩ ⟨⟨_,rfl,.refl _⟩,⟨_,rfl,.refl _⟩,⟨_,rfl,.refl _⟩,⟨_,rfl,(.cellsL ⟨(.int eq14),(.int eq15),(.int eq16),(.L eq17),(.L eq18),(.L eq19),trivial⟩)⟩,⟨_,rfl,.refl _⟩,⟨_,rfl,.refl _⟩,⟨_,rfl,.refl _⟩,trivial⟩) h
     ·replace h:=aF hc3 h;refine aaG ?_;exact jN ((0:Int),(0:Int),(1:Int),[(aL (((3:Int)+(x1%(3:Int)))/(2:Int)))],[(aL (((3:Int)+(x1%(3:Int)))/(2:Int)))],[]) (aaI (aaI (adI 51 rfl rfl) (LR (s':=⟨107,(f28z9 x1 n6 x4),[(1,.cells 68 (eY x1 x2 x3 x4)),(2,.cells 37 [.nils,.nils,.b16 (aL 0),.nils,.nils,.nils]),(5,.cells 37 (mP x1 w5)),(7,.cells 129 [.int .u8 (0:Int),.int .u8 (0:Int),.int .u8 (1:Int),gR [(aL (((3:Int)+(x1%(3:Int)))/(2:Int)))],.own 55,.nils]),(22,bR [((dZ),(((aL 1)<<<((((3:Int)+(x1%(3:Int)))).toNat))-(aL 1)))]),(55,qI [(aL (((3:Int)+(x1%(3:Int)))/(2:Int)))]),(6003,bL 73 6 dL (default:aaA×Int×BitVec 16×aaB×aaB×(cW)) l7),(6004,cG l8)],[],0⟩))) (aaI (aaI (adI 55 rfl rfl) (LR (s':=⟨107,(f28z9 x1 n6 x4),[(1,.cells 68 (eY x1 x2 x3 x4)),(2,.cells 37 [.nils,.nils,.b16 (aL 0),.nils,.nils,.nils]),(5,.cells 37 (mP x1 w5)),(7,.cells 129 [.int .u8 (0:Int),.int .u8 (0:Int),.int .u8 (1:Int),gR [(aL (((3:Int)+(x1%(3:Int)))/(2:Int)))],gR [(aL (((3:Int)+(x1%(3:Int)))/(2:Int)))],.nils]),(22,bR [((dZ),(((aL 1)<<<((((3:Int)+(x1%(3:Int)))).toNat))-(aL 1)))]),(6003,bL 73 6 dL (default:aaA×Int×BitVec 16×aaB×aaB×(cW)) l7),(6004,cG l8)],[],0⟩))) (acO rfl rfl ⟨.refl _,.refl _,.refl _,.refl _,.refl _,.refl _,trivial⟩ ⟨⟨_,rfl,.refl _⟩,⟨_,rfl,.refl _⟩,⟨_,rfl,.refl _⟩,⟨_,rfl,(.cellsL ⟨.refl _,.refl _,.refl _,.refl _,.refl _,.nilL,trivial⟩)⟩,⟨_,rfl,.refl _⟩,⟨_,rfl,.refl _⟩,⟨_,rfl,.refl _⟩,trivial⟩))) h
    ·rintro⟨i9,i10,i11,l12,l13,l14⟩ h;replace h:=(congrFun hK3 _).symm.trans h;refine aaE ?_;obtain⟨ob20,ob21,h⟩:=ck2 h;refine aZ [] [] [1,2,3,5,6,7] [1,2,5,7,22,6003,6004] (an3 ob20 ob21 trivial) ?_;refine tN (aaE ?_);obtain⟨r15,hr15,h⟩:=bind_ok h;obtain⟨ob22p,h⟩:=aB h;obtain⟨ob23,ob24,h⟩:=ck2 h;refine bB [] [(6,⟨[],[],[],[],.str (([([99,48]:aaA),([99,49]:aaA)]:List Ty0).getD n6 []),[],[0],[]⟩),(7,⟨[.agg [.int .u8 i9,.int .u8 (((3:Int)+(x1%(3:Int)))-(1:Int)),.int .u8 i11,gR l12,gR l13,dN l14],.str (([([99,48]:aaA),([99,49]:aaA)]:List Ty0).getD n6 [])],[],[],[],.agg [.str r15.1,.i r15.2.1,.b16 r15.2.2.1,gR r15.2.2.2.1,gR r15.2.2.2.2.1,dN r15.2.2.2.2.2],[],[],[]⟩)] ⟨107,(yJ x1 n6),[(1,.cells 68 (eY x1 x2 x3 x4)),(2,.cells 37 [.nils,.nils,.b16 (aL 0),.nils,.nils,.nils]),(5,.cells 37 (mP x1 w5)),(22,bR [((dZ),(((aL 1)<<<((((3:Int)+(x1%(3:Int)))).toNat))-(aL 1)))]),(6003,.rows 73 6 ((l7).length+1) (fH (l7).length (bY dL (default:aaA×Int×BitVec 16×aaB×aaB×(cW)) l7) (dE 6 [.str r15.1,.i r15.2.1,.b16 r15.2.2.1,gR r15.2.2.2.1,gR r15.2.2.2.2.1,dN r15.2.2.2.2.2]))),(6004,cG l8)],[],0⟩ (an5 (iN ob22p) (aaK ob23 (show((dE 1 [.str ([99,48]:aaA),.str ([99,49]:aaA)]) n6 0:V)= .str (([([99,48]:aaA),([99,49]:aaA)]:List Ty0).getD n6 [])from(aBc eS [] 1 ([([99,48]:aaA),([99,49]:aaA)]:List Ty0) (fun _=>rfl) (show n6<2 from by assumption) (j:=0) (by decide)))) (cpT (f54_ok _ _ _ _ _ _ _ _ hr15)) ob24 trivial) ?_;refine tN (aaS (acO (s':=⟨107,(yJ x1 n6),[(1,.cells 68 (eY x1 x2 x3 x4)),(2,.cells 37 [.nils,.nils,.b16 (aL 0),.nils,.nils,.nils]),(5,.cells 37 (mP x1 w5)),(22,bR [((dZ),(((aL 1)<<<((((3:Int)+(x1%(3:Int)))).toNat))-(aL 1)))]),(6003,bL 73 6 dL (default:aaA×Int×BitVec 16×aaB×aaB×(cW)) (l7++[(r15.1,r15.2.1,r15.2.2.1,r15.2.2.2.1,r15.2.2.2.2.1,r15.2.2.2.2.2)])),(6004,cG l8)],[],0⟩) rfl rfl ⟨.refl _,.refl _,.refl _,.refl _,.refl _,trivial⟩ ⟨⟨_,rfl,.refl _⟩,⟨_,rfl,.refl _⟩,⟨_,rfl,.refl _⟩,⟨_,rfl,.refl _⟩,⟨_,rfl,(acE (adF (acH _) (RL.lstV (enc:=dL) [(r15.1,r15.2.1,r15.2.2.1,r15.2.2.2.1,r15.2.2.2.2.1,r15.2.2.2.2.2)] rfl ⟨.refl _,.refl _,.refl _,.refl _,.refl _,.refl _,trivial⟩ (fun _=>rfl))))⟩,⟨_,rfl,.refl _⟩,trivial⟩) ?_);obtain⟨ob25,h⟩:=aB h;refine bB [] [] ⟨107,(yJ x1 n6),[(1,.cells 68 (eY x1 x2 x3 x4)),(2,.cells 37 [.nils,.nils,.b16 (aL 0),.nils,.nils,.nils]),(5,.cells 37 (mP x1 w5)),(22,bR [((dZ),(((aL 1)<<<((((3:Int)+(x1%(3:Int)))).toNat))-(aL 1)))]),(6003,bL 73 6 dL (default:aaA×Int×BitVec 16×aaB×aaB×(cW)) (l7++[(r15.1,r15.2.1,r15.2.2.1,r15.2.2.2.1,r15.2.2.2.2.1,r15.2.2.2.2.2)])),(6004,.rows 3 1 ((l8).length+1) (fH (l8).length (bY eI 0 l8) (dE 1 [.i (n6:Int)])))],[],0⟩ (an2 ob25 trivial) ?_;refine kN (tN (aaS (acO (s':=⟨107,(yJ x1 n6),(f28z10 x1 x2 x3 x4 w5 l7 r15 l8 n6),[],0⟩) rfl rfl ⟨.refl _,.refl _,.refl _,.refl _,.refl _,trivial⟩ ⟨⟨_,rfl,.refl _⟩,⟨_,rfl,.refl _⟩,⟨_,rfl,.refl _⟩,⟨_,rfl,.refl _⟩,⟨_,rfl,.refl _⟩,⟨_,rfl,(acE (adF (acH _) (acM (enc:=eI) [(n6:Int)] rfl rfl (fun _=>rfl))))⟩,trivial⟩) ?_));obtain⟨ob26p,h⟩:=aB h;refine aZ [] [] [1,2,3,5,6] [1,2,5,22,6003,6004] (an1 (iP ob26p)) ?_;rw[hC0]at h;exact lN (_,(n6+1),(l7++[(r15.1,r15.2.1,r15.2.2.1,r15.2.2.2.1,r15.2.2.2.2.1,r15.2.2.2.2.2)]),(l8++[(n6:Int)])) LR h (aaM _)
   ·replace h:=aF hc2 h;refine abJ (tE (tE (kS ?_)));exact jN (l7,l8) LR h
  ·rintro⟨l16,l17⟩ h;replace h:=(congrFun hK2 _).symm.trans h;obtain⟨K4,hK4,h⟩:=aI h;refine aaR (α:=List (aaA×Bool×(cW))) (fun(l20:List (aaA×Bool×(cW)))=>⟨107,[(2,.ptr 2 0),(5,.ptr 5 0)],[(2,.cells 37 [.nils,.nils,.b16 (aL 0),.nils,.nils,.nils]),(5,.cells 37 (aCJ x1 w5)),(22,bR [((dZ),(((aL 1)<<<((((3:Int)+(x1%(3:Int)))).toNat))-(aL 1)))]),(6003,bL 73 6 dL (default:aaA×Int×BitVec 16×aaB×aaB×(cW)) l16),(6004,cG l17),(6005,bL 132 3 aX (default:aaA×Bool×(cW)) l20)],[],0⟩) (fun x=>K4 x=some r) ?_ ?_
   ·refine bC [] [] ⟨107,(f28z22),(f28z13 x1 x2 x3 x4 w5 l16 l17),[],0⟩ trivial ?_;refine aaJ (abG (α:=Nat×(Nat×(List (aaA×Bool×(cW))))) (fun x=>match x with|(_,n18,l19)=>⟨107,(f28z28 n18),[(1,.cells 68 (eY x1 x2 x3 x4)),(2,.cells 37 [.nils,.nils,.b16 (aL 0),.nils,.nils,.nils]),(5,.cells 37 (aCJ x1 w5)),(22,bR [((dZ),(((aL 1)<<<((((3:Int)+(x1%(3:Int)))).toNat))-(aL 1)))]),(6003,bL 73 6 dL (default:aaA×Int×BitVec 16×aaB×aaB×(cW)) l16),(6004,cG l17),(6005,bL 132 3 aX (default:aaA×Bool×(cW)) l19)],[],0⟩) (fun x=>mQ x3 K4 x.1 x.2=some r) (fun x=>x.1) (aY,0,[]) (aaI (aaI (Le.nilOwnC 5 5 6005 132 3 (bY aX (default:aaA×Bool×(cW)) []) rfl rfl rfl) (LR (s':=⟨107,(f28z22),[(1,.cells 68 (eY x1 x2 x3 x4)),(2,.cells 37 [.nils,.nils,.b16 (aL 0),.nils,.nils,.nils]),(5,.cells 37 (aCJ x1 w5)),(22,bR [((dZ),(((aL 1)<<<((((3:Int)+(x1%(3:Int)))).toNat))-(aL 1)))]),(6003,bL 73 6 dL (default:aaA×Int×BitVec 16×aaB×aaB×(cW)) l16),(6004,cG l17),(6005,bL 132 3 aX (default:aaA×Bool×(cW)) [])],[],0⟩))) LR) h ?_)
    rintro⟨k1,n18,l19⟩ h
    cases k1 with
    |zero=>exact nEx h
    |succ k1=>
    obtain⟨C1,hC1⟩:∃C,C=mQ x3 K4 k1:=⟨_,rfl⟩;replace h:=(mQ.eq_2 ..).symm.trans h
    try rw[<-hC1]at h
    refine aaE (aaE ?_);obtain⟨ob27,ob28,h⟩:=ck2 h;refine aZ [] [] [1,2,5,8,93] [1,2,5,22,6003,6004,6005] (an2 ob27 ob28) ?_;refine tN (cK (decide ((n18:Int)<(x3%(3:Int)))) (fun hc4=> ?_) fun hc4=> ?_)
    ·replace h:=aE hc4 h;refine aaG (tN (aaE (aaJ ?_)));obtain⟨ob29p,h⟩:=aB h;obtain⟨ob30,ob31,h⟩:=ck2 h;refine bB [] [(5,⟨[],[],[],[],.str (([(oU),(oT)]:List Ty0).getD n18 []),[],[0],[]⟩)] ⟨107,(f28z28 n18),[(1,.cells 68 (eY x1 x2 x3 x4)),(2,.cells 37 [.nils,.nils,.b16 (aL 0),.nils,.nils,.nils]),(5,.cells 37 (aCJ x1 w5)),(22,bR [((dZ),(((aL 1)<<<((((3:Int)+(x1%(3:Int)))).toNat))-(aL 1)))]),(6003,bL 73 6 dL (default:aaA×Int×BitVec 16×aaB×aaB×(cW)) l16),(6004,cG l17),(6005,.rows 132 3 ((l19).length+1) (fH (l19).length (bY aX (default:aaA×Bool×(cW)) l19) (dE 3 [.str (([(oU),(oT)]:List Ty0).getD n18 []),.bool true,.nils])))],[],0⟩ (an4 (iN ob29p) (aaK ob30 (show((dE 1 [.str (oU),.str (oT)]) n18 0:V)= .str (([(oU),(oT)]:List Ty0).getD n18 [])from(aBc eS [] 1 ([(oU),(oT)]:List Ty0) (fun _=>rfl) (show n18<2 from by assumption) (j:=0) (by decide)))) ob31 trivial) ?_;refine kN (tN (aaS (acO (s':=⟨107,(f28z28 n18),[(1,.cells 68 (eY x1 x2 x3 x4)),(2,.cells 37 [.nils,.nils,.b16 (aL 0),.nils,.nils,.nils]),(5,.cells 37 (aCJ x1 w5)),(22,bR [((dZ),(((aL 1)<<<((((3:Int)+(x1%(3:Int)))).toNat))-(aL 1)))]),(6003,bL 73 6 dL (default:aaA×Int×BitVec 16×aaB×aaB×(cW)) l16),(6004,cG l17),(6005,bL 132 3 aX (default:aaA×Bool×(cW)) (l19++[((([(oU),(oT)]:List Ty0).getD n18 []),true,[])]))],[],0⟩) rfl rfl ⟨.refl _,.refl _,.refl _,.refl _,trivial⟩ ⟨⟨_,rfl,.refl _⟩,⟨_,rfl,.refl _⟩,⟨_,rfl,.refl _⟩,⟨_,rfl,.refl _⟩,⟨_,rfl,.refl _⟩,⟨_,rfl,.refl _⟩,⟨_,rfl,(acE (adF (acH _) (RL.lstV (enc:=aX) [((([(oU),(oT)]:List Ty0).getD n18 []),true,[])] rfl ⟨.refl _,.refl _,.nilL,trivial⟩ (fun _=>rfl))))⟩,trivial⟩) ?_));obtain⟨ob32p,h⟩:=aB h;refine aZ [] [] [1,2,5,8] [1,2,5,22,6003,6004,6005] (an1 (iP ob32p)) ?_;rw[hC1]at h;exact lN (_,(n18+1),(l19++[((([(oU),(oT)]:List Ty0).getD n18 []),true,[])])) LR h (aaM _)
    ·replace h:=aF hc4 h;refine abJ (tE (tE (kS ?_)));exact jN (l19) LR h
   ·rintro l20 h;replace h:=(congrFun hK4 _).symm.trans h;refine bC [] [] ⟨107,[(2,.ptr 2 0)],[(2,.cells 37 (aCJ x1 w5)),(22,bR [((dZ),(((aL 1)<<<((((3:Int)+(x1%(3:Int)))).toNat))-(aL 1)))]),(6003,bL 73 6 dL (default:aaA×Int×BitVec 16×aaB×aaB×(cW)) l16),(6004,cG l17),(6005,bL 132 3 aX (default:aaA×Bool×(cW)) l20)],[],0⟩ (an1 trivial) ?_;refine aaS (aaI (abX (aV 22 3000) (aD 22 3000) rfl) (LR (s':=⟨107,[(2,.ptr 2 0)],[(2,.cells 37 [cQ (([(iU),(iT),(iS),(iR),(iQ)]).take ((((3:Int)+(x1%(3:Int)))).toNat)),.own 3000,.b16 w5,.own 6003,.own 6004,.own 6005]),(3000,bR [((dZ),(((aL 1)<<<((((3:Int)+(x1%(3:Int)))).toNat))-(aL 1)))]),(6003,bL 73 6 dL (default:aaA×Int×BitVec 16×aaB×aaB×(cW)) l16),(6004,cG l17),(6005,bL 132 3 aX (default:aaA×Bool×(cW)) l20)],[],0⟩))) ?_;refine aaS (aaI (abX (aV 6003 3001) (aD 6003 3001) rfl) (LR (s':=⟨107,[(2,.ptr 2 0)],[(2,.cells 37 [cQ (([(iU),(iT),(iS),(iR),(iQ)]).take ((((3:Int)+(x1%(3:Int)))).toNat)),.own 3000,.b16 w5,.own 3001,.own 6004,.own 6005]),(3000,bR [((dZ),(((aL 1)<<<((((3:Int)+(x1%(3:Int)))).toNat))-(aL 1)))]),(3001,bL 73 6 dL (default:aaA×Int×BitVec 16×aaB×aaB×(cW)) l16),(6004,cG l17),(6005,bL 132 3 aX (default:aaA×Bool×(cW)) l20)],[],0⟩))) ?_;refine aaS (aaI (abX (aV 6004 3002) (aD 6004 3002) rfl) (LR (s':=⟨107,[(2,.ptr 2 0)],[(2,.cells 37 [cQ (([(iU),(iT),(iS),(iR),(iQ)]).take ((((3:Int)+(x1%(3:Int)))).toNat)),.own 3000,.b16 w5,.own 3001,.own 3002,.own 6005]),(3000,bR [((dZ),(((aL 1)<<<((((3:Int)+(x1%(3:Int)))).toNat))-(aL 1)))]),(3001,bL 73 6 dL (default:aaA×Int×BitVec 16×aaB×aaB×(cW)) l16),(3002,cG l17),(6005,bL 132 3 aX (default:aaA×Bool×(cW)) l20)],[],0⟩))) ?_;refine aaS (aaI (abX (aV 6005 3003) (aD 6005 3003) rfl) (LR (s':=⟨107,[(2,.ptr 2 0)],[(2,.cells 37 [cQ (([(iU),(iT),(iS),(iR),(iQ)]).take ((((3:Int)+(x1%(3:Int)))).toNat)),.own 3000,.b16 w5,.own 3001,.own 3002,.own 3003]),(3000,bR [((dZ),(((aL 1)<<<((((3:Int)+(x1%(3:Int)))).toNat))-(aL 1)))]),(3001,bL 73 6 dL (default:aaA×Int×BitVec 16×aaB×aaB×(cW)) l16),(3002,cG l17),(3003,bL 132 3 aX (default:aaA×Bool×(cW)) l20)],[],0⟩))) ?_;obtain rfl:=aaD h;refine aaS (LR (s':=⟨107,[(2,.ptr 2 0)],[(3000,bR [((dZ),(((aL 1)<<<((((3:Int)+(x1%(3:Int)))).toNat))-(aL 1)))]),(3001,bL 73 6 dL (default:aaA×Int×BitVec 16×aaB×aaB×(cW)) l16),(3002,cG l17),(3003,bL 132 3 aX (default:aaA×Bool×(cW)) l20),(2,.cells 37 [cQ (([(iU),(iT),(iS),(iR),(iQ)]).take ((((3:Int)+(x1%(3:Int)))).toNat)),.own 3000,.b16 w5,.own 3001,.own 3002,.own 3003])],[],0⟩)) ?_;refine aaH ?_;exact bD
abbrev gK (x7:Int):=(decide (x7>=(0:Int)))
def f74 (x1:List Ty0) (x2:List Tq7) (x3:BitVec 16) (x4:List Ty1) (x5:List Int) (x6:List Ty4) (x7:Int):Option Bool:=
 chk ((((decide (x7>=(0:Int)))&&(decide (x7<(((x5).length:Nat):Int))))==true)=true->0<=x7/\x7<(((x5).length:Nat):Int))<|
 chk (((((decide (x7>=(0:Int)))&&(decide (x7<(((x5).length:Nat):Int))))&&(decide ((x5.getD ((x7).toNat) 0)>=(0:Int))))==true)=true->0<=x7/\x7<(((x5).length:Nat):Int))<|
 some ((((decide (x7>=(0:Int)))&&(decide (x7<(((x5).length:Nat):Int))))&&(decide ((x5.getD ((x7).toNat) 0)>=(0:Int))))&&(decide ((x5.getD ((x7).toNat) 0)<(((x4).length:Nat):Int))))
theorem f74_ok (x1:List Ty0) (x2:List Tq7) (x3:BitVec 16) (x4:List Ty1) (x5:List Int) (x6:List Ty4) (x7:Int) (r:Bool) (h:f74 x1 x2 x3 x4 x5 x6 x7=some r):aG Tryz.prog 74 [] [] [] [.agg [vL 1 eS [] x1,vL 2 eSW (default:Tq7) x2,.b16 x3,vL 6 dL (default:aaA×Int×BitVec 16×aaB×aaB×cU) x4,vL 1 eI 0 x5,vL 3 aX (default:aaA×Bool×cU) x6],.i x7] (.bool r) []:=by
 unfold f74 at h;refine aG.body 0 _ _ Tryz.func74 rfl Tryz.ntmps74 rfl rfl ?_;refine aN [] [] [1,2] [2] trivial ?_;refine aaE ?_;obtain⟨ob6,h⟩:=aB h;obtain⟨ob13,h⟩:=aB h;refine bB [] [] ⟨33,[(4,.bool ((((gK x7)&&(decide (x7<(lZ x5))))&&(decide ((x5.getD ((x7).toNat) 0)>=(0:Int))))&&(decide ((x5.getD ((x7).toNat) 0)<(lZ x4)))))],[],[],0⟩ (ac6 (an1 (idA (((gK x7)==true)=true))) (an1 (idA (((gK x7)==true)=true))) (an2 (idA (((gK x7)==true)=true)) (idA (((gK x7)==true)=true))) (bqA (gK x7) true) (an1 (idA ((((gK x7)&&(decide (x7<(lZ x5))))==true)=true))) (aaK ob6 (an2 (idA ((((gK x7)&&(decide (x7<(lZ x5))))==true)=true)) (idA ((((gK x7)&&(decide (x7<(lZ x5))))==true)=true)))) (ac6 (an1 (idA ((((gK x7)&&(decide (x7<(lZ x5))))==true)=true))) (an1 (idA ((((gK x7)&&(decide (x7<(lZ x5))))==true)=true))) (bqA ((gK x7)&&(decide (x7<(lZ x5)))) true) (an1 (idA (((((gK x7)&&(decide (x7<(lZ x5))))&&(decide ((x5.getD ((x7).toNat) 0)>=(0:Int))))==true)=true))) (aaK ob13 (an2 (idA (((((gK x7)&&(decide (x7<(lZ x5))))&&(decide ((x5.getD ((x7).toNat) 0)>=(0:Int))))==true)=true)) (idA (((((gK x7)&&(decide (x7<(lZ x5))))&&(decide ((x5.getD ((x7).toNat) 0)>=(0:Int))))==true)=true)))) (an1 (idA (((((gK x7)&&(decide (x7<(lZ x5))))&&(decide ((x5.getD ((x7).toNat) 0)>=(0:Int))))==true)=true))) (an4 (an1 (idA (((((gK x7)&&(decide (x7<(lZ x5))))&&(decide ((x5.getD ((x7).toNat) 0)>=(0:Int))))==true)=true))) (an1 (idA (((((gK x7)&&(decide (x7<(lZ x5))))&&(decide ((x5.getD ((x7).toNat) 0)>=(0:Int))))==true)=true))) (an2 (idA (((((gK x7)&&(decide (x7<(lZ x5))))&&(decide ((x5.getD ((x7).toNat) 0)>=(0:Int))))==true)=true)) (idA (((((gK x7)&&(decide (x7<(lZ x5))))&&(decide ((x5.getD ((x7).toNat) 0)>=(0:Int))))==true)=true))) (bqA (((gK x7)&&(decide (x7<(lZ x5))))&&(decide ((x5.getD ((x7).toNat) 0)>=(0:Int)))) true)))) ?_;refine tN ?_;obtain rfl:=aaD h;refine aaH ?_;exact bK
abbrev f55z0 (r9 x8:Bool):=((r9==true)&&((!x8)==false))
abbrev f55z1 :=cU
def f55 (x1:List Ty0) (x2:List Tq7) (x3:BitVec 16) (x4:List Ty1) (x5:List Int) (x6:List Ty4) (x7:Int) (x8:Bool):Option Bool:=
 (f74 x1 x2 x3 x4 x5 x6 x7).bind fun r9=>
 eO ((r9==true)&&((!x8)==false)) (f74 x1 x2 x3 x4 x5 x6 (x7+(1:Int))) fun r10=>
 chk (((r9==true)&&((!x8)==false))=true-> -9223372036854775808<=(x7+(1:Int))/\(x7+(1:Int))<=9223372036854775807)<|
 chk ((r9==true)=true->(r9==true)=true->(!x8)=false->((r9==true)&&((!x8)==false))=true)<|
 some (r9&&((!x8)||r10))
theorem f55_ok (x1:List Ty0) (x2:List Tq7) (x3:BitVec 16) (x4:List Ty1) (x5:List Int) (x6:List Ty4) (x7:Int) (x8 r:Bool) (h:f55 x1 x2 x3 x4 x5 x6 x7 x8=some r):aG Tryz.prog 55 [] [] [] [.agg [vL 1 eS [] x1,vL 2 eSW (default:Tq7) x2,.b16 x3,vL 6 dL (default:aaA×Int×BitVec 16×aaB×aaB×cU) x4,vL 1 eI 0 x5,vL 3 aX (default:aaA×Bool×cU) x6],.agg [.i x7,.bool x8]] (.bool r) []:=by
 unfold f55 at h;refine aG.body 0 _ _ Tryz.func55 rfl Tryz.ntmps55 rfl rfl ?_;refine aN [] [] [2,3] [2,3] trivial ?_;refine aaE ?_;obtain⟨r9,hr9,h⟩:=bind_ok h;obtain⟨r10,hr10,h⟩:=bI h;obtain⟨ob4,h⟩:=aB h;obtain⟨ob8,h⟩:=aB h;refine bB [] [(3,⟨[.agg [cQ x1,dI x2,.b16 x3,vL 6 dL (default:aaA×Int×BitVec 16×aaB×aaB×(f55z1)) x4,fB x5,vL 3 aX (default:aaA×Bool×(f55z1)) x6],.i x7],[],[],[],.bool r9,[],[],[]⟩),(13,⟨[.agg [cQ x1,dI x2,.b16 x3,vL 6 dL (default:aaA×Int×BitVec 16×aaB×aaB×(f55z1)) x4,fB x5,vL 3 aX (default:aaA×Bool×(f55z1)) x6],.i (x7+(1:Int))],[],[],[],.bool r10,[],[],[]⟩)] ⟨21,[(4,.bool (r9&&((!x8)||r10)))],[],[],0⟩ (ac6 (cpT (f74_ok _ _ _ _ _ _ _ _ hr9)) (an1 (idA ((r9==true)=true))) (an1 (idA ((r9==true)=true))) (an1 (idA ((r9==true)=true))) (an1 (idA ((f55z0 r9 x8)=true))) (aaK ob4 (an1 (idA ((f55z0 r9 x8)=true)))) (an3 (aaK (cpC fun hc=>(f74_ok _ _ _ _ _ _ _ _ (hr10 hc))) (an2 (idA ((f55z0 r9 x8)=true)) (idA ((f55z0 r9 x8)=true)))) (aaK ob8 (an1 (idA ((r9==true)=true)))) (bqA r9 true))) ?_;refine tN ?_;obtain rfl:=aaD h;refine aaH ?_;exact bK
abbrev f29z0 :=cU
abbrev f29z1 :List V:=[.str [],.i (0:Int),.b16 (BitVec.ofInt 16 0),.nils,.nils,.nils]
def f29 (x1:List Ty0) (x2:List Tq7) (x3:BitVec 16) (x4:List Ty1) (x5:List Int) (x6:List Ty4) (x7:Int) (x8:Bool):Option (aaA×Int×BitVec 16×aaB×aaB×cU×Int):=
 (f55 x1 x2 x3 x4 x5 x6 x7 x8).bind fun r9=>
 if(!r9)then(
 some ([],(0:Int),(BitVec.ofInt 16 0),[],[],[],(7:Int))
 )else(
 if x8 then(
 none
 )else(
 chk (0<=x7/\x7<(((x5).length:Nat):Int))<|
 chk (0<=(x5.getD ((x7).toNat) 0)/\(x5.getD ((x7).toNat) 0)<(((x4).length:Nat):Int))<|
 some ((x4.getD (((x5.getD ((x7).toNat) 0)).toNat) (default:aaA×Int×BitVec 16×aaB×aaB×cU)).1,(x4.getD (((x5.getD ((x7).toNat) 0)).toNat) (default:aaA×Int×BitVec 16×aaB×aaB×cU)).2.1,(x4.getD (((x5.getD ((x7).toNat) 0)).toNat) (default:aaA×Int×BitVec 16×aaB×aaB×cU)).2.2.1,(x4.getD (((x5.getD ((x7).toNat) 0)).toNat) (default:aaA×Int×BitVec 16×aaB×aaB×cU)).2.2.2.1,(x4.getD (((x5.getD ((x7).toNat) 0)).toNat) (default:aaA×Int×BitVec 16×aaB×aaB×cU)).2.2.2.2.1,(x4.getD (((x5.getD ((x7).toNat) 0)).toNat) (default:aaA×Int×BitVec 16×aaB×aaB×cU)).2.2.2.2.2,(0:Int))
 )
 )
theorem f29_ok (x1:List Ty0) (x2:List Tq7) (x3:BitVec 16) (x4:List Ty1) (x5:List Int) (x6:List Ty4) (x7:Int) (x8:Bool) (r:aaA×Int×BitVec 16×aaB×aaB×cU×Int) (h:f29 x1 x2 x3 x4 x5 x6 x7 x8=some r):aG Tryz.prog 29 [] [] [] [.agg [vL 1 eS [] x1,vL 2 eSW (default:Tq7) x2,.b16 x3,vL 6 dL (default:aaA×Int×BitVec 16×aaB×aaB×cU) x4,vL 1 eI 0 x5,vL 3 aX (default:aaA×Bool×cU) x6],.agg [.i x7,.bool x8]] (.tup [.agg [.str r.1,.i r.2.1,.b16 r.2.2.1,vL 1 eW 0#16 r.2.2.2.1,vL 1 eW 0#16 r.2.2.2.2.1,vL 2 eWW (default:Tq3) r.2.2.2.2.2.1],.i r.2.2.2.2.2.2]) []:=by
 unfold f29 at h;refine aG.bodyD [4] 0 _ _ Tryz.func29 rfl Tryz.ntmps29 rfl rfl ?_;refine aN [] [] [2,3,4] [2,3,4] trivial ?_;refine aaE (aaE ?_);obtain⟨r9,hr9,h⟩:=bind_ok h;refine aZ [] [(2,⟨[.agg [cQ x1,dI x2,.b16 x3,vL 6 dL (default:aaA×Int×BitVec 16×aaB×aaB×(f29z0)) x4,fB x5,vL 3 aX (default:aaA×Bool×(f29z0)) x6],.agg [.i x7,.bool x8]],[],[],[],.bool r9,[],[],[]⟩)] [2,3,4,9] [2,3,4] (an1 (cpT (f55_ok _ _ _ _ _ _ _ _ _ hr9))) ?_;refine tN (cK (!r9) (fun hc1=> ?_) fun hc1=> ?_)
 ·replace h:=aE hc1 h;refine bC [] [] ⟨47,[(4,.ptr 4 0),(5,.i (7:Int))],[(4,.cells 73 (f29z1))],[],0⟩ (an1 trivial) ?_;obtain rfl:=aaD h;refine aaS (acO (s':=⟨47,[(4,.ptr 4 0),(5,.i (7:Int))],[(4,.cells 73 [.str [],.i (0:Int),.b16 (aL 0),gR [],gR [],dN []])],[],0⟩) rfl rfl ⟨.refl _,.refl _,trivial⟩ ⟨⟨_,rfl,(.cellsL ⟨.refl _,.refl _,.refl _,.nilL,.nilL,.nilL,trivial⟩)⟩,trivial⟩) ?_;refine aaH (tR ?_);exact bD
 ·replace h:=aF hc1 h;refine aaG (tN (aaE (bC [] [] ⟨47,[(2,.ptr 2 0),(3,.ptr 3 0),(4,.ptr 4 0),(12,.bool x8)],[(2,.cells 37 [cQ x1,dI x2,.b16 x3,vL 6 dL (default:aaA×Int×BitVec 16×aaB×aaB×(f29z0)) x4,fB x5,vL 3 aX (default:aaA×Bool×(f29z0)) x6]),(3,.cells 77 [.i x7,.bool x8]),(4,.cells 73 (f29z1))],[],0⟩ trivial ?_)));refine cK x8 (fun hc2=> ?_) fun hc2=> ?_
  ·replace h:=aE hc2 h;refine aaE ?_;exact nEx h
  ·replace h:=aF hc2 h;refine aaG (tN (aaE ?_));obtain⟨ob0,ob1,h⟩:=ck2 h;refine aZ [] [] [4,5] [4] (an3 ob0 ob1 trivial) ?_;refine tN ?_;obtain rfl:=aaD h;refine aaH ?_;exact bD
def oR (x7:List Y51) (n9:Nat) (K2:(Nat×Nat)->Option Ty0):Nat->(Nat×Nat×Nat)->Option Ty0
 |0,_=>none
 |k+1,(n10,n11,n12)=>
  if(decide ((n12:Int)<(((x7).length:Nat):Int)))then(
  jn (fun((n14,n15):Nat×Nat)=>
  chk (((n12:Int)+(1:Int))<=9223372036854775807)<|
  (oR x7 n9 K2 k) (n14,n15,(n12+1))
  ) fun(K3:(Nat×Nat)->Option Ty0)=>
  chk ((n12:Int)<(((x7).length:Nat):Int))<|
  eO (((x7.getD n12 (default:Y51)).2.2.1 !=(n9:Int))==false) (f57 ((x7.getD n12 (default:Y51)).1) ((x7.getD n12 (default:Y51)).2.1) ((x7.getD n12 (default:Y51)).2.2.1) ((x7.getD n12 (default:Y51)).2.2.2.1) ((x7.getD n12 (default:Y51)).2.2.2.2.1) ((x7.getD n12 (default:Y51)).2.2.2.2.2.1) ((x7.getD n12 (default:Y51)).2.2.2.2.2.2)) fun r13=>
  if(((x7.getD n12 (default:Y51)).2.2.1 !=(n9:Int))||(!r13))then(
  K3 (n10,n11)
  )else(
  if((x7.getD n12 (default:Y51)).2.1==(3:Int))then(
  chk (((n10:Int)+(1:Int))<=9223372036854775807)<|
  K3 ((n10+1),n11)
  )else(
  if((x7.getD n12 (default:Y51)).2.1==(2:Int))then(
  chk (((n11:Int)+(1:Int))<=9223372036854775807)<|
  K3 (n10,(n11+1))
  )else(
  K3 (n10,n11)
  )
  )
  )
  )else(
  K2 (n10,n11)
  )
def oS (x6:List Ty4) (x7:List Y51) (K1:Ty0->Option Ty0):Nat->(aaA×Nat)->Option Ty0
 |0,_=>none
 |k+1,(s8,n9)=>
  if(decide ((n9:Int)<(((x6).length:Nat):Int)))then(
  chk ((n9:Int)<(((x6).length:Nat):Int))<|
  jn (fun((n16,n17):Nat×Nat)=>
  (f58 (n16:Int)).bind fun r18=>
  (f58 (n17:Int)).bind fun r19=>
  chk (((x6.getD n9 (default:aaA×Bool×cU)).1).length+([58,32]:aaA).length<=9223372036854775807)<|
  chk ((((x6.getD n9 (default:aaA×Bool×cU)).1)++([58,32]:aaA)).length+r18.length<=9223372036854775807)<|
  chk (((((x6.getD n9 (default:aaA×Bool×cU)).1)++([58,32]:aaA))++r18).length+aAO.length<=9223372036854775807)<|
  chk ((((((x6.getD n9 (default:aaA×Bool×cU)).1)++([58,32]:aaA))++r18)++aAO).length+r19.length<=9223372036854775807)<|
  chk (((((((x6.getD n9 (default:aaA×Bool×cU)).1)++([58,32]:aaA))++r18)++aAO)++r19).length+cs12.length<=9223372036854775807)<|
  chk (s8.length+(((((((x6.getD n9 (default:aaA×Bool×cU)).1)++([58,32]:aaA))++r18)++aAO)++r19)++cs12).length<=9223372036854775807)<|
  chk (((n9:Int)+(1:Int))<=9223372036854775807)<|
  (oS x6 x7 K1 k) ((s8++(((((((x6.getD n9 (default:aaA×Bool×cU)).1)++([58,32]:aaA))++r18)++aAO)++r19)++cs12)),(n9+1))
  ) fun(K2:(Nat×Nat)->Option Ty0)=>
  oR x7 n9 K2 aY (0,0,0)
  )else(
  K1 s8
  )
abbrev cI :=cU
def f30 (x1:List Ty0) (x2:List Tq7) (x3:BitVec 16) (x4:List Ty1) (x5:List Int) (x6:List Ty4) (x7:List Y51):Option Ty0:=
 jn (fun(s20:aaA)=>
 (f13 x1 x2 x3 x4 x5 x6 x7).bind fun r21=>
 if(r21.2.2 !=(0:Int))then(
 chk (s20.length+([111,107,10]:aaA).length<=9223372036854775807)<|
 some (s20++([111,107,10]:aaA))
 )else(
 (f58 r21.1).bind fun r22=>
 chk (0<=r21.2.1/\r21.2.1<4)<|
 chk (s20.length+(T0.getD (0+((r21.2.1).toNat) *1+0) []).length<=9223372036854775807)<|
 chk ((s20++(T0.getD (0+((r21.2.1).toNat) *1+0) [])).length+([32]:aaA).length<=9223372036854775807)<|
 chk (((s20++(T0.getD (0+((r21.2.1).toNat) *1+0) []))++([32]:aaA)).length+r22.length<=9223372036854775807)<|
 chk ((((s20++(T0.getD (0+((r21.2.1).toNat) *1+0) []))++([32]:aaA))++r22).length+([10]:aaA).length<=9223372036854775807)<|
 some ((((s20++(T0.getD (0+((r21.2.1).toNat) *1+0) []))++([32]:aaA))++r22)++([10]:aaA))
 )
 ) fun(K1:Ty0->Option Ty0)=>
 oS x6 x7 K1 aY ([],0)
theorem f30_ok (x1:List Ty0) (x2:List Tq7) (x3:BitVec 16) (x4:List Ty1) (x5:List Int) (x6:List Ty4) (x7:List Y51) (r:aaA) (h:f30 x1 x2 x3 x4 x5 x6 x7=some r):aG Tryz.prog 30 [(0,.elem 4 1 T0F 0 0),(1,pT),(2,bT),(3,bT)] [] [] [.agg [vL 1 eS [] x1,vL 2 eSW (default:Tq7) x2,.b16 x3,vL 6 dL (default:aaA×Int×BitVec 16×aaB×aaB×cU) x4,vL 1 eI 0 x5,vL 3 aX (default:aaA×Bool×cU) x6],vL 28 sB (default:Y51) x7] (.str r) []:=by
 unfold f30 at h;refine aG.body 0 _ _ Tryz.func30 rfl Tryz.ntmps30 rfl rfl ?_;refine aN [] [] [1,2,1000000,1000001,1000002,1000003] [2] trivial ?_;refine bC [] [] ⟨87,[(1,aO x7),(2,.ptr 2 0),(5,.str []),(1000000,.elem 4 1 T0F 0 0),(1000001,pT),(1000002,bT),(1000003,bT)],[(2,.cells 37 [cQ x1,dI x2,.b16 x3,vL 6 dL (default:aaA×Int×BitVec 16×aaB×aaB×(cI)) x4,fB x5,vL 3 aX (default:aaA×Bool×(cI)) x6])],[],0⟩ trivial ?_;obtain⟨K1,hK1,h⟩:=aI h;refine aaR (α:=aaA) (fun(s20:aaA)=>⟨87,[(1,aO x7),(2,.ptr 2 0),(5,.str s20),(1000000,.elem 4 1 T0F 0 0),(1000001,pT),(1000002,bT),(1000003,bT)],[(2,.cells 37 [cQ x1,dI x2,.b16 x3,vL 6 dL (default:aaA×Int×BitVec 16×aaB×aaB×(cI)) x4,fB x5,vL 3 aX (default:aaA×Bool×(cI)) x6])],[],0⟩) (fun x=>K1 x=some r) ?_ ?_
 ·refine aN [] [] [1,2,5,16,17,18,1000000,1000001,1000002,1000003] [2] trivial ?_;refine aaJ (abG (α:=Nat×(aaA×Nat)) (fun x=>match x with|(_,s8,n9)=>⟨87,[(1,aO x7),(2,.ptr 2 0),(5,.str s8),(16,vL 3 aX (default:aaA×Bool×(cI)) x6),(17,.i (lZ x6)),(18,.i (n9:Int)),(1000000,.elem 4 1 T0F 0 0),(1000001,pT),(1000002,bT),(1000003,bT)],[(2,.cells 37 [cQ x1,dI x2,.b16 x3,vL 6 dL (default:aaA×Int×BitVec 16×aaB×aaB×(cI)) x4,fB x5,vL 3 aX (default:aaA×Bool×(cI)) x6])],[],0⟩) (fun x=>oS x6 x7 K1 x.1 x.2=some r) (fun x=>x.1) (aY,[],0) LR h ?_)
  rintro⟨k0,s8,n9⟩ h
  cases k0 with
  |zero=>exact nEx h
  |succ k0=>
  obtain⟨C0,hC0⟩:∃C,C=oS x6 x7 K1 k0:=⟨_,rfl⟩;replace h:=(oS.eq_2 ..).symm.trans h
  try rw[<-hC0]at h
  refine aN [] [] [1,2,5,16,17,18,19,1000000,1000001,1000002,1000003] [2] trivial ?_;refine aaE (cK (decide ((n9:Int)<(lZ x6))) (fun hc1=> ?_) fun hc1=> ?_)
  ·replace h:=aE hc1 h;refine aaG (tN (aaE (aaJ (aaE ?_))));obtain⟨ob0p,h⟩:=aB h;refine aZ [] [] [1,2,5,6,7,16,17,18,1000000,1000001,1000002,1000003] [2,7] (an2 (iN ob0p) trivial) ?_;refine tN (bC [] [] ⟨87,[(1,aO x7),(2,.ptr 2 0),(5,.str s8),(6,.i (n9:Int)),(7,.ptr 7 0),(8,.i (0:Int)),(9,.i (0:Int)),(16,vL 3 aX (default:aaA×Bool×(cI)) x6),(17,.i (lZ x6)),(18,.i (n9:Int)),(1000000,.elem 4 1 T0F 0 0),(1000001,pT),(1000002,bT),(1000003,bT)],[(2,.cells 37 [cQ x1,dI x2,.b16 x3,vL 6 dL (default:aaA×Int×BitVec 16×aaB×aaB×(cI)) x4,fB x5,vL 3 aX (default:aaA×Bool×(cI)) x6]),(7,.cells 132 [.str (x6.getD n9 (default:aaA×Bool×(cI))).1,.bool (x6.getD n9 (default:aaA×Bool×(cI))).2.1,dN (x6.getD n9 (default:aaA×Bool×(cI))).2.2])],[],0⟩ trivial ?_);obtain⟨K2,hK2,h⟩:=aI h;refine aaR (fun(x:Nat×Nat)=>match x with|(n16,n17)=>⟨87,[(1,aO x7),(2,.ptr 2 0),(5,.str s8),(7,.ptr 7 0),(8,.i (n16:Int)),(9,.i (n17:Int)),(16,vL 3 aX (default:aaA×Bool×(cI)) x6),(17,.i (lZ x6)),(18,.i (n9:Int)),(1000000,.elem 4 1 T0F 0 0),(1000001,pT),(1000002,bT),(1000003,bT)],[(2,.cells 37 [cQ x1,dI x2,.b16 x3,vL 6 dL (default:aaA×Int×BitVec 16×aaB×aaB×(cI)) x4,fB x5,vL 3 aX (default:aaA×Bool×(cI)) x6]),(7,.cells 132 [.str (x6.getD n9 (default:aaA×Bool×(cI))).1,.bool (x6.getD n9 (default:aaA×Bool×(cI))).2.1,dN (x6.getD n9 (default:aaA×Bool×(cI))).2.2])],[],0⟩) (fun x=>K2 x=some r) ?_ ?_
   ·refine aN [] [] [1,2,5,6,7,8,9,16,17,18,23,24,25,1000000,1000001,1000002,1000003] [2,7] trivial ?_;refine aaJ (abG (α:=Nat×(Nat×Nat×Nat)) (fun x=>match x with|(_,n10,n11,n12)=>⟨87,[(1,aO x7),(2,.ptr 2 0),(5,.str s8),(6,.i (n9:Int)),(7,.ptr 7 0),(8,.i (n10:Int)),(9,.i (n11:Int)),(16,vL 3 aX (default:aaA×Bool×(cI)) x6),(17,.i (lZ x6)),(18,.i (n9:Int)),(23,aO x7),(24,.i (lZ x7)),(25,.i (n12:Int)),(1000000,.elem 4 1 T0F 0 0),(1000001,pT),(1000002,bT),(1000003,bT)],[(2,.cells 37 [cQ x1,dI x2,.b16 x3,vL 6 dL (default:aaA×Int×BitVec 16×aaB×aaB×(cI)) x4,fB x5,vL 3 aX (default:aaA×Bool×(cI)) x6]),(7,.cells 132 [.str (x6.getD n9 (default:aaA×Bool×(cI))).1,.bool (x6.getD n9 (default:aaA×Bool×(cI))).2.1,dN (x6.getD n9 (default:aaA×Bool×(cI))).2.2])],[],0⟩) (fun x=>oR x7 n9 K2 x.1 x.2=some r) (fun x=>x.1) (aY,0,0,0) LR h ?_)
    rintro⟨k1,n10,n11,n12⟩ h
    cases k1 with
    |zero=>exact nEx h
    |succ k1=>
    obtain⟨C1,hC1⟩:∃C,C=oR x7 n9 K2 k1:=⟨_,rfl⟩;replace h:=(oR.eq_2 ..).symm.trans h
    try rw[<-hC1]at h
    refine aN [] [] [1,2,5,6,7,8,9,16,17,18,23,24,25,26,1000000,1000001,1000002,1000003] [2,7] trivial ?_;refine aaE (cK (decide ((n12:Int)<(lZ x7))) (fun hc2=> ?_) fun hc2=> ?_)
    ·replace h:=aE hc2 h;refine aaG (tN ?_);obtain⟨K3,hK3,h⟩:=aI h;refine aaR (fun(x:Nat×Nat)=>match x with|(n14,n15)=>⟨87,[(1,aO x7),(2,.ptr 2 0),(5,.str s8),(6,.i (n9:Int)),(7,.ptr 7 0),(8,.i (n14:Int)),(9,.i (n15:Int)),(16,vL 3 aX (default:aaA×Bool×(cI)) x6),(17,.i (lZ x6)),(18,.i (n9:Int)),(23,aO x7),(24,.i (lZ x7)),(25,.i (n12:Int)),(1000000,.elem 4 1 T0F 0 0),(1000001,pT),(1000002,bT),(1000003,bT)],[(2,.cells 37 [cQ x1,dI x2,.b16 x3,vL 6 dL (default:aaA×Int×BitVec 16×aaB×aaB×(cI)) x4,fB x5,vL 3 aX (default:aaA×Bool×(cI)) x6]),(7,.cells 132 [.str (x6.getD n9 (default:aaA×Bool×(cI))).1,.bool (x6.getD n9 (default:aaA×Bool×(cI))).2.1,dN (x6.getD n9 (default:aaA×Bool×(cI))).2.2])],[],0⟩) (fun x=>K3 x=some r) ?_ ?_
     ·refine aaJ (aaE ?_);obtain⟨ob1p,h⟩:=aB h;refine aZ [] [] [1,2,5,6,7,8,9,11,16,17,18,23,24,25,1000000,1000001,1000002,1000003] [2,7,11] (an2 (iN ob1p) trivial) ?_;refine tN (aaJ (aaE ?_));obtain⟨r13,hr13,h⟩:=bI h;refine bB [] [(6,⟨[.agg (qpt (x7.getD n12 aH))],[],[],[],.bool r13,[],[],[]⟩)] ⟨87,[(1,aO x7),(2,.ptr 2 0),(5,.str s8),(6,.i (n9:Int)),(7,.ptr 7 0),(8,.i (n10:Int)),(9,.i (n11:Int)),(11,.ptr 11 0),(16,vL 3 aX (default:aaA×Bool×(cI)) x6),(17,.i (lZ x6)),(18,.i (n9:Int)),(23,aO x7),(24,.i (lZ x7)),(25,.i (n12:Int)),(29,.bool (((x7.getD n12 aH).2.2.1 !=(n9:Int))||(!r13))),(1000000,.elem 4 1 T0F 0 0),(1000001,pT),(1000002,bT),(1000003,bT)],[(2,.cells 37 [cQ x1,dI x2,.b16 x3,vL 6 dL (default:aaA×Int×BitVec 16×aaB×aaB×(cI)) x4,fB x5,vL 3 aX (default:aaA×Bool×(cI)) x6]),(7,.cells 132 [.str (x6.getD n9 (default:aaA×Bool×(cI))).1,.bool (x6.getD n9 (default:aaA×Bool×(cI))).2.1,dN (x6.getD n9 (default:aaA×Bool×(cI))).2.2]),(11,.cells 51 (qpt (x7.getD n12 aH)))],[],0⟩ (an3 (aaK (cpC fun hc=>(tM _ _ _ _ _ _ _ _ (hr13 hc))) (an1 (idA ((((x7.getD n12 aH).2.2.1 !=(n9:Int))==false)=true)))) (an1 (idA ((((x7.getD n12 aH).2.2.1 !=(n9:Int))==false)=true))) (bqA ((x7.getD n12 aH).2.2.1 !=(n9:Int)) false)) ?_;refine tN (cK (((x7.getD n12 aH).2.2.1 !=(n9:Int))||(!r13)) (fun hc3=> ?_) fun hc3=> ?_)
      ·replace h:=aE hc3 h;refine aaG (kN (kN ?_));exact jN (n10,n11) LR h
      ·replace h:=aF hc3 h;refine aN [] [] [1,2,5,6,7,8,9,11,16,17,18,23,24,25,39,1000000,1000001,1000002,1000003] [2,7,11] trivial ?_;refine cK ((x7.getD n12 aH).2.1==(3:Int)) (fun hc4=> ?_) fun hc4=> ?_
       ·replace h:=aE hc4 h;obtain⟨ob5p,h⟩:=aB h;refine bB [] [] ⟨87,[(1,aO x7),(2,.ptr 2 0),(5,.str s8),(6,.i (n9:Int)),(7,.ptr 7 0),(8,.i (((n10+1):Nat):Int)),(9,.i (n11:Int)),(16,vL 3 aX (default:aaA×Bool×(cI)) x6),(17,.i (lZ x6)),(18,.i (n9:Int)),(23,aO x7),(24,.i (lZ x7)),(25,.i (n12:Int)),(1000000,.elem 4 1 T0F 0 0),(1000001,pT),(1000002,bT),(1000003,bT)],[(2,.cells 37 [cQ x1,dI x2,.b16 x3,vL 6 dL (default:aaA×Int×BitVec 16×aaB×aaB×(cI)) x4,fB x5,vL 3 aX (default:aaA×Bool×(cI)) x6]),(7,.cells 132 [.str (x6.getD n9 (default:aaA×Bool×(cI))).1,.bool (x6.getD n9 (default:aaA×Bool×(cI))).2.1,dN (x6.getD n9 (default:aaA×Bool×(cI))).2.2])],[],0⟩ (an1 (iP ob5p)) ?_;refine kN (kN ?_);exact jN ((n10+1),n11) LR h
       ·replace h:=aF hc4 h;refine aN [] [] [1,2,5,6,7,8,9,16,17,18,23,24,25,45,1000000,1000001,1000002,1000003] [2,7] trivial ?_;refine cK ((x7.getD n12 aH).2.1==(2:Int)) (fun hc5=> ?_) fun hc5=> ?_
        ·replace h:=aE hc5 h;obtain⟨ob6p,h⟩:=aB h;refine bB [] [] ⟨87,[(1,aO x7),(2,.ptr 2 0),(5,.str s8),(6,.i (n9:Int)),(7,.ptr 7 0),(8,.i (n10:Int)),(9,.i (((n11+1):Nat):Int)),(16,vL 3 aX (default:aaA×Bool×(cI)) x6),(17,.i (lZ x6)),(18,.i (n9:Int)),(23,aO x7),(24,.i (lZ x7)),(25,.i (n12:Int)),(1000000,.elem 4 1 T0F 0 0),(1000001,pT),(1000002,bT),(1000003,bT)],[(2,.cells 37 [cQ x1,dI x2,.b16 x3,vL 6 dL (default:aaA×Int×BitVec 16×aaB×aaB×(cI)) x4,fB x5,vL 3 aX (default:aaA×Bool×(cI)) x6]),(7,.cells 132 [.str (x6.getD n9 (default:aaA×Bool×(cI))).1,.bool (x6.getD n9 (default:aaA×Bool×(cI))).2.1,dN (x6.getD n9 (default:aaA×Bool×(cI))).2.2])],[],0⟩ (an1 (iP ob6p)) ?_;refine kN (kN ?_);exact jN (n10,(n11+1)) LR h
        ·replace h:=aF hc5 h;refine aaG (kN (kN ?_));exact jN (n10,n11) LR h
     ·rintro⟨n14,n15⟩ h;replace h:=(congrFun hK3 _).symm.trans h;obtain⟨ob7p,h⟩:=aB h;refine aZ [] [] [1,2,5,6,7,8,9,16,17,18,23,24,25,1000000,1000001,1000002,1000003] [2,7] (an1 (iP ob7p)) ?_;rw[hC1]at h;exact lN (_,n14,n15,(n12+1)) LR h (aaM _)
    ·replace h:=aF hc2 h;refine abJ (tE (tE (kS ?_)));exact jN (n10,n11) LR h
   ·rintro⟨n16,n17⟩ h;replace h:=(congrFun hK2 _).symm.trans h;obtain⟨r18,hr18,h⟩:=bind_ok h;obtain⟨r19,hr19,h⟩:=bind_ok h;obtain⟨ob8,ob9,ob10,ob11,ob12,h⟩:=ck5 h;obtain⟨ob13,h⟩:=aB h;refine aZ [] [(5,⟨[.i (n16:Int)],[],[],[],.str r18,[],[],[1]⟩),(9,⟨[.i (n17:Int)],[],[],[],.str r19,[],[],[1]⟩)] [1,2,5,16,17,18,1000000,1000001,1000002,1000003] [2] (ac6 ob8 (cpT (iO _ _ hr18)) ob9 ob10 (cpT (iO _ _ hr19)) ob11 (an2 ob12 ob13)) ?_;refine kN (tN ?_);obtain⟨ob14p,h⟩:=aB h;refine bB [] [] ⟨87,[(1,aO x7),(2,.ptr 2 0),(5,.str (s8++(((((((x6.getD n9 (default:aaA×Bool×(cI))).1)++([58,32]:aaA))++r18)++aAO)++r19)++cs12))),(16,vL 3 aX (default:aaA×Bool×(cI)) x6),(17,.i (lZ x6)),(18,.i (((n9+1):Nat):Int)),(1000000,.elem 4 1 T0F 0 0),(1000001,pT),(1000002,bT),(1000003,bT)],[(2,.cells 37 [cQ x1,dI x2,.b16 x3,vL 6 dL (default:aaA×Int×BitVec 16×aaB×aaB×(cI)) x4,fB x5,vL 3 aX (default:aaA×Bool×(cI)) x6])],[],0⟩ (an1 (iP ob14p)) ?_;rw[hC0]at h;exact lN (_,(s8++(((((((x6.getD n9 (default:aaA×Bool×(cI))).1)++([58,32]:aaA))++r18)++aAO)++r19)++cs12)),(n9+1)) LR h (aaM _)
  ·replace h:=aF hc1 h;refine abJ (tE (tE (kS ?_)));exact jN (s8) LR h
 ·rintro s20 h;replace h:=(congrFun hK1 _).symm.trans h;refine aaE ?_;obtain⟨r21,hr21,h⟩:=bind_ok h;refine aZ [] [(2,⟨[.agg [cQ x1,dI x2,.b16 x3,vL 6 dL (default:aaA×Int×BitVec 16×aaB×aaB×(cI)) x4,fB x5,vL 3 aX (default:aaA×Bool×(cI)) x6],aO x7],[],[],[],.tup [.i r21.1,.i r21.2.1,.i r21.2.2],[],[],[1,2,3]⟩)] [5,12,13,14,1000000,1000001,1000002,1000003] [] (an1 (cpT (yU _ _ _ _ _ _ _ _ hr21))) ?_;refine tN (aaE (aN [] [] [5,12,13,74,1000000,1000001,1000002,1000003] [] trivial ?_));refine cK (r21.2.2 !=(0:Int)) (fun hc6=> ?_) fun hc6=> ?_
  ·replace h:=aE hc6 h;refine aaE ?_;obtain⟨ob15,h⟩:=aB h;refine bB [] [] ⟨87,[(4,.str (s20++([111,107,10]:aaA)))],[],[],0⟩ (an1 ob15) ?_;refine tN ?_;obtain rfl:=aaD h;refine aaH (tR ?_);exact bK
  ·replace h:=aF hc6 h;refine aaG (tN (aaE ?_));obtain⟨r22,hr22,h⟩:=bind_ok h;obtain⟨ob16,ob17,ob18,ob19,ob20,h⟩:=ck5 h;refine aZ [] [(7,⟨[.i r21.1],[],[],[],.str r22,[],[],[1]⟩)] [4] [] (an6 ob16 ob17 ob18 (cpT (iO _ _ hr22)) ob19 ob20) ?_;refine tN ?_;obtain rfl:=aaD h;refine aaH ?_;exact bK
abbrev f52z1 (x2 x3:Int):=((x2==(4:Int))&&(decide (x3>=(0:Int))))
abbrev f52z2 (x2 x3:Int):=((x2==(3:Int))&&(decide (x3>=(0:Int))))
def f52 (x1 x2 x3 x4 x5:Int) (x6 x7:aaA):Option Int:=
 if(((x2==(4:Int))&&(decide (x3>=(0:Int))))&&(decide (x3<(12:Int))))then(
 some x3
 )else(
 if(((x2==(3:Int))&&(decide (x3>=(0:Int))))&&(decide (x3<(6:Int))))then(
 chk (-9223372036854775808<=((12:Int)+x3)/\((12:Int)+x3)<=9223372036854775807)<|
 some ((12:Int)+x3)
 )else(
 some (-1:Int)
 )
 )
theorem aBx (x1 x2 x3 x4 x5:Int) (x6 x7:aaA) (r:Int) (h:f52 x1 x2 x3 x4 x5 x6 x7=some r):aG Tryz.prog 52 [] [] [] [.agg [.i x1,.i x2,.i x3,.i x4,.i x5,.str x6,.str x7,.opq,.opq,.opq,.opq,.opq,.opq,.opq,.opq,.opq,.opq,.opq,.opq,.opq,.opq,.opq,.opq,.opq,.opq,.opq,.opq,.opq]] (.i r) []:=by
 unfold f52 at h;refine aG.body 0 _ _ Tryz.func52 rfl Tryz.ntmps52 rfl rfl ?_;refine aN [] [] [1] [1] trivial ?_;refine aaE (aaE (aZ [] [] [1,15] [1] (an6 (an1 (idA (((x2==(4:Int))==true)=true))) (an1 (idA (((x2==(4:Int))==true)=true))) (bqA (x2==(4:Int)) true) (an1 (idA (((f52z1 x2 x3)==true)=true))) (an1 (idA (((f52z1 x2 x3)==true)=true))) (bqA (f52z1 x2 x3) true)) ?_));refine tN (cK ((f52z1 x2 x3)&&(decide (x3<(12:Int)))) (fun hc1=> ?_) fun hc1=> ?_)
 ·replace h:=aE hc1 h;refine bC [] [] ⟨34,[(2,.i x3)],[],[],0⟩ trivial ?_;obtain rfl:=aaD h;refine aaH (tR ?_);exact bK
 ·replace h:=aF hc1 h;refine aaG (tN (aaE (aaE (aZ [] [] [1,30] [1] (an6 (an1 (idA (((x2==(3:Int))==true)=true))) (an1 (idA (((x2==(3:Int))==true)=true))) (bqA (x2==(3:Int)) true) (an1 (idA (((f52z2 x2 x3)==true)=true))) (an1 (idA (((f52z2 x2 x3)==true)=true))) (bqA (f52z2 x2 x3) true)) ?_))));refine tN (cK ((f52z2 x2 x3)&&(decide (x3<(6:Int)))) (fun hc2=> ?_) fun hc2=> ?_)
  ·replace h:=aE hc2 h;refine aaE ?_;obtain⟨ob12,h⟩:=aB h;refine bB [] [] ⟨34,[(2,.i ((12:Int)+x3))],[],[],0⟩ (an1 ob12) ?_;refine tN ?_;obtain rfl:=aaD h;refine aaH (tR ?_);exact bK
  ·replace h:=aF hc2 h;refine aaG (tN (aN [] [] [2] [] trivial ?_));obtain rfl:=aaD h;refine aaH ?_;exact bK
def oB (x1:List Y51) (x2 x3:Int) (K1:Unit->Option (aaA×Bool)):Nat->Nat->Option (aaA×Bool)
 |0,_=>none
 |k+1,n4=>
  if(decide ((n4:Int)<(((x1).length:Nat):Int)))then(
  chk ((n4:Int)<(((x1).length:Nat):Int))<|
  chk ((((x1.getD n4 (default:Y51)).2.1==(1:Int))==true)=true->0<=(n4:Int)/\(n4:Int)<(((x1).length:Nat):Int))<|
  chk (((((x1.getD n4 (default:Y51)).2.1==(1:Int))&&((x1.getD n4 (default:Y51)).2.2.1==x2))==true)=true->0<=(n4:Int)/\(n4:Int)<(((x1).length:Nat):Int))<|
  if((((x1.getD n4 (default:Y51)).2.1==(1:Int))&&((x1.getD n4 (default:Y51)).2.2.1==x2))&&((x1.getD n4 (default:Y51)).2.2.2.2.1==x3))then(
  chk ((n4:Int)<(((x1).length:Nat):Int))<|
  some ((x1.getD n4 (default:Y51)).2.2.2.2.2.1,true)
  )else(
  chk (((n4:Int)+(1:Int))<=9223372036854775807)<|
  (oB x1 x2 x3 K1 k) (n4+1)
  )
  )else(
  K1 ()
  )
def f94 (x1:List Y51) (x2 x3:Int):Option (aaA×Bool):=
 jn (fun(_:Unit)=>
 some ([],false)
 ) fun(K1:Unit->Option (aaA×Bool))=>
 oB x1 x2 x3 K1 aY 0
theorem f94_ok (x1:List Y51) (x2 x3:Int) (r:aaA×Bool) (h:f94 x1 x2 x3=some r):aG Tryz.prog 94 [] [] [] [vL 28 sB (default:Y51) x1,.i x2,.i x3] (.tup [.str r.1,.bool r.2]) []:=by
 unfold f94 at h;refine aG.body 0 _ _ Tryz.func94 rfl Tryz.ntmps94 rfl rfl ?_;refine aN [] [] [0,1,2] [] trivial ?_;obtain⟨K1,hK1,h⟩:=aI h;refine aaR (fun(x:Unit)=>match x with|()=>⟨44,[],[],[],0⟩) (fun x=>K1 x=some r) ?_ ?_
 ·refine bC [] [] ⟨44,[(0,aO x1),(1,.i x2),(2,.i x3),(8,.i (0:Int))],[],[],0⟩ trivial ?_;refine aaJ (abG (α:=Nat×Nat) (fun x=>match x with|(_,n4)=>⟨44,[(0,aO x1),(1,.i x2),(2,.i x3),(8,.i (n4:Int))],[],[],0⟩) (fun x=>oB x1 x2 x3 K1 x.1 x.2=some r) (fun x=>x.1) (aY,0) LR h ?_)
  rintro⟨k0,n4⟩ h
  cases k0 with
  |zero=>exact nEx h
  |succ k0=>
  obtain⟨C0,hC0⟩:∃C,C=oB x1 x2 x3 K1 k0:=⟨_,rfl⟩;replace h:=(oB.eq_2 ..).symm.trans h
  try rw[<-hC0]at h
  refine aaE (aN [] [] [0,1,2,8,12] [] trivial ?_);refine cK (decide ((n4:Int)<(lZ x1))) (fun hc1=> ?_) fun hc1=> ?_
  ·replace h:=aE hc1 h;refine aaG (tN (aaE (aaJ (aaE ?_))));obtain⟨ob0p,h⟩:=aB h;obtain⟨ob1,h⟩:=aB h;obtain⟨ob9,h⟩:=aB h;refine bB [] [] ⟨44,[(0,aO x1),(1,.i x2),(2,.i x3),(8,.i (n4:Int)),(38,.bool ((((x1.getD n4 aH).2.1==(1:Int))&&((x1.getD n4 aH).2.2.1==x2))&&((x1.getD n4 aH).2.2.2.2.1==x3)))],[],[],0⟩ (ac6 (iN ob0p) (aaK ob1 (an2 (idA ((((x1.getD n4 aH).2.1==(1:Int))==true)=true)) (idA ((((x1.getD n4 aH).2.1==(1:Int))==true)=true)))) (an1 (idA ((((x1.getD n4 aH).2.1==(1:Int))==true)=true))) (an1 (idA ((((x1.getD n4 aH).2.1==(1:Int))==true)=true))) (an2 (idA ((((x1.getD n4 aH).2.1==(1:Int))==true)=true)) (idA ((((x1.getD n4 aH).2.1==(1:Int))==true)=true))) (bqA ((x1.getD n4 aH).2.1==(1:Int)) true) (an5 (aaK ob9 (an2 (idA (((((x1.getD n4 aH).2.1==(1:Int))&&((x1.getD n4 aH).2.2.1==x2))==true)=true)) (idA (((((x1.getD n4 aH).2.1==(1:Int))&&((x1.getD n4 aH).2.2.1==x2))==true)=true)))) (an1 (idA (((((x1.getD n4 aH).2.1==(1:Int))&&((x1.getD n4 aH).2.2.1==x2))==true)=true))) (an1 (idA (((((x1.getD n4 aH).2.1==(1:Int))&&((x1.getD n4 aH).2.2.1==x2))==true)=true))) (an2 (idA (((((x1.getD n4 aH).2.1==(1:Int))&&((x1.getD n4 aH).2.2.1==x2))==true)=true)) (idA (((((x1.getD n4 aH).2.1==(1:Int))&&((x1.getD n4 aH).2.2.1==x2))==true)=true))) (bqA (((x1.getD n4 aH).2.1==(1:Int))&&((x1.getD n4 aH).2.2.1==x2)) true))) ?_;refine tN (cK ((((x1.getD n4 aH).2.1==(1:Int))&&((x1.getD n4 aH).2.2.1==x2))&&((x1.getD n4 aH).2.2.2.2.1==x3)) (fun hc2=> ?_) fun hc2=> ?_)
   ·replace h:=aE hc2 h;refine aaE ?_;obtain⟨ob17p,h⟩:=aB h;refine aZ [] [] [6,7] [] (an1 (iN ob17p)) ?_;refine tN ?_;obtain rfl:=aaD h;refine aaH (kR (tR (tR (kR (aR ?_)))));exact bK
   ·replace h:=aF hc2 h;refine aaG (kN (tN ?_));obtain⟨ob18p,h⟩:=aB h;refine bB [] [] ⟨44,[(0,aO x1),(1,.i x2),(2,.i x3),(8,.i (((n4+1):Nat):Int))],[],[],0⟩ (an1 (iP ob18p)) ?_;rw[hC0]at h;exact lN (_,(n4+1)) LR h (aaM _)
  ·replace h:=aF hc1 h;refine abJ (tE (tE (kS ?_)));exact jN () LR h
 ·rintro⟨⟩ h;replace h:=(congrFun hK1 _).symm.trans h;refine aN [] [] [6,7] [] trivial ?_;obtain rfl:=aaD h;refine aaH ?_;exact bK
def oA (x1:List Y51) (x2 x3:Int) (K1:Unit->Option (aaA×Bool)):Nat->Nat->Option (aaA×Bool)
 |0,_=>none
 |k+1,n4=>
  if(decide ((n4:Int)<(((x1).length:Nat):Int)))then(
  (f52 ((x1.getD n4 (default:Y51)).1) ((x1.getD n4 (default:Y51)).2.1) ((x1.getD n4 (default:Y51)).2.2.1) ((x1.getD n4 (default:Y51)).2.2.2.1) ((x1.getD n4 (default:Y51)).2.2.2.2.1) ((x1.getD n4 (default:Y51)).2.2.2.2.2.1) ((x1.getD n4 (default:Y51)).2.2.2.2.2.2)).bind fun r5=>
  chk ((n4:Int)<(((x1).length:Nat):Int))<|
  chk (((r5==x2)==true)=true->0<=(n4:Int)/\(n4:Int)<(((x1).length:Nat):Int))<|
  if((r5==x2)&&((x1.getD n4 (default:Y51)).2.2.2.1==x3))then(
  chk ((n4:Int)<(((x1).length:Nat):Int))<|
  some ((x1.getD n4 (default:Y51)).2.2.2.2.2.1,true)
  )else(
  chk (((n4:Int)+(1:Int))<=9223372036854775807)<|
  (oA x1 x2 x3 K1 k) (n4+1)
  )
  )else(
  K1 ()
  )
def f95 (x1:List Y51) (x2 x3:Int):Option (aaA×Bool):=
 jn (fun(_:Unit)=>
 some ([],false)
 ) fun(K1:Unit->Option (aaA×Bool))=>
 oA x1 x2 x3 K1 aY 0
theorem f95_ok (x1:List Y51) (x2 x3:Int) (r:aaA×Bool) (h:f95 x1 x2 x3=some r):aG Tryz.prog 95 [] [] [] [vL 28 sB (default:Y51) x1,.i x2,.i x3] (.tup [.str r.1,.bool r.2]) []:=by
 unfold f95 at h;refine aG.body 0 _ _ Tryz.func95 rfl Tryz.ntmps95 rfl rfl ?_;refine aN [] [] [0,1,2] [] trivial ?_;obtain⟨K1,hK1,h⟩:=aI h;refine aaR (fun(x:Unit)=>match x with|()=>⟨36,[],[],[],0⟩) (fun x=>K1 x=some r) ?_ ?_
 ·refine bC [] [] ⟨36,[(0,aO x1),(1,.i x2),(2,.i x3),(8,.i (0:Int))],[],[],0⟩ trivial ?_;refine aaJ (abG (α:=Nat×Nat) (fun x=>match x with|(_,n4)=>⟨36,[(0,aO x1),(1,.i x2),(2,.i x3),(8,.i (n4:Int))],[],[],0⟩) (fun x=>oA x1 x2 x3 K1 x.1 x.2=some r) (fun x=>x.1) (aY,0) LR h ?_)
  rintro⟨k0,n4⟩ h
  cases k0 with
  |zero=>exact nEx h
  |succ k0=>
  obtain⟨C0,hC0⟩:∃C,C=oA x1 x2 x3 K1 k0:=⟨_,rfl⟩;replace h:=(oA.eq_2 ..).symm.trans h
  try rw[<-hC0]at h
  refine aaE (aN [] [] [0,1,2,8,12] [] trivial ?_);refine cK (decide ((n4:Int)<(lZ x1))) (fun hc1=> ?_) fun hc1=> ?_
  ·replace h:=aE hc1 h;refine aaG (tN (aaE (aaJ (aaE ?_))));obtain⟨r5,hr5,h⟩:=bind_ok h;obtain⟨ob0p,h⟩:=aB h;obtain⟨ob1,h⟩:=aB h;refine bB [] [(4,⟨[.agg (qpt (x1.getD n4 aH))],[],[],[],.i r5,[],[],[]⟩)] ⟨36,[(0,aO x1),(1,.i x2),(2,.i x3),(8,.i (n4:Int)),(30,.bool ((r5==x2)&&((x1.getD n4 aH).2.2.2.1==x3)))],[],[],0⟩ (ac6 (iN ob0p) (cpT (aBx _ _ _ _ _ _ _ _ hr5)) (aaK ob1 (an2 (idA (((r5==x2)==true)=true)) (idA (((r5==x2)==true)=true)))) (an1 (idA (((r5==x2)==true)=true))) (an1 (idA (((r5==x2)==true)=true))) (an2 (idA (((r5==x2)==true)=true)) (idA (((r5==x2)==true)=true))) (an1 (bqA (r5==x2) true))) ?_;refine tN (cK ((r5==x2)&&((x1.getD n4 aH).2.2.2.1==x3)) (fun hc2=> ?_) fun hc2=> ?_)
   ·replace h:=aE hc2 h;refine aaE ?_;obtain⟨ob9p,h⟩:=aB h;refine aZ [] [] [6,7] [] (an1 (iN ob9p)) ?_;refine tN ?_;obtain rfl:=aaD h;refine aaH (kR (tR (tR (kR (aR ?_)))));exact bK
   ·replace h:=aF hc2 h;refine aaG (kN (tN ?_));obtain⟨ob10p,h⟩:=aB h;refine bB [] [] ⟨36,[(0,aO x1),(1,.i x2),(2,.i x3),(8,.i (((n4+1):Nat):Int))],[],[],0⟩ (an1 (iP ob10p)) ?_;rw[hC0]at h;exact lN (_,(n4+1)) LR h (aaM _)
  ·replace h:=aF hc1 h;refine abJ (tE (tE (kS ?_)));exact jN () LR h
 ·rintro⟨⟩ h;replace h:=(congrFun hK1 _).symm.trans h;refine aN [] [] [6,7] [] trivial ?_;obtain rfl:=aaD h;refine aaH ?_;exact bK
abbrev f112z0 :List (Nat×V):=[(4,.i (0:Int)),(5,.i (0:Int))]
def aC3 (x1:aaA) (x2:Int):Option Tq2:=
 if(x1==[])then(
 some ((0:Int),(0:Int))
 )else(
 chk ((0:Int)<((x1.length:Nat):Int))<|
 chk ((((x1.getD 0 0).toNat:Nat):Int)<=9223372036854775807)<|
 jn (fun((i3,n4):Int×Nat)=>
 if(decide (i3>x2))then(
 some ((0:Int),(0:Int))
 )else(
 some (i3,(n4:Int))
 )
 ) fun(K1:(Int×Nat)->Option Tq2)=>
 if(decide ((((x1.getD 0 0).toNat:Nat):Int)>=(128:Int)))then(
 chk (((decide (((x1.length:Nat):Int)<(2:Int)))==false)=true->0<=(1:Int)/\(1:Int)<((x1.length:Nat):Int))<|
 chk ((((decide (((x1.length:Nat):Int)<(2:Int)))||((((x1.getD 1 0).toNat:Nat):Int)==(0:Int)))==false)=true->0<=(1:Int)/\(1:Int)<((x1.length:Nat):Int))<|
 if(((decide (((x1.length:Nat):Int)<(2:Int)))||((((x1.getD 1 0).toNat:Nat):Int)==(0:Int)))||(decide ((((x1.getD 1 0).toNat:Nat):Int)>=(128:Int))))then(
 some ((0:Int),(0:Int))
 )else(
 chk (-9223372036854775808<=((((x1.getD 0 0).toNat:Nat):Int)-(128:Int))/\((((x1.getD 0 0).toNat:Nat):Int)-(128:Int))<=9223372036854775807)<|
 chk ((1:Int)<((x1.length:Nat):Int))<|
 chk ((((x1.getD 1 0).toNat:Nat):Int)<=9223372036854775807)<|
 chk (-9223372036854775808<=((128:Int) *(((x1.getD 1 0).toNat:Nat):Int))/\((128:Int) *(((x1.getD 1 0).toNat:Nat):Int))<=9223372036854775807)<|
 chk (-9223372036854775808<=(((((x1.getD 0 0).toNat:Nat):Int)-(128:Int))+(((128 *(x1.getD 1 0).toNat):Nat):Int))/\(((((x1.getD 0 0).toNat:Nat):Int)-(128:Int))+(((128 *(x1.getD 1 0).toNat):Nat):Int))<=9223372036854775807)<|
 K1 ((((((x1.getD 0 0).toNat:Nat):Int)-(128:Int))+(((128 *(x1.getD 1 0).toNat):Nat):Int)),2)
 )
 )else(
 K1 ((((x1.getD 0 0).toNat:Nat):Int),1)
 )
 )
theorem f112_ok (x1:aaA) (x2:Int) (r:Tq2) (h:aC3 x1 x2=some r):aG Tryz.prog 112 [] [] [] [.str x1,.i x2] (.tup [.i r.1,.i r.2]) []:=by
 unfold aC3 at h;refine aG.body 0 _ _ Tryz.func112 rfl Tryz.ntmps112 rfl rfl ?_;refine aN [] [] [0,1] [] trivial ?_;refine aaE (aN [] [] [0,1,9] [] trivial ?_);refine cK (x1==[]) (fun hc1=> ?_) fun hc1=> ?_
 ·replace h:=aE hc1 h;refine bC [] [] ⟨40,(f112z0),[],[],0⟩ trivial ?_;obtain rfl:=aaD h;refine aaH (tR ?_);exact bK
 ·replace h:=aF hc1 h;refine aaG (tN (aaE ?_));obtain⟨ob0p,h⟩:=aB h;have ob0:0<=(0:Int)/\(0:Int)<((x1.length:Nat):Int):=⟨by omega,ob0p⟩;obtain⟨ob1p,h⟩:=aB h;have ob1: -9223372036854775808<=(((x1.getD 0 0).toNat:Nat):Int)/\(((x1.getD 0 0).toNat:Nat):Int)<=9223372036854775807:=⟨by omega,ob1p⟩;refine aZ [] [] [0,1,6,7] [] (an2 ob0 ob1) ?_;refine tN ?_;obtain⟨K1,hK1,h⟩:=aI h;refine aaR (fun(x:Int×Nat)=>match x with|(i3,n4)=>⟨40,[(1,.i x2),(6,.i i3),(7,.i (n4:Int))],[],[],0⟩) (fun x=>K1 x=some r) ?_ ?_
  ·refine bC [] [] ⟨40,[(0,.str x1),(1,.i x2),(6,.i (((x1.getD 0 0).toNat:Nat):Int)),(7,.i (1:Int)),(14,.bool (decide ((((x1.getD 0 0).toNat:Nat):Int)>=(128:Int))))],[],[],0⟩ trivial ?_;refine cK (decide ((((x1.getD 0 0).toNat:Nat):Int)>=(128:Int))) (fun hc2=> ?_) fun hc2=> ?_
   ·replace h:=aE hc2 h;refine aaE (aaE ?_);obtain⟨ob2,h⟩:=aB h;obtain⟨ob6,h⟩:=aB h;refine aZ [] [] [0,1,6,27] [] (an6 (aaK ob2 (an1 (idA (((decide ((lZ x1)<(2:Int)))==false)=true)))) (an1 (idA (((decide ((lZ x1)<(2:Int)))==false)=true))) (bqA (decide ((lZ x1)<(2:Int))) false) (aaK ob6 (an1 (idA ((((decide ((lZ x1)<(2:Int)))||((((x1.getD 1 0).toNat:Nat):Int)==(0:Int)))==false)=true)))) (an1 (idA ((((decide ((lZ x1)<(2:Int)))||((((x1.getD 1 0).toNat:Nat):Int)==(0:Int)))==false)=true))) (bqA ((decide ((lZ x1)<(2:Int)))||((((x1.getD 1 0).toNat:Nat):Int)==(0:Int))) false)) ?_;refine tN (cK (((decide ((lZ x1)<(2:Int)))||((((x1.getD 1 0).toNat:Nat):Int)==(0:Int)))||(decide ((((x1.getD 1 0).toNat:Nat):Int)>=(128:Int)))) (fun hc3=> ?_) fun hc3=> ?_)
    ·replace h:=aE hc3 h;refine bC [] [] ⟨40,(f112z0),[],[],0⟩ trivial ?_;obtain rfl:=aaD h;refine aaH (tR (aR ?_));exact bK
    ·replace h:=aF hc3 h;refine aaG (tN ?_);obtain⟨ob10,ob11p,h⟩:=ck2 h;have ob11:0<=(1:Int)/\(1:Int)<((x1.length:Nat):Int):=⟨by omega,ob11p⟩;obtain⟨ob12p,h⟩:=aB h;have ob12: -9223372036854775808<=(((x1.getD 1 0).toNat:Nat):Int)/\(((x1.getD 1 0).toNat:Nat):Int)<=9223372036854775807:=⟨by omega,ob12p⟩;obtain⟨ob13,ob14,h⟩:=ck2 h;refine aZ [] [] [1,6,7] [] (an5 ob10 ob11 ob12 ob13 ob14) ?_;exact jN ((((((x1.getD 0 0).toNat:Nat):Int)-(128:Int))+(((128 *(x1.getD 1 0).toNat):Nat):Int)),2) LR h
   ·replace h:=aF hc2 h;refine aaG ?_;exact jN ((((x1.getD 0 0).toNat:Nat):Int),1) LR h
  ·rintro⟨i3,n4⟩ h;replace h:=(congrFun hK1 _).symm.trans h;refine aaE (aN [] [] [6,7,37] [] trivial ?_);refine cK (decide (i3>x2)) (fun hc4=> ?_) fun hc4=> ?_
   ·replace h:=aE hc4 h;refine bC [] [] ⟨40,(f112z0),[],[],0⟩ trivial ?_;obtain rfl:=aaD h;refine aaH (tR ?_);exact bK
   ·replace h:=aF hc4 h;refine aaG (tN (aN [] [] [4,5] [] trivial ?_));obtain rfl:=aaD h;refine aaH ?_;exact bK
def jJ (x1:aaA) (r2:Tq2) (K1:(Int×List Ty0)->Option (Bool×List Ty0)):Nat->(Int×Nat×List Ty0)->Option (Bool×List Ty0)
 |0,_=>none
 |k+1,(i3,n4,l5)=>
  if(decide ((n4:Int)<r2.1))then(
  (aC3 (x1.drop ((i3).toNat)) (200:Int)).bind fun r6=>
  chk (0<=i3/\i3<=((x1.length:Nat):Int))<|
  chk (((r6.2==(0:Int))==false)=true-> -9223372036854775808<=(i3+r6.2)/\(i3+r6.2)<=9223372036854775807)<|
  chk (((r6.2==(0:Int))==false)=true-> -9223372036854775808<=((i3+r6.2)+r6.1)/\((i3+r6.2)+r6.1)<=9223372036854775807)<|
  if((r6.2==(0:Int))||(decide (((i3+r6.2)+r6.1)>((x1.length:Nat):Int))))then(
  some (false,[])
  )else(
  chk (-9223372036854775808<=(i3+r6.2)/\(i3+r6.2)<=9223372036854775807)<|
  chk (-9223372036854775808<=(i3+r6.2)/\(i3+r6.2)<=9223372036854775807)<|
  chk (-9223372036854775808<=((i3+r6.2)+r6.1)/\((i3+r6.2)+r6.1)<=9223372036854775807)<|
  chk (0<=(i3+r6.2)/\(i3+r6.2)<=((i3+r6.2)+r6.1)/\((i3+r6.2)+r6.1)<=((x1.length:Nat):Int))<|
  chk (((l5).length+1) *16<=140737488355328)<|
  chk (-9223372036854775808<=(i3+r6.2)/\(i3+r6.2)<=9223372036854775807)<|
  chk (-9223372036854775808<=((i3+r6.2)+r6.1)/\((i3+r6.2)+r6.1)<=9223372036854775807)<|
  chk (((n4:Int)+(1:Int))<=9223372036854775807)<|
  (jJ x1 r2 K1 k) (((i3+r6.2)+r6.1),(n4+1),(l5++[((x1.take ((((i3+r6.2)+r6.1)).toNat)).drop (((i3+r6.2)).toNat))]))
  )
  )else(
  K1 (i3,l5)
  )
abbrev xV (r6:Tq2):=((r6.2==(0:Int))==false)
abbrev f81z1 (l5:List Ty0) (x1:aaA) (i3:Int) (r6:Tq2):aJ:=[(5006,bL 9 1 eS [] (l5++[((x1.take ((((i3+r6.2)+r6.1)).toNat)).drop (((i3+r6.2)).toNat))]))]
abbrev f81z2 (x1:aaA) (r2:Tq2) (i3:Int) (n4:Nat) (r6:Tq2):List (Nat×V):=[(0,.str x1),(4,.i r2.1),(5,.i i3),(6,.own 5006),(7,.i (n4:Int)),(8,.i r6.1),(9,.i r6.2)]
abbrev f81z3 :List (Nat×V):=[(2,.own 3000),(3,.bool false)]
def f81 (x1:aaA):Option (Bool×List Ty0):=
 (aC3 x1 (25:Int)).bind fun r2=>
 if(r2.2==(0:Int))then(
 some (false,[])
 )else(
 jn (fun((i7,l8):Int×List Ty0)=>
 some ((i7==((x1.length:Nat):Int)),l8)
 ) fun(K1:(Int×List Ty0)->Option (Bool×List Ty0))=>
 jJ x1 r2 K1 aY (r2.2,0,[])
 )
theorem f81_ok (x1:aaA) (r:Bool×List Ty0) (h:f81 x1=some r):aG Tryz.prog 81 [] [] [] [.str x1] (.tup [.own 3000,.bool r.1]) [(3000,bL 9 1 eS [] r.2)]:=by
 unfold f81 at h;refine aG.body 0 _ _ Tryz.func81 rfl Tryz.ntmps81 rfl rfl ?_;refine aN [] [] [0] [] trivial ?_;refine aaE ?_;obtain⟨r2,hr2,h⟩:=bind_ok h;refine aZ [] [(1,⟨[.str x1,.i (25:Int)],[],[],[],.tup [.i r2.1,.i r2.2],[],[],[]⟩)] [0,4,5] [] (an1 (cpT (f112_ok _ _ _ hr2))) ?_;refine tN (aaE (aN [] [] [0,4,5,16] [] trivial ?_));refine cK (r2.2==(0:Int)) (fun hc1=> ?_) fun hc1=> ?_
 ·replace h:=aE hc1 h;refine bC [] [] ⟨64,[(2,.nils),(3,.bool false)],[],[],0⟩ trivial ?_;refine aaS (aaI (adE 2 3000 9 1 (bY eS [] []) rfl rfl (aaW rfl)) (LR (s':=⟨64,(f81z3),[(3000,aU [])],[],0⟩))) ?_;obtain rfl:=aaD h;refine aaS (LR (s':=⟨64,(f81z3),[(3000,aU [])],[],0⟩)) ?_;refine aaH (tR ?_);exact bK
 ·replace h:=aF hc1 h;refine aaG (tN (aN [] [] [0,4,5,6] [] trivial ?_));obtain⟨K1,hK1,h⟩:=aI h;refine aaR (fun(x:Int×List Ty0)=>match x with|(i7,l8)=>⟨64,[(0,.str x1),(5,.i i7),(6,.own 5006)],[(5006,aU l8)],[],0⟩) (fun x=>K1 x=some r) ?_ ?_
  ·refine bC [] [] ⟨64,[(0,.str x1),(4,.i r2.1),(5,.i r2.2),(6,.nils),(7,.i (0:Int))],[],[],0⟩ trivial ?_;refine aaJ (abG (α:=Nat×(Int×Nat×List Ty0)) (fun x=>match x with|(_,i3,n4,l5)=>⟨64,[(0,.str x1),(4,.i r2.1),(5,.i i3),(6,.own 5006),(7,.i (n4:Int))],[(5006,aU l5)],[],0⟩) (fun x=>jJ x1 r2 K1 x.1 x.2=some r) (fun x=>x.1) (aY,r2.2,0,[]) (aaI (aaI (adE 6 5006 9 1 (bY eS [] []) rfl rfl (aaW rfl)) (LR (s':=⟨64,[(0,.str x1),(4,.i r2.1),(5,.i r2.2),(6,.own 5006),(7,.i (0:Int))],[(5006,aU [])],[],0⟩))) LR) h ?_)
   rintro⟨k0,i3,n4,l5⟩ h
   cases k0 with
   |zero=>exact nEx h
   |succ k0=>
   obtain⟨C0,hC0⟩:∃C,C=jJ x1 r2 K1 k0:=⟨_,rfl⟩;replace h:=(jJ.eq_2 ..).symm.trans h
   try rw[<-hC0]at h
   refine aaE (aN [] [] [0,4,5,6,7,19] [5006] trivial ?_);refine cK (decide ((n4:Int)<r2.1)) (fun hc2=> ?_) fun hc2=> ?_
   ·replace h:=aE hc2 h;refine aaG (tN (aaE (aaJ (aaE ?_))));obtain⟨r6,hr6,h⟩:=bind_ok h;obtain⟨ob0,h⟩:=aB h;refine aZ [] [(3,⟨[.str (x1.drop ((i3).toNat)),.i (200:Int)],[],[],[],.tup [.i r6.1,.i r6.2],[],[],[]⟩)] [0,4,5,6,7,8,9] [5006] (an2 ob0 (cpT (f112_ok _ _ _ hr6))) ?_;refine tN (aaE (aaE ?_));obtain⟨ob1,h⟩:=aB h;obtain⟨ob4,h⟩:=aB h;have ob10:true=true->(r6.2==(0:Int))=false->(xV r6)=true:=fun _ h=>beq_iff_eq.2 h;refine aZ [] [] [0,4,5,6,7,8,9,40] [5006] (an5 (aaK ob1 (an2 (idA ((xV r6)=true)) (idA ((xV r6)=true)))) (aaK ob4 (an2 (idA ((xV r6)=true)) (idA ((xV r6)=true)))) (an1 (idA ((xV r6)=true))) (an2 (idA ((xV r6)=true)) (idA ((xV r6)=true))) ob10) ?_;refine tN (cK ((r6.2==(0:Int))||(decide (((i3+r6.2)+r6.1)>(lZ x1)))) (fun hc3=> ?_) fun hc3=> ?_)
    ·replace h:=aE hc3 h;refine bC [] [] ⟨64,[(2,.nils),(3,.bool false)],[],[],0⟩ trivial ?_;refine aaS (aaI (adE 2 3000 9 1 (bY eS [] []) rfl rfl (aaW rfl)) (LR (s':=⟨64,(f81z3),[(3000,aU [])],[],0⟩))) ?_;obtain rfl:=aaD h;refine aaS (LR (s':=⟨64,(f81z3),[(3000,aU [])],[],0⟩)) ?_;refine aaH (tR (kR (tR (tR (kR (aR ?_))))));exact bK
    ·replace h:=aF hc3 h;refine aaG (tN (aaE ?_));obtain⟨ob11,ob12,ob13,ob14,ob15,h⟩:=ck5 h;refine bB [] [] ⟨64,(f81z2 x1 r2 i3 n4 r6),[(5006,.rows 9 1 ((l5).length+1) (fH (l5).length (bY eS [] l5) (dE 1 [.str ((x1.take ((((i3+r6.2)+r6.1)).toNat)).drop (((i3+r6.2)).toNat))])))],[],0⟩ (an5 ob11 ob12 ob13 ob14 ob15) ?_;refine tN (aaS (acO (s':=⟨64,(f81z2 x1 r2 i3 n4 r6),(f81z1 l5 x1 i3 r6),[],0⟩) rfl rfl ⟨.refl _,.refl _,.refl _,.refl _,.refl _,.refl _,.refl _,trivial⟩ ⟨⟨_,rfl,(acE (adF (acH _) (acM (enc:=eS) [((x1.take ((((i3+r6.2)+r6.1)).toNat)).drop (((i3+r6.2)).toNat))] rfl rfl (fun _=>rfl))))⟩,trivial⟩) ?_);obtain⟨ob16,ob17,h⟩:=ck2 h;refine aZ [] [] [0,4,5,6,7] [5006] (an2 ob16 ob17) ?_;refine kN (tN ?_);obtain⟨ob18p,h⟩:=aB h;refine bB [] [] ⟨64,[(0,.str x1),(4,.i r2.1),(5,.i ((i3+r6.2)+r6.1)),(6,.own 5006),(7,.i (((n4+1):Nat):Int))],(f81z1 l5 x1 i3 r6),[],0⟩ (an1 (iP ob18p)) ?_;rw[hC0]at h;exact lN (_,((i3+r6.2)+r6.1),(n4+1),(l5++[((x1.take ((((i3+r6.2)+r6.1)).toNat)).drop (((i3+r6.2)).toNat))])) LR h (aaM _)
   ·replace h:=aF hc2 h;refine abJ (tE (tE (kS ?_)));exact jN (i3,l5) LR h
  ·rintro⟨i7,l8⟩ h;replace h:=(congrFun hK1 _).symm.trans h;refine bC [] [] ⟨64,[(2,.own 5006),(3,.bool (i7==(lZ x1)))],[(5006,aU l8)],[],0⟩ trivial ?_;refine aaS (aaI (abX (aV 5006 3000) (aD 5006 3000) rfl) (LR (s':=⟨64,[(2,.own 3000),(3,.bool (i7==(lZ x1)))],[(3000,aU l8)],[],0⟩))) ?_;obtain rfl:=aaD h;refine aaS (LR (s':=⟨64,[(2,.own 3000),(3,.bool (i7==(lZ x1)))],[(3000,aU l8)],[],0⟩)) ?_;refine aaH ?_;exact bK
def f88 :Nat->Int->Option Ty0
 |0,_=>none
 |k+1,x1=>
  if(decide (x1<(10:Int)))then(
  chk (-9223372036854775808<=((48:Int)+x1)/\((48:Int)+x1)<=9223372036854775807)<|
  chk (0<=((48:Int)+x1)/\((48:Int)+x1)<=255)<|
  some [UInt8.ofNat ((((48:Int)+x1)).toNat)]
  )else(
  ((f88 k) (x1/(10:Int))).bind fun r2=>
  chk (0<=x1/\1<=(10:Int)/\ -9223372036854775808<=(x1/(10:Int))/\(x1/(10:Int))<=9223372036854775807)<|
  chk (0<=x1/\1<=(10:Int))<|
  chk (-9223372036854775808<=((48:Int)+(x1%(10:Int)))/\((48:Int)+(x1%(10:Int)))<=9223372036854775807)<|
  chk (0<=((48:Int)+(x1%(10:Int)))/\((48:Int)+(x1%(10:Int)))<=255)<|
  chk (r2.length+[UInt8.ofNat ((((48:Int)+(x1%(10:Int)))).toNat)].length<=9223372036854775807)<|
  some (r2++[UInt8.ofNat ((((48:Int)+(x1%(10:Int)))).toNat)])
  )
theorem aBn :∀(k:Nat) (x1:Int) (r:aaA),f88 k x1=some r->aG Tryz.prog 88 [] [] [] [.i x1] (.str r) []:=by
 intro k
 induction k with
 |zero=>intro x1 r h;exact nEx h
 |succ k ih=>
 intro x1 r h;obtain⟨Frec,hFrec⟩:∃C,C=f88 k:=⟨_,rfl⟩;rw[f88.eq_2]at h;rw[<-hFrec]at h ih;refine aG.body 0 _ _ Tryz.func88 rfl Tryz.ntmps88 rfl rfl ?_;refine aN [] [] [0] [] trivial ?_;refine aaE (aN [] [] [0,4] [] trivial ?_);refine cK (decide (x1<(10:Int))) (fun hc1=> ?_) fun hc1=> ?_
 ·replace h:=aE hc1 h;refine aaE ?_;obtain⟨ob0,ob1,h⟩:=ck2 h;have ob2:∀i,i<1->isByte ((dE 1 [.int .u8 ((48:Int)+x1)]) i 0):=fun i hi=>match i,hi with|0,_=>trivial
  refine bB [] [] ⟨20,[(2,.str [UInt8.ofNat ((((48:Int)+x1)).toNat)])],[],[],0⟩ (an3 ob0 ob1 ob2) ?_;refine tN ?_;obtain rfl:=aaD h;refine aaH (tR ?_);exact bK
 ·replace h:=aF hc1 h;refine aaG (tN (aaE ?_));obtain⟨r2,hr2,h⟩:=bind_ok h;obtain⟨ob3,ob4,ob5,ob6,h⟩:=ck4 h;have ob7:∀i,i<1->isByte ((dE 1 [.int .u8 ((48:Int)+(x1%(10:Int)))]) i 0):=fun i hi=>match i,hi with|0,_=>trivial
  obtain⟨ob8,h⟩:=aB h;refine aZ [] [(2,⟨[.i (x1/(10:Int))],[],[],[],.str r2,[],[],[]⟩)] [2] [] (ac6 ob3 (cpT (ih _ _ hr2)) ob4 ob5 ob6 ob7 (an1 ob8)) ?_;refine tN ?_;obtain rfl:=aaD h;refine aaH ?_;exact bK
def gG (x1:aaA) (K1:Int->Option Int):Nat->(Int×Nat)->Option Int
 |0,_=>none
 |k+1,(i2,n3)=>
  if(decide ((n3:Int)<((x1.length:Nat):Int)))then(
  chk ((n3:Int)<((x1.length:Nat):Int))<|
  chk (((decide ((((x1.getD n3 0).toNat:Nat):Int)<(48:Int)))==false)=true->0<=(n3:Int)/\(n3:Int)<((x1.length:Nat):Int))<|
  if(((decide ((((x1.getD n3 0).toNat:Nat):Int)<(48:Int)))||(decide ((((x1.getD n3 0).toNat:Nat):Int)>(57:Int))))||(decide ((n3:Int)>(6:Int))))then(
  some (-1:Int)
  )else(
  chk (-9223372036854775808<=((10:Int) *i2)/\((10:Int) *i2)<=9223372036854775807)<|
  chk ((n3:Int)<((x1.length:Nat):Int))<|
  chk (0<=((((x1.getD n3 0).toNat:Nat):Int)-(48:Int))/\((((x1.getD n3 0).toNat:Nat):Int)-(48:Int))<=255)<|
  chk (-9223372036854775808<=((((x1.getD n3 0).toNat:Nat):Int)-(48:Int))/\((((x1.getD n3 0).toNat:Nat):Int)-(48:Int))<=9223372036854775807)<|
  chk (-9223372036854775808<=(((10:Int) *i2)+((((x1.getD n3 0).toNat:Nat):Int)-(48:Int)))/\(((10:Int) *i2)+((((x1.getD n3 0).toNat:Nat):Int)-(48:Int)))<=9223372036854775807)<|
  chk (((n3:Int)+(1:Int))<=9223372036854775807)<|
  (gG x1 K1 k) ((((10:Int) *i2)+((((x1.getD n3 0).toNat:Nat):Int)-(48:Int))),(n3+1))
  )
  )else(
  K1 i2
  )
def f82 (x1:aaA):Option Int:=
 jn (fun(i4:Int)=>
 eO ((x1==[])==false) (f88 aY i4) fun r5=>
 if((x1==[])||(!(r5==x1)))then(
 some (-1:Int)
 )else(
 some i4
 )
 ) fun(K1:Int->Option Int)=>
 gG x1 K1 aY ((0:Int),0)
theorem f82_ok (x1:aaA) (r:Int) (h:f82 x1=some r):aG Tryz.prog 82 [] [] [] [.str x1] (.i r) []:=by
 unfold f82 at h;refine aG.body 0 _ _ Tryz.func82 rfl Tryz.ntmps82 rfl rfl ?_;refine aN [] [] [0] [] trivial ?_;refine bC [] [] ⟨42,[(0,.str x1),(3,.i (0:Int))],[],[],0⟩ trivial ?_;obtain⟨K1,hK1,h⟩:=aI h;refine aaR (α:=Int) (fun(i4:Int)=>⟨42,[(0,.str x1),(3,.i i4)],[],[],0⟩) (fun x=>K1 x=some r) ?_ ?_
 ·refine aN [] [] [0,3,4] [] trivial ?_;refine aaJ (abG (α:=Nat×(Int×Nat)) (fun x=>match x with|(_,i2,n3)=>⟨42,[(0,.str x1),(3,.i i2),(4,.i (n3:Int))],[],[],0⟩) (fun x=>gG x1 K1 x.1 x.2=some r) (fun x=>x.1) (aY,(0:Int),0) LR h ?_)
  rintro⟨k0,i2,n3⟩ h
  cases k0 with
  |zero=>exact nEx h
  |succ k0=>
  obtain⟨C0,hC0⟩:∃C,C=gG x1 K1 k0:=⟨_,rfl⟩;replace h:=(gG.eq_2 ..).symm.trans h
  try rw[<-hC0]at h
  refine aaE (aN [] [] [0,3,4,8] [] trivial ?_);refine cK (decide ((n3:Int)<(lZ x1))) (fun hc1=> ?_) fun hc1=> ?_
  ·replace h:=aE hc1 h;refine aaG (tN (aaE (aaJ (aaE (aaE ?_)))));obtain⟨ob0p,h⟩:=aB h;obtain⟨ob1,h⟩:=aB h;refine aZ [] [] [0,3,4,24] [] (an6 (iN ob0p) (aaK ob1 (an2 (idA (((decide ((((x1.getD n3 0).toNat:Nat):Int)<(48:Int)))==false)=true)) (idA (((decide ((((x1.getD n3 0).toNat:Nat):Int)<(48:Int)))==false)=true)))) (an1 (idA (((decide ((((x1.getD n3 0).toNat:Nat):Int)<(48:Int)))==false)=true))) (bqA (decide ((((x1.getD n3 0).toNat:Nat):Int)<(48:Int))) false) (an1 (idA ((((decide ((((x1.getD n3 0).toNat:Nat):Int)<(48:Int)))||(decide ((((x1.getD n3 0).toNat:Nat):Int)>(57:Int))))==false)=true))) (bqA ((decide ((((x1.getD n3 0).toNat:Nat):Int)<(48:Int)))||(decide ((((x1.getD n3 0).toNat:Nat):Int)>(57:Int)))) false)) ?_;refine tN (cK (((decide ((((x1.getD n3 0).toNat:Nat):Int)<(48:Int)))||(decide ((((x1.getD n3 0).toNat:Nat):Int)>(57:Int))))||(decide ((n3:Int)>(6:Int)))) (fun hc2=> ?_) fun hc2=> ?_)
   ·replace h:=aE hc2 h;refine bC [] [] ⟨42,[(2,.i (-1:Int))],[],[],0⟩ trivial ?_;obtain rfl:=aaD h;refine aaH (tR (kR (tR (tR (kR (aR ?_))))));exact bK
   ·replace h:=aF hc2 h;refine aaG (tN ?_);obtain⟨ob8,ob9p,h⟩:=ck2 h;obtain⟨ob10,ob11,ob12,h⟩:=ck3 h;refine aZ [] [] [0,3,4] [] (an5 ob8 (iN ob9p) ob10 ob11 ob12) ?_;refine kN (tN ?_);obtain⟨ob13p,h⟩:=aB h;refine bB [] [] ⟨42,[(0,.str x1),(3,.i (((10:Int) *i2)+((((x1.getD n3 0).toNat:Nat):Int)-(48:Int)))),(4,.i (((n3+1):Nat):Int))],[],[],0⟩ (an1 (iP ob13p)) ?_;rw[hC0]at h;exact lN (_,(((10:Int) *i2)+((((x1.getD n3 0).toNat:Nat):Int)-(48:Int))),(n3+1)) LR h (aaM _)
  ·replace h:=aF hc1 h;refine abJ (tE (tE (kS ?_)));exact jN (i2) LR h
 ·rintro i4 h;replace h:=(congrFun hK1 _).symm.trans h;refine aaE (aaE ?_);obtain⟨r5,hr5,h⟩:=bI h;refine aZ [] [(4,⟨[.i i4],[],[],[],.str r5,[],[],[]⟩)] [3,40] [] (an3 (aaK (cpC fun hc=>(aBn aY _ _ (hr5 hc))) (an1 (idA (((x1==[])==false)=true)))) (an2 (idA (((x1==[])==false)=true)) (idA (((x1==[])==false)=true))) (bqA (x1==[]) false)) ?_;refine tN (cK ((x1==[])||(!(r5==x1))) (fun hc3=> ?_) fun hc3=> ?_)
  ·replace h:=aE hc3 h;refine bC [] [] ⟨42,[(2,.i (-1:Int))],[],[],0⟩ trivial ?_;obtain rfl:=aaD h;refine aaH (tR ?_);exact bK
  ·replace h:=aF hc3 h;refine aaG (tN (aN [] [] [2] [] trivial ?_));obtain rfl:=aaD h;refine aaH ?_;exact bK
abbrev aBP (x1:Int):=((decide (x1<(0:Int)))||(decide (x1>=(6:Int))))
abbrev aBO (x1 x2:Int):=((aBP x1)||(decide (x2<(1:Int))))
abbrev f119z2 (x1:Int):=((decide (x1<(0:Int)))==false)
def f119 (x1 x2:Int) (x3:aaA):Option Int:=
 if((((decide (x1<(0:Int)))||(decide (x1>=(6:Int))))||(decide (x2<(1:Int))))||(decide (x2>(1000000:Int))))then(
 some (7:Int)
 )else(
 if(x3==[])then(
 some (9:Int)
 )else(
 if(decide (((x3.length:Nat):Int)>(200:Int)))then(
 some (3:Int)
 )else(
 some (0:Int)
 )
 )
 )
theorem f119_ok (x1 x2:Int) (x3:aaA) (r:Int) (h:f119 x1 x2 x3=some r):aG Tryz.prog 119 [] [] [] [.agg [.i x1,.i x2,.str x3]] (.i r) []:=by
 unfold f119 at h;refine aG.body 0 _ _ Tryz.func119 rfl Tryz.ntmps119 rfl rfl ?_;refine aN [] [] [1] [1] trivial ?_;refine aaE (aaE ?_);have ob2:true=true->(decide (x1<(0:Int)))=false->(f119z2 x1)=true:=fun _ h=>beq_iff_eq.2 h;refine aZ [] [] [1,20] [1] (ac6 (an1 (idA ((f119z2 x1)=true))) (an1 (idA ((f119z2 x1)=true))) ob2 (an1 (idA (((aBP x1)==false)=true))) (an1 (idA (((aBP x1)==false)=true))) (bqA (aBP x1) false) (an3 (an1 (idA (((aBO x1 x2)==false)=true))) (an1 (idA (((aBO x1 x2)==false)=true))) (bqA (aBO x1 x2) false))) ?_;refine tN (cK ((aBO x1 x2)||(decide (x2>(1000000:Int)))) (fun hc1=> ?_) fun hc1=> ?_)
 ·replace h:=aE hc1 h;refine bC [] [] ⟨28,[(2,.i (7:Int))],[],[],0⟩ trivial ?_;obtain rfl:=aaD h;refine aaH (tR ?_);exact bK
 ·replace h:=aF hc1 h;refine aaG (tN (aaE (aN [] [] [1,23] [1] trivial ?_)));refine cK (x3==[]) (fun hc2=> ?_) fun hc2=> ?_
  ·replace h:=aE hc2 h;refine bC [] [] ⟨28,[(2,.i (9:Int))],[],[],0⟩ trivial ?_;obtain rfl:=aaD h;refine aaH (tR ?_);exact bK
  ·replace h:=aF hc2 h;refine aaG (tN (aaE (aN [] [] [27] [] trivial ?_)));refine cK (decide ((lZ x3)>(200:Int))) (fun hc3=> ?_) fun hc3=> ?_
   ·replace h:=aE hc3 h;refine bC [] [] ⟨28,[(2,.i (3:Int))],[],[],0⟩ trivial ?_;obtain rfl:=aaD h;refine aaH (tR ?_);exact bK
   ·replace h:=aF hc3 h;refine aaG (tN (aN [] [] [2] [] trivial ?_));obtain rfl:=aaD h;refine aaH ?_;exact bK
def f149 (x1 x2:Int) (x3:aaA) (x4 x5:Int) (x6:aaA):Option Bool:=
 some ((x1==x4)&&(x2==x5))
theorem f149_ok (x1 x2:Int) (x3:aaA) (x4 x5:Int) (x6:aaA) (r:Bool) (h:f149 x1 x2 x3 x4 x5 x6=some r):aG Tryz.prog 149 [] [] [] [.agg [.i x1,.i x2,.str x3],.agg [.i x4,.i x5,.str x6]] (.bool r) []:=by
 unfold f149 at h;refine aG.body 0 _ _ Tryz.func149 rfl Tryz.ntmps149 rfl rfl ?_;refine aN [] [] [2,3] [2,3] trivial ?_;refine aaE (bB [] [] ⟨17,[(4,.bool ((x1==x4)&&(x2==x5)))],[],[],0⟩ (an4 (an1 (idA (((x1==x4)==true)=true))) (an1 (idA (((x1==x4)==true)=true))) (an2 (idA (((x1==x4)==true)=true)) (idA (((x1==x4)==true)=true))) (bqA (x1==x4) true)) ?_);refine tN ?_;obtain rfl:=aaD h;refine aaH ?_;exact bK
def iF (x1:List Tq0) (x2 x3:Int) (x4:aaA) (K1:Unit->Option Bool):Nat->Nat->Option Bool
 |0,_=>none
 |k+1,n5=>
  if(decide ((n5:Int)<(((x1).length:Nat):Int)))then(
  (f149 ((x1.getD n5 (default:Tq0)).1) ((x1.getD n5 (default:Tq0)).2.1) ((x1.getD n5 (default:Tq0)).2.2) x2 x3 x4).bind fun r6=>
  chk ((n5:Int)<(((x1).length:Nat):Int))<|
  if r6 then(
  some true
  )else(
  chk (((n5:Int)+(1:Int))<=9223372036854775807)<|
  (iF x1 x2 x3 x4 K1 k) (n5+1)
  )
  )else(
  K1 ()
  )
abbrev aBL (x2 x3:Int) (x4:aaA):aJ:=[(3,.cells 88 [.i x2,.i x3,.str x4])]
def f120 (x1:List Tq0) (x2 x3:Int) (x4:aaA):Option Bool:=
 jn (fun(_:Unit)=>
 some false
 ) fun(K1:Unit->Option Bool)=>
 iF x1 x2 x3 x4 K1 aY 0
theorem f120_ok (x1:List Tq0) (x2 x3:Int) (x4:aaA) (r:Bool) (h:f120 x1 x2 x3 x4=some r):aG Tryz.prog 120 [] [] [] [vL 3 cC (default:Tq0) x1,.agg [.i x2,.i x3,.str x4]] (.bool r) []:=by
 unfold f120 at h;refine aG.body 0 _ _ Tryz.func120 rfl Tryz.ntmps120 rfl rfl ?_;refine aN [] [] [0,3] [3] trivial ?_;obtain⟨K1,hK1,h⟩:=aI h;refine aaR (fun(x:Unit)=>match x with|()=>⟨18,[],[],[],0⟩) (fun x=>K1 x=some r) ?_ ?_
 ·refine bC [] [] ⟨18,[(0,bH x1),(3,.ptr 3 0),(5,.i (0:Int))],(aBL x2 x3 x4),[],0⟩ trivial ?_;refine aaJ (abG (α:=Nat×Nat) (fun x=>match x with|(_,n5)=>⟨18,[(0,bH x1),(3,.ptr 3 0),(5,.i (n5:Int))],(aBL x2 x3 x4),[],0⟩) (fun x=>iF x1 x2 x3 x4 K1 x.1 x.2=some r) (fun x=>x.1) (aY,0) LR h ?_)
  rintro⟨k0,n5⟩ h
  cases k0 with
  |zero=>exact nEx h
  |succ k0=>
  obtain⟨C0,hC0⟩:∃C,C=iF x1 x2 x3 x4 K1 k0:=⟨_,rfl⟩;replace h:=(iF.eq_2 ..).symm.trans h
  try rw[<-hC0]at h
  refine aaE (aN [] [] [0,3,5,9] [3] trivial ?_);refine cK (decide ((n5:Int)<(lZ x1))) (fun hc1=> ?_) fun hc1=> ?_
  ·replace h:=aE hc1 h;refine aaG (tN (aaE (aaJ (aaE ?_))));obtain⟨r6,hr6,h⟩:=bind_ok h;obtain⟨ob0p,h⟩:=aB h;refine bB [] [(5,⟨[.agg [.i (x1.getD n5 bE).1,.i (x1.getD n5 bE).2.1,.str (x1.getD n5 bE).2.2],.agg [.i x2,.i x3,.str x4]],[],[],[],.bool r6,[],[],[]⟩)] ⟨18,[(0,bH x1),(3,.ptr 3 0),(5,.i (n5:Int)),(17,.bool r6)],(aBL x2 x3 x4),[],0⟩ (an2 (iN ob0p) (cpT (f149_ok _ _ _ _ _ _ _ hr6))) ?_;refine tN (cK r6 (fun hc2=> ?_) fun hc2=> ?_)
   ·replace h:=aE hc2 h;refine aN [] [] [4] [] trivial ?_;obtain rfl:=aaD h;refine aaH (kR (tR (tR (kR (aR ?_)))));exact bK
   ·replace h:=aF hc2 h;refine aaG (kN (tN ?_));obtain⟨ob1p,h⟩:=aB h;refine bB [] [] ⟨18,[(0,bH x1),(3,.ptr 3 0),(5,.i (((n5+1):Nat):Int))],(aBL x2 x3 x4),[],0⟩ (an1 (iP ob1p)) ?_;rw[hC0]at h;exact lN (_,(n5+1)) LR h (aaM _)
  ·replace h:=aF hc1 h;refine abJ (tE (tE (kS ?_)));exact jN () LR h
 ·rintro⟨⟩ h;replace h:=(congrFun hK1 _).symm.trans h;refine aN [] [] [4] [] trivial ?_;obtain rfl:=aaD h;refine aaH ?_;exact bK
def lC (x1:List Tq0) (K1:Unit->Option Int):Nat->Nat->Option Int
 |0,_=>none
 |k+1,n2=>
  if(decide ((n2:Int)<(((x1).length:Nat):Int)))then(
  (f119 ((x1.getD n2 (default:Tq0)).1) ((x1.getD n2 (default:Tq0)).2.1) ((x1.getD n2 (default:Tq0)).2.2)).bind fun r3=>
  chk ((n2:Int)<(((x1).length:Nat):Int))<|
  if(r3 !=(0:Int))then(
  some r3
  )else(
  (f120 (x1.take n2) ((x1.getD n2 (default:Tq0)).1) ((x1.getD n2 (default:Tq0)).2.1) ((x1.getD n2 (default:Tq0)).2.2)).bind fun r4=>
  chk ((n2:Int)<=(((x1).length:Nat):Int))<|
  chk ((n2:Int)<(((x1).length:Nat):Int))<|
  if r4 then(
  some (5:Int)
  )else(
  chk (((n2:Int)+(1:Int))<=9223372036854775807)<|
  (lC x1 K1 k) (n2+1)
  )
  )
  )else(
  K1 ()
  )
abbrev f86z0 (x1:List Tq0) (n2:Nat):List V:=[.i (x1.getD n2 (default:Tq0)).1,.i (x1.getD n2 (default:Tq0)).2.1,.str (x1.getD n2 (default:Tq0)).2.2]
def f86 (x1:List Tq0):Option Int:=
 jn (fun(_:Unit)=>
 some (0:Int)
 ) fun(K1:Unit->Option Int)=>
 lC x1 K1 aY 0
theorem f86_ok (x1:List Tq0) (r:Int) (h:f86 x1=some r):aG Tryz.prog 86 [] [] [] [vL 3 cC (default:Tq0) x1] (.i r) []:=by
 unfold f86 at h;refine aG.body 0 _ _ Tryz.func86 rfl Tryz.ntmps86 rfl rfl ?_;refine aN [] [] [0] [] trivial ?_;obtain⟨K1,hK1,h⟩:=aI h;refine aaR (fun(x:Unit)=>match x with|()=>⟨27,[],[],[],0⟩) (fun x=>K1 x=some r) ?_ ?_
 ·refine bC [] [] ⟨27,[(0,bH x1),(3,.i (0:Int))],[],[],0⟩ trivial ?_;refine aaJ (abG (α:=Nat×Nat) (fun x=>match x with|(_,n2)=>⟨27,[(0,bH x1),(3,.i (n2:Int))],[],[],0⟩) (fun x=>lC x1 K1 x.1 x.2=some r) (fun x=>x.1) (aY,0) LR h ?_)
  rintro⟨k0,n2⟩ h
  cases k0 with
  |zero=>exact nEx h
  |succ k0=>
  obtain⟨C0,hC0⟩:∃C,C=lC x1 K1 k0:=⟨_,rfl⟩;replace h:=(lC.eq_2 ..).symm.trans h
  try rw[<-hC0]at h
  refine aaE (aN [] [] [0,3,8] [] trivial ?_);refine cK (decide ((n2:Int)<(lZ x1))) (fun hc1=> ?_) fun hc1=> ?_
  ·replace h:=aE hc1 h;refine aaG (tN (aaE (aaJ (aaE (aaE ?_)))));obtain⟨r3,hr3,h⟩:=bind_ok h;obtain⟨ob0p,h⟩:=aB h;refine aZ [] [(4,⟨[.agg (f86z0 x1 n2)],[],[],[],.i r3,[],[],[]⟩)] [0,3,4] [] (an2 (iN ob0p) (cpT (f119_ok _ _ _ _ hr3))) ?_;refine tN (aN [] [] [0,3,4,17] [] trivial ?_);refine cK (r3 !=(0:Int)) (fun hc2=> ?_) fun hc2=> ?_
   ·replace h:=aE hc2 h;refine bC [] [] ⟨27,[(2,.i r3)],[],[],0⟩ trivial ?_;obtain rfl:=aaD h;refine aaH (tR (kR (tR (tR (kR (aR ?_))))));exact bK
   ·replace h:=aF hc2 h;refine aaG (tN (aaE ?_));obtain⟨r4,hr4,h⟩:=bind_ok h;obtain⟨ob1p,h⟩:=aB h;obtain⟨ob2p,h⟩:=aB h;refine aZ [] [(7,⟨[bH (x1.take n2),.agg (f86z0 x1 n2)],[],[],[],.bool r4,[],[],[]⟩)] [0,3,26] [] (an3 (iL ob1p) (iN ob2p) (cpL (c:=true) [] [] [.arr 3 n2 (bY cC bE x1),.agg (f86z0 x1 n2)] (fun _=>(f120_ok _ _ _ _ _ hr4)) (fun _=>⟨(VLe.takeL (by first|omega|(simp only[aaF,aaN,abB,abE,aaZ]at *;omega)|(simp;done)|(simp_all;done)|(simp_all;omega)|rfl)),.refl _,trivial⟩) (.inl rfl))) ?_;refine tN (cK r4 (fun hc3=> ?_) fun hc3=> ?_)
    ·replace h:=aE hc3 h;refine bC [] [] ⟨27,[(2,.i (5:Int))],[],[],0⟩ trivial ?_;obtain rfl:=aaD h;refine aaH (kR (tR (tR (kR (aR ?_)))));exact bK
    ·replace h:=aF hc3 h;refine aaG (kN (tN ?_));obtain⟨ob3p,h⟩:=aB h;refine aZ [] [] [0,3] [] (an1 (iP ob3p)) ?_;rw[hC0]at h;exact lN (_,(n2+1)) LR h (aaM _)
  ·replace h:=aF hc1 h;refine abJ (tE (tE (kS ?_)));exact jN () LR h
 ·rintro⟨⟩ h;replace h:=(congrFun hK1 _).symm.trans h;refine aN [] [] [2] [] trivial ?_;obtain rfl:=aaD h;refine aaH ?_;exact bK
def aC2 :Nat->Int->Option Ty0
 |0,_=>none
 |k+1,x1=>
  if(decide (x1<(128:Int)))then(
  chk (0<=x1/\x1<=255)<|
  some [UInt8.ofNat ((x1).toNat)]
  )else(
  ((aC2 k) (x1/(128:Int))).bind fun r2=>
  chk (0<=x1/\1<=(128:Int))<|
  chk (-9223372036854775808<=((x1%(128:Int))+(128:Int))/\((x1%(128:Int))+(128:Int))<=9223372036854775807)<|
  chk (0<=((x1%(128:Int))+(128:Int))/\((x1%(128:Int))+(128:Int))<=255)<|
  chk (0<=x1/\1<=(128:Int)/\ -9223372036854775808<=(x1/(128:Int))/\(x1/(128:Int))<=9223372036854775807)<|
  chk ([UInt8.ofNat ((((x1%(128:Int))+(128:Int))).toNat)].length+r2.length<=9223372036854775807)<|
  some ([UInt8.ofNat ((((x1%(128:Int))+(128:Int))).toNat)]++r2)
  )
theorem f121_ok :∀(k:Nat) (x1:Int) (r:aaA),aC2 k x1=some r->aG Tryz.prog 121 [] [] [] [.i x1] (.str r) []:=by
 intro k
 induction k with
 |zero=>intro x1 r h;exact nEx h
 |succ k ih=>
 intro x1 r h;obtain⟨Frec,hFrec⟩:∃C,C=aC2 k:=⟨_,rfl⟩;rw[aC2.eq_2]at h;rw[<-hFrec]at h ih;refine aG.body 0 _ _ Tryz.func121 rfl Tryz.ntmps121 rfl rfl ?_;refine aN [] [] [0] [] trivial ?_;refine aaE (aN [] [] [0,4] [] trivial ?_);refine cK (decide (x1<(128:Int))) (fun hc1=> ?_) fun hc1=> ?_
 ·replace h:=aE hc1 h;refine aaE ?_;obtain⟨ob0,h⟩:=aB h;have ob1:∀i,i<1->isByte ((dE 1 [.int .u8 x1]) i 0):=fun i hi=>match i,hi with|0,_=>trivial
  refine bB [] [] ⟨19,[(2,.str [UInt8.ofNat ((x1).toNat)])],[],[],0⟩ (an2 ob0 ob1) ?_;refine tN ?_;obtain rfl:=aaD h;refine aaH (tR ?_);exact bK
 ·replace h:=aF hc1 h;refine aaG (tN (aaE ?_));obtain⟨r2,hr2,h⟩:=bind_ok h;obtain⟨ob2,ob3,ob4,h⟩:=ck3 h;have ob5:∀i,i<1->isByte ((dE 1 [.int .u8 ((x1%(128:Int))+(128:Int))]) i 0):=fun i hi=>match i,hi with|0,_=>trivial
  obtain⟨ob6,ob7,h⟩:=ck2 h;refine aZ [] [(8,⟨[.i (x1/(128:Int))],[],[],[],.str r2,[],[],[]⟩)] [2] [] (ac6 ob2 ob3 ob4 ob5 ob6 (cpT (ih _ _ hr2)) (an1 ob7)) ?_;refine tN ?_;obtain rfl:=aaD h;refine aaH ?_;exact bK
def jI (x1:List Ty0) (K1:Ty0->Option Ty0):Nat->(aaA×Nat)->Option Ty0
 |0,_=>none
 |k+1,(s3,n4)=>
  if(decide ((n4:Int)<(((x1).length:Nat):Int)))then(
  (aC2 aY (((x1.getD n4 []).length:Nat):Int)).bind fun r5=>
  chk ((n4:Int)<(((x1).length:Nat):Int))<|
  chk (s3.length+r5.length<=9223372036854775807)<|
  chk ((n4:Int)<(((x1).length:Nat):Int))<|
  chk ((s3++r5).length+(x1.getD n4 []).length<=9223372036854775807)<|
  chk (((n4:Int)+(1:Int))<=9223372036854775807)<|
  (jI x1 K1 k) (((s3++r5)++(x1.getD n4 [])),(n4+1))
  )else(
  K1 s3
  )
def f87 (x1:List Ty0):Option Ty0:=
 (aC2 aY (((x1).length:Nat):Int)).bind fun r2=>
 jn (fun(s6:aaA)=>
 some s6
 ) fun(K1:Ty0->Option Ty0)=>
 jI x1 K1 aY (r2,0)
theorem f87_ok (x1:List Ty0) (r:aaA) (h:f87 x1=some r):aG Tryz.prog 87 [] [] [] [vL 1 eS [] x1] (.str r) []:=by
 unfold f87 at h;refine aG.body 0 _ _ Tryz.func87 rfl Tryz.ntmps87 rfl rfl ?_;refine aN [] [] [0] [] trivial ?_;refine aaE ?_;obtain⟨r2,hr2,h⟩:=bind_ok h;refine bB [] [(2,⟨[.i (lZ x1)],[],[],[],.str r2,[],[],[]⟩)] ⟨28,[(0,cQ x1),(3,.str r2)],[],[],0⟩ (an1 (cpT (f121_ok aY _ _ hr2))) ?_;refine tN ?_;obtain⟨K1,hK1,h⟩:=aI h;refine aaR (α:=aaA) (fun(s6:aaA)=>⟨28,[(3,.str s6)],[],[],0⟩) (fun x=>K1 x=some r) ?_ ?_
 ·refine aN [] [] [0,3,4] [] trivial ?_;refine aaJ (abG (α:=Nat×(aaA×Nat)) (fun x=>match x with|(_,s3,n4)=>⟨28,[(0,cQ x1),(3,.str s3),(4,.i (n4:Int))],[],[],0⟩) (fun x=>jI x1 K1 x.1 x.2=some r) (fun x=>x.1) (aY,r2,0) LR h ?_)
  rintro⟨k0,s3,n4⟩ h
  cases k0 with
  |zero=>exact nEx h
  |succ k0=>
  obtain⟨C0,hC0⟩:∃C,C=jI x1 K1 k0:=⟨_,rfl⟩;replace h:=(jI.eq_2 ..).symm.trans h
  try rw[<-hC0]at h
  refine aaE (aN [] [] [0,3,4,11] [] trivial ?_);refine cK (decide ((n4:Int)<(lZ x1))) (fun hc1=> ?_) fun hc1=> ?_
  ·replace h:=aE hc1 h;refine aaG (tN (aaE (aaJ ?_)));obtain⟨r5,hr5,h⟩:=bind_ok h;obtain⟨ob0p,h⟩:=aB h;obtain⟨ob1,ob2p,h⟩:=ck2 h;obtain⟨ob3,h⟩:=aB h;refine bB [] [(6,⟨[.i (((x1.getD n4 []).length:Nat):Int)],[],[],[],.str r5,[],[],[]⟩)] ⟨28,[(0,cQ x1),(3,.str ((s3++r5)++(x1.getD n4 []))),(4,.i (n4:Int))],[],[],0⟩ (an5 (iN ob0p) (cpT (f121_ok aY _ _ hr5)) ob1 (iN ob2p) ob3) ?_;refine kN (tN ?_);obtain⟨ob4p,h⟩:=aB h;refine aZ [] [] [0,3,4] [] (an1 (iP ob4p)) ?_;rw[hC0]at h;exact lN (_,((s3++r5)++(x1.getD n4 [])),(n4+1)) LR h (aaM _)
  ·replace h:=aF hc1 h;refine abJ (tE (tE (kS ?_)));exact jN (s3) LR h
 ·rintro s6 h;replace h:=(congrFun hK1 _).symm.trans h;refine aN [] [] [2] [] trivial ?_;obtain rfl:=aaD h;refine aaH ?_;exact bK
def jL (x3:List Tq0) (K1:(List Ty0)->Option Ty0):Nat->(Nat×List Ty0)->Option Ty0
 |0,_=>none
 |k+1,(n7,l8)=>
  if(decide ((n7:Int)<(((x3).length:Nat):Int)))then(
  chk ((n7:Int)<(((x3).length:Nat):Int))<|
  (f88 aY ((x3.getD n7 (default:Tq0)).1)).bind fun r9=>
  (f88 aY ((x3.getD n7 (default:Tq0)).2.1)).bind fun r10=>
  chk (((l8).length+3) *16<=140737488355328)<|
  chk (((n7:Int)+(1:Int))<=9223372036854775807)<|
  (jL x3 K1 k) ((n7+1),(l8++[r9,r10,(x3.getD n7 (default:Tq0)).2.2]))
  )else(
  K1 l8
  )
abbrev f65z0 (x1 x2:Int) (x3:List Tq0):List V:=[.i x1,.i x2,vL 3 cC (default:Tq0) x3]
abbrev aCE (x3:List Tq0) (n7:Nat):=(x3.getD n7 (default:Tq0))
abbrev f65z2 (n7:Nat):List (Nat×V):=[(1,.ptr 1 0),(3,.own 19),(4,.i (n7:Int))]
def f65 (x1 x2:Int) (x3:List Tq0):Option Ty0:=
 if(x1==(2:Int))then(
 (f88 aY x2).bind fun r4=>
 (f87 ([([106,111,105,110]:aaA),r4])).bind fun r5=>
 some r5
 )else(
 if(x1==(3:Int))then(
 (f87 [cs1]).bind fun r6=>
 some r6
 )else(
 jn (fun(l11:List Ty0)=>
 (f87 l11).bind fun r12=>
 some r12
 ) fun(K1:(List Ty0)->Option Ty0)=>
 jL x3 K1 aY (0,[cs2])
 )
 )
theorem f65_ok (x1 x2:Int) (x3:List Tq0) (r:aaA) (h:f65 x1 x2 x3=some r):aG Tryz.prog 65 [] [] [] [.agg [.i x1,.i x2,vL 3 cC (default:Tq0) x3]] (.str r) []:=by
 unfold f65 at h;refine aG.body 0 _ _ Tryz.func65 rfl Tryz.ntmps65 rfl rfl ?_;refine aN [] [] [1] [1] trivial ?_;refine aaE (aN [] [] [1,7] [1] trivial ?_);refine aaJ (aN [] [] [1,7,8] [1] trivial ?_);refine cK (x1==(2:Int)) (fun hc1=> ?_) fun hc1=> ?_
 ·replace h:=aE hc1 h;refine aaE ?_;obtain⟨r4,hr4,h⟩:=bind_ok h;obtain⟨r5,hr5,h⟩:=bind_ok h;refine bB [] [(2,⟨[.i x2],[],[],[],.str r4,[],[],[]⟩),(4,⟨[cQ [([106,111,105,110]:aaA),r4]],[],[],[],.str r5,[],[13],[]⟩)] ⟨45,[(2,.str r5)],[],[],0⟩ (an2 (cpT (aBn aY _ _ hr4)) (cpL (c:=true) [(13,.rows 9 1 2 (dE 1 [.str ([106,111,105,110]:aaA),.str r4]))] [13] [.own 13] (fun _=>(f87_ok _ _ hr5)) (fun _=>⟨(VLe.of (acM (enc:=eS) [([106,111,105,110]:aaA),r4] rfl rfl (fun _=>rfl))),trivial⟩) (.inr ⟨rfl,trivial⟩))) ?_;refine tN ?_;obtain rfl:=aaD h;refine aaH (kR (tR ?_));exact bK
 ·replace h:=aF hc1 h;refine aN [] [] [1,15] [1] trivial ?_;refine cK (x1==(3:Int)) (fun hc2=> ?_) fun hc2=> ?_
  ·replace h:=aE hc2 h;refine aaE ?_;obtain⟨r6,hr6,h⟩:=bind_ok h;refine bB [] [(1,⟨[cQ [cs1]],[],[],[],.str r6,[],[17],[]⟩)] ⟨45,[(2,.str r6)],[],[],0⟩ (an1 (cpL (c:=true) [(17,.rows 9 1 1 (dE 1 [.str cs1]))] [17] [.own 17] (fun _=>(f87_ok _ _ hr6)) (fun _=>⟨(VLe.of (acM (enc:=eS) [cs1] rfl rfl (fun _=>rfl))),trivial⟩) (.inr ⟨rfl,trivial⟩))) ?_;refine tN ?_;obtain rfl:=aaD h;refine aaH (kR (tR ?_));exact bK
  ·replace h:=aF hc2 h;refine aaG (kN (tN (bC [] [] ⟨45,[(1,.ptr 1 0),(3,.own 19)],[(1,.cells 100 (f65z0 x1 x2 x3)),(19,.rows 9 1 1 (dE 1 [.str cs2]))],[],0⟩ trivial ?_)));refine aaS (acO (s':=⟨45,[(1,.ptr 1 0),(3,.own 19)],[(1,.cells 100 (f65z0 x1 x2 x3)),(19,aU [cs2])],[],0⟩) rfl rfl ⟨.refl _,.refl _,trivial⟩ ⟨⟨_,rfl,.refl _⟩,⟨_,rfl,(acE (acM (enc:=eS) [cs2] rfl rfl (fun _=>rfl)))⟩,trivial⟩) ?_;obtain⟨K1,hK1,h⟩:=aI h;refine aaR (α:=List Ty0) (fun(l11:List Ty0)=>⟨45,[(3,.own 19)],[(19,aU l11)],[],0⟩) (fun x=>K1 x=some r) ?_ ?_
   ·refine aN [] [] [1,3,4] [1,19] trivial ?_;refine aaJ (abG (α:=Nat×(Nat×List Ty0)) (fun x=>match x with|(_,n7,l8)=>⟨45,(f65z2 n7),[(1,.cells 100 (f65z0 x1 x2 x3)),(19,aU l8)],[],0⟩) (fun x=>jL x3 K1 x.1 x.2=some r) (fun x=>x.1) (aY,0,[cs2]) LR h ?_)
    rintro⟨k0,n7,l8⟩ h
    cases k0 with
    |zero=>exact nEx h
    |succ k0=>
    obtain⟨C0,hC0⟩:∃C,C=jL x3 K1 k0:=⟨_,rfl⟩;replace h:=(jL.eq_2 ..).symm.trans h
    try rw[<-hC0]at h
    refine aaE (aN [] [] [1,3,4,24] [1,19] trivial ?_);refine cK (decide ((n7:Int)<(lZ x3))) (fun hc3=> ?_) fun hc3=> ?_
    ·replace h:=aE hc3 h;refine aaG (tN (aaE (aaJ (aaE ?_))));obtain⟨ob0p,h⟩:=aB h;refine aZ [] [] [1,3,4,5] [1,5,19] (an2 (iN ob0p) trivial) ?_;refine tN ?_;obtain⟨r9,hr9,h⟩:=bind_ok h;obtain⟨r10,hr10,h⟩:=bind_ok h;obtain⟨ob1,h⟩:=aB h;refine bB [] [(3,⟨[.i (aCE x3 n7).1],[],[],[],.str r9,[],[],[]⟩),(6,⟨[.i (aCE x3 n7).2.1],[],[],[],.str r10,[],[],[]⟩)] ⟨45,(f65z2 n7),[(1,.cells 100 (f65z0 x1 x2 x3)),(19,.rows 9 1 ((l8).length+3) (fH (l8).length (bY eS [] l8) (dE 1 [.str r9,.str r10,.str (aCE x3 n7).2.2])))],[],0⟩ (an3 (cpT (aBn aY _ _ hr9)) (cpT (aBn aY _ _ hr10)) ob1) ?_;refine kN (tN (aaS (acO (s':=⟨45,(f65z2 n7),[(1,.cells 100 (f65z0 x1 x2 x3)),(19,aU (l8++[r9,r10,(aCE x3 n7).2.2]))],[],0⟩) rfl rfl ⟨.refl _,.refl _,.refl _,trivial⟩ ⟨⟨_,rfl,.refl _⟩,⟨_,rfl,(acE (adF (acH _) (acM (enc:=eS) [r9,r10,(aCE x3 n7).2.2] rfl rfl (fun _=>rfl))))⟩,trivial⟩) ?_));obtain⟨ob2p,h⟩:=aB h;refine aZ [] [] [1,3,4] [1,19] (an1 (iP ob2p)) ?_;rw[hC0]at h;exact lN (_,(n7+1),(l8++[r9,r10,(aCE x3 n7).2.2])) LR h (aaM _)
    ·replace h:=aF hc3 h;refine abJ (tE (tE (kS ?_)));exact jN (l8) LR h
   ·rintro l11 h;replace h:=(congrFun hK1 _).symm.trans h;refine aaE ?_;obtain⟨r12,hr12,h⟩:=bind_ok h;refine aZ [] [(1,⟨[cQ l11],[],[],[],.str r12,[],[19],[]⟩)] [2] [] (an1 (cpL (c:=true) [(19,aU l11)] [19] [.own 19] (fun _=>(f87_ok _ _ hr12)) (fun _=>⟨.refl _,trivial⟩) (.inr ⟨rfl,trivial⟩))) ?_;refine tN ?_;obtain rfl:=aaD h;refine aaH ?_;exact bK
abbrev aCG (x1 x2:Int):=(((((!(x1==(1:Int)))&&(!(x1==(2:Int))))&&(x1 !=(3:Int)))||((!(x1==(2:Int)))&&(x2 !=(0:Int))))||(decide (x2<(0:Int))))
abbrev aCF (x1:Int):=(((!(x1==(1:Int)))&&(!(x1==(2:Int))))&&(x1 !=(3:Int)))
abbrev f64z2 (x1 x2:Int):=(((aCG x1 x2)||(decide (x2>=(6:Int))))==false)
abbrev f64z4 (x1 x2:Int):=((aCF x1)||((!(x1==(2:Int)))&&(x2 !=(0:Int))))
abbrev f64z5 (x1:Int):=(((!(x1==(1:Int)))&&(!(x1==(2:Int))))==true)
abbrev f64z6 (x1 x2:Int):=((f64z2 x1 x2)&&((!(x1==(1:Int)))==true))
abbrev f64z7 (x1:Int):=(((aCF x1)==false)&&((!(x1==(2:Int)))==true))
def f64 (x1 x2:Int) (x3:List Tq0):Option Int:=
 chk (((((!(x1==(1:Int)))&&(!(x1==(2:Int))))&&(x1 !=(3:Int)))==false)=true->((((!(x1==(1:Int)))&&(!(x1==(2:Int))))&&(x1 !=(3:Int)))==false)=true->(!(x1==(2:Int)))=true->(((((!(x1==(1:Int)))&&(!(x1==(2:Int))))&&(x1 !=(3:Int)))==false)&&((!(x1==(2:Int)))==true))=true)<|
 chk ((((((((!(x1==(1:Int)))&&(!(x1==(2:Int))))&&(x1 !=(3:Int)))||((!(x1==(2:Int)))&&(x2 !=(0:Int))))||(decide (x2<(0:Int))))||(decide (x2>=(6:Int))))==false)=true->(((((((!(x1==(1:Int)))&&(!(x1==(2:Int))))&&(x1 !=(3:Int)))||((!(x1==(2:Int)))&&(x2 !=(0:Int))))||(decide (x2<(0:Int))))||(decide (x2>=(6:Int))))==false)=true->(!(x1==(1:Int)))=true->((((((((!(x1==(1:Int)))&&(!(x1==(2:Int))))&&(x1 !=(3:Int)))||((!(x1==(2:Int)))&&(x2 !=(0:Int))))||(decide (x2<(0:Int))))||(decide (x2>=(6:Int))))==false)&&((!(x1==(1:Int)))==true))=true)<|
 if(((((((!(x1==(1:Int)))&&(!(x1==(2:Int))))&&(x1 !=(3:Int)))||((!(x1==(2:Int)))&&(x2 !=(0:Int))))||(decide (x2<(0:Int))))||(decide (x2>=(6:Int))))||((!(x1==(1:Int)))&&(decide ((((x3).length:Nat):Int)>(0:Int)))))then(
 some (1:Int)
 )else(
 if(decide ((((x3).length:Nat):Int)>(8:Int)))then(
 some (3:Int)
 )else(
 (f86 x3).bind fun r4=>
 if(r4 !=(0:Int))then(
 some r4
 )else(
 (f65 x1 x2 x3).bind fun r5=>
 if(decide (((r5.length:Nat):Int)>(2000:Int)))then(
 some (3:Int)
 )else(
 some (0:Int)
 )
 )
 )
 )
theorem f64_ok (x1 x2:Int) (x3:List Tq0) (r:Int) (h:f64 x1 x2 x3=some r):aG Tryz.prog 64 [] [] [] [.agg [.i x1,.i x2,vL 3 cC (default:Tq0) x3]] (.i r) []:=by
 unfold f64 at h;refine aG.body 0 _ _ Tryz.func64 rfl Tryz.ntmps64 rfl rfl ?_;refine aN [] [] [1] [1] trivial ?_;refine aN [] [] [1,3] [1] trivial ?_;refine aN [] [] [1,3,4] [1] trivial ?_;refine aaE (aaE ?_);have ob4:true=true->((!(x1==(1:Int)))&&(!(x1==(2:Int))))=true->(f64z5 x1)=true:=fun _ h=>beq_iff_eq.2 h;obtain⟨ob9,h⟩:=aB h;obtain⟨ob23,h⟩:=aB h;have ob25:true=true->((aCG x1 x2)||(decide (x2>=(6:Int))))=false->(f64z2 x1 x2)=true:=fun _ h=>beq_iff_eq.2 h;refine aZ [] [] [1,51] [1] (ac6 (an1 (idA (((!(x1==(1:Int)))==true)=true))) (bqA (!(x1==(1:Int))) true) (an1 (idA ((f64z5 x1)=true))) (an1 (idA ((f64z5 x1)=true))) ob4 (an1 (idA (((aCF x1)==false)=true))) (ac6 (an1 (idA (((aCF x1)==false)=true))) (an1 (idA ((f64z7 x1)=true))) (an1 (idA ((f64z7 x1)=true))) (aaK ob9 (an1 (idA (((aCF x1)==false)=true)))) (bqA (aCF x1) false) (an1 (idA (((f64z4 x1 x2)==false)=true))) (ac6 (an1 (idA (((f64z4 x1 x2)==false)=true))) (bqA (f64z4 x1 x2) false) (an1 (idA (((aCG x1 x2)==false)=true))) (an1 (idA (((aCG x1 x2)==false)=true))) (bqA (aCG x1 x2) false) (an1 (idA ((f64z2 x1 x2)=true))) (an6 (an1 (idA ((f64z2 x1 x2)=true))) (an1 (idA ((f64z6 x1 x2)=true))) (an1 (idA ((f64z6 x1 x2)=true))) (an1 (idA ((f64z6 x1 x2)=true))) (aaK ob23 (an1 (idA ((f64z2 x1 x2)=true)))) ob25)))) ?_;refine tN (cK (((aCG x1 x2)||(decide (x2>=(6:Int))))||((!(x1==(1:Int)))&&(decide ((lZ x3)>(0:Int))))) (fun hc1=> ?_) fun hc1=> ?_)
 ·replace h:=aE hc1 h;refine bC [] [] ⟨66,[(2,.i (1:Int))],[],[],0⟩ trivial ?_;obtain rfl:=aaD h;refine aaH (tR ?_);exact bK
 ·replace h:=aF hc1 h;refine aaG (tN (aaE (aN [] [] [1,55] [1] trivial ?_)));refine cK (decide ((lZ x3)>(8:Int))) (fun hc2=> ?_) fun hc2=> ?_
  ·replace h:=aE hc2 h;refine bC [] [] ⟨66,[(2,.i (3:Int))],[],[],0⟩ trivial ?_;obtain rfl:=aaD h;refine aaH (tR ?_);exact bK
  ·replace h:=aF hc2 h;refine aaG (tN (aaE (aaE ?_)));obtain⟨r4,hr4,h⟩:=bind_ok h;refine aZ [] [(2,⟨[bH x3],[],[],[],.i r4,[],[],[]⟩)] [1,5] [1] (an1 (cpT (f86_ok _ _ hr4))) ?_;refine tN (aN [] [] [1,5,60] [1] trivial ?_);refine cK (r4 !=(0:Int)) (fun hc3=> ?_) fun hc3=> ?_
   ·replace h:=aE hc3 h;refine bC [] [] ⟨66,[(2,.i r4)],[],[],0⟩ trivial ?_;obtain rfl:=aaD h;refine aaH (tR ?_);exact bK
   ·replace h:=aF hc3 h;refine aaG (tN (aaE (aaE ?_)));obtain⟨r5,hr5,h⟩:=bind_ok h;refine aZ [] [(1,⟨[.agg [.i x1,.i x2,bH x3]],[],[],[],.str r5,[],[],[]⟩)] [65] [] (an1 (cpT (f65_ok _ _ _ _ hr5))) ?_;refine tN (cK (decide ((lZ r5)>(2000:Int))) (fun hc4=> ?_) fun hc4=> ?_)
    ·replace h:=aE hc4 h;refine bC [] [] ⟨66,[(2,.i (3:Int))],[],[],0⟩ trivial ?_;obtain rfl:=aaD h;refine aaH (tR ?_);exact bK
    ·replace h:=aF hc4 h;refine aaG (tN (aN [] [] [2] [] trivial ?_));obtain rfl:=aaD h;refine aaH ?_;exact bK
def jO (r2:Bool×List Ty0) (K1:(Nat×Int×Ty5)->Option (Int×Int×Ty5×Int)):Nat->(Nat×Ty5)->Option (Int×Int×Ty5×Int)
 |0,_=>none
 |k+1,(n7,l8)=>
  if(decide ((n7:Int)<(((r2.2).length:Nat):Int)))then(
  (f82 (r2.2.getD n7 [])).bind fun r9=>
  (f82 (r2.2.getD (n7+1) [])).bind fun r10=>
  chk ((n7:Int)<(((r2.2).length:Nat):Int))<|
  chk (n7<(r2.2).length)<|
  chk (((n7:Int)+(1:Int))<=9223372036854775807)<|
  chk ((((n7+1):Nat):Int)<(((r2.2).length:Nat):Int))<|
  chk ((n7+1)<(r2.2).length)<|
  chk (((n7:Int)+(2:Int))<=9223372036854775807)<|
  chk ((((n7+2):Nat):Int)<(((r2.2).length:Nat):Int))<|
  chk ((n7+2)<(r2.2).length)<|
  chk (((l8).length+1) *32<=140737488355328)<|
  chk (((n7:Int)+(3:Int))<=9223372036854775807)<|
  (jO r2 K1 k) ((n7+3),(l8++[(r9,r10,(r2.2.getD (n7+2) []))]))
  )else(
  K1 (1,(0:Int),l8)
  )
abbrev lS :List V:=[.i (0:Int),.i (0:Int),.nils]
abbrev f61z1 :List V:=[.i (1:Int),.i (0:Int),.own 6102]
abbrev f61z2 (x1:aaA):List (Nat×V):=[(0,.str x1),(2,.ptr 2 0),(6,.ptr 6 0)]
abbrev f61z3 (r2:Bool×List Ty0):aJ:=[(2,.cells 100 (lS)),(6,.cells 100 (lS)),(6001,bL 9 1 eS [] r2.2)]
abbrev f61z4 (x1:aaA) (r2:Bool×List Ty0):List (Nat×V):=[(0,.str x1),(2,.ptr 2 0),(4,.own 6001),(6,.ptr 6 0),(43,.bool (((r2.2.getD 0 [])==cs2)&&(((((r2.2).length%3):Nat):Int)==(1:Int))))]
abbrev f61z5 (x1:aaA):List (Nat×V):=[(0,.str x1),(2,.ptr 2 0),(4,.own 6001),(6,.ptr 6 0),(7,.i (1:Int))]
abbrev f61z6 :=([106,111,105,110]:aaA)
abbrev f61z7 (r2:Bool×List Ty0) (l8:List Tq0) (r9 r10:Int) (n7:Nat):aJ:=[(2,.cells 100 (lS)),(6,.cells 100 (f61z1)),(6001,bL 9 1 eS [] r2.2),(6102,bL 88 3 cC (default:Tq0) (l8++[(r9,r10,(r2.2.getD (n7+2) []))]))]
abbrev f61z8 (r2:Bool×List Ty0):aJ:=[(2,.cells 100 (lS)),(6,.cells 100 [.i (1:Int),.i (0:Int),.nils]),(6001,bL 9 1 eS [] r2.2)]
abbrev f61z9 (n3:Nat) (i4:Int):List V:=[.i (n3:Int),.i i4,.own 6102]
abbrev aBv (n3:Nat) (i4:Int) (l5:List Tq0):List V:=[.i (n3:Int),.i i4,vL 3 cC (default:Tq0) l5]
abbrev f61z11 (x1:aaA) (n7:Nat):List (Nat×V):=[(0,.str x1),(2,.ptr 2 0),(4,.own 6001),(6,.ptr 6 0),(7,.i (n7:Int))]
abbrev aBu :List (Nat×V):=[(2,.ptr 2 0),(3,.i (2:Int))]
abbrev f61z13 :List (Nat×V):=[(2,.ptr 2 0),(3,.i (0:Int))]
abbrev aBt (r11:Int):=((r11 !=(0:Int))==false)
def f61 (x1:aaA):Option (Int×Int×Ty5×Int):=
 (f81 x1).bind fun r2=>
 if((!r2.1)||((((r2.2).length:Nat):Int)==(0:Int)))then(
 some ((0:Int),(0:Int),[],(2:Int))
 )else(
 jn (fun((n3,i4,l5):Nat×Int×Ty5)=>
 (f64 (n3:Int) i4 l5).bind fun r11=>
 eO ((r11 !=(0:Int))==false) (f65 (n3:Int) i4 l5) fun r12=>
 if((r11 !=(0:Int))||(!(r12==x1)))then(
 some ((0:Int),(0:Int),[],(2:Int))
 )else(
 some ((n3:Int),i4,l5,(0:Int))
 )
 ) fun(K1:(Nat×Int×Ty5)->Option (Int×Int×Ty5×Int))=>
 chk ((0:Int)<(((r2.2).length:Nat):Int))<|
 chk (0<(r2.2).length)<|
 if((r2.2.getD 0 [])==cs1)then(
 K1 (3,(0:Int),[])
 )else(
 chk ((0:Int)<(((r2.2).length:Nat):Int))<|
 chk (0<(r2.2).length)<|
 if(((r2.2.getD 0 [])==([106,111,105,110]:aaA))&&((((r2.2).length:Nat):Int)==(2:Int)))then(
 (f82 (r2.2.getD 1 [])).bind fun r6=>
 chk ((1:Int)<(((r2.2).length:Nat):Int))<|
 chk (1<(r2.2).length)<|
 K1 (2,r6,[])
 )else(
 chk ((0:Int)<(((r2.2).length:Nat):Int))<|
 chk (0<(r2.2).length)<|
 chk ((((r2.2.getD 0 [])==cs2)==true)=true->0<=(((r2.2).length:Nat):Int)/\1<=(3:Int))<|
 if(((r2.2.getD 0 [])==cs2)&&(((((r2.2).length%3):Nat):Int)==(1:Int)))then(
 jO r2 K1 aY (1,[])
 )else(
 K1 (0,(0:Int),[])
 )
 )
 )
 )
theorem f61_ok (x1:aaA) (r:Int×Int×Ty5×Int) (h:f61 x1=some r):aG Tryz.prog 61 [] [] [] [.str x1] (.tup [.agg [.i r.1,.i r.2.1,vL 3 cC (default:Tq0) r.2.2.1],.i r.2.2.2]) []:=by
 unfold f61 at h;refine aG.bodyD [2] 0 _ _ Tryz.func61 rfl Tryz.ntmps61 rfl rfl ?_;refine aN [] [] [0,2] [2] trivial ?_;refine aaE ?_;obtain⟨r2,hr2,h⟩:=bind_ok h;refine aZ [] [(1,⟨[.str x1],[],[],[(6001,aU r2.2)],.tup [.own 6001,.bool r2.1],[6001],[],[]⟩)] [0,2,4,5] [2,6001] (an1 (cpT (aG.ren (aV 3000 6001) (aD 3000 6001) rfl (f81_ok _ _ hr2)))) ?_;refine tN (aaE (aaE (aZ [] [] [0,2,4,19] [2,6001] (an3 (an1 (idA (((!r2.1)==false)=true))) (an1 (idA (((!r2.1)==false)=true))) (bqA (!r2.1) false)) ?_)));refine tN (cK ((!r2.1)||((lZ r2.2)==(0:Int))) (fun hc1=> ?_) fun hc1=> ?_)
 ·replace h:=aE hc1 h;refine bC [] [] ⟨94,(aBu),[(2,.cells 100 (lS))],[],0⟩ (an1 trivial) ?_;obtain rfl:=aaD h;refine aaS (acO (s':=⟨94,(aBu),[(2,.cells 100 [.i (0:Int),.i (0:Int),bH []])],[],0⟩) rfl rfl ⟨.refl _,.refl _,trivial⟩ ⟨⟨_,rfl,(.cellsL ⟨.refl _,.refl _,.nilL,trivial⟩)⟩,trivial⟩) ?_;refine aaH (tR ?_);exact bD
 ·replace h:=aF hc1 h;refine aaG (tN (aN [] [] [0,2,4,6] [2,6,6001] trivial ?_));obtain⟨K1,hK1,h⟩:=aI h;refine aaR (fun(x:Nat×Int×Ty5)=>match x with|(n3,i4,l5)=>⟨94,(f61z2 x1),[(2,.cells 100 (lS)),(6,.cells 100 (f61z9 n3 i4)),(6102,cM l5)],[],0⟩) (fun x=>K1 x=some r) ?_ ?_
  ·refine aaJ (aaE ?_);obtain⟨ob3p,h⟩:=aB h;have ob3:0<=(0:Int)/\(0:Int)<(((r2.2).length:Nat):Int):=⟨by omega,ob3p⟩;obtain⟨ob4,h⟩:=aB h;refine aZ [] [] [0,2,4,6,21] [2,6,6001] (an2 ob3 ob4) ?_;refine tN (cK ((r2.2.getD 0 [])==cs1) (fun hc2=> ?_) fun hc2=> ?_)
   ·replace h:=aE hc2 h;refine bB [] [] ⟨94,(f61z2 x1),[(2,.cells 100 (lS)),(6,.cells 100 [.i (3:Int),.i (0:Int),.nils])],[],0⟩ (an1 trivial) ?_;refine kN ?_;exact jN (3,(0:Int),[]) (aaI (aaI (Le.nilOwnC 6 2 6102 88 3 (bY cC bE []) rfl rfl rfl) (LR (s':=⟨94,(f61z2 x1),[(2,.cells 100 (lS)),(6,.cells 100 [.i (3:Int),.i (0:Int),.own 6102]),(6102,cM [])],[],0⟩))) LR) h
   ·replace h:=aF hc2 h;refine aaE ?_;obtain⟨ob5p,h⟩:=aB h;have ob5:0<=(0:Int)/\(0:Int)<(((r2.2).length:Nat):Int):=⟨by omega,ob5p⟩;obtain⟨ob6,h⟩:=aB h;refine aZ [] [] [0,2,4,6,27] [2,6,6001] (an5 ob5 ob6 (an1 (idA ((((r2.2.getD 0 [])==(f61z6))==true)=true))) (an1 (idA ((((r2.2.getD 0 [])==(f61z6))==true)=true))) (bqA ((r2.2.getD 0 [])==(f61z6)) true)) ?_;refine tN (cK (((r2.2.getD 0 [])==(f61z6))&&((lZ r2.2)==(2:Int))) (fun hc3=> ?_) fun hc3=> ?_)
    ·replace h:=aE hc3 h;obtain⟨r6,hr6,h⟩:=bind_ok h;obtain⟨ob10p,h⟩:=aB h;have ob10:0<=(1:Int)/\(1:Int)<(((r2.2).length:Nat):Int):=⟨by omega,ob10p⟩;obtain⟨ob11,h⟩:=aB h;refine bB [] [(3,⟨[.str (r2.2.getD 1 [])],[],[],[],.i r6,[],[],[]⟩)] ⟨94,(f61z2 x1),[(2,.cells 100 (lS)),(6,.cells 100 [.i (2:Int),.i r6,.nils])],[],0⟩ (an5 ob10 ob11 (cpT (f82_ok _ _ hr6)) trivial trivial) ?_;refine kN ?_;exact jN (2,r6,[]) (aaI (aaI (Le.nilOwnC 6 2 6102 88 3 (bY cC bE []) rfl rfl rfl) (LR (s':=⟨94,(f61z2 x1),[(2,.cells 100 (lS)),(6,.cells 100 [.i (2:Int),.i r6,.own 6102]),(6102,cM [])],[],0⟩))) LR) h
    ·replace h:=aF hc3 h;refine aaE ?_;obtain⟨ob12p,h⟩:=aB h;have ob12:0<=(0:Int)/\(0:Int)<(((r2.2).length:Nat):Int):=⟨by omega,ob12p⟩;obtain⟨ob13,h⟩:=aB h;obtain⟨ob15,h⟩:=aB h;refine bB [] [] ⟨94,(f61z4 x1 r2),(f61z3 r2),[],0⟩ (an6 ob12 ob13 (an1 (idA ((((r2.2.getD 0 [])==cs2)==true)=true))) (aaK ob15 (an1 (idA ((((r2.2.getD 0 [])==cs2)==true)=true)))) (an1 (idA ((((r2.2.getD 0 [])==cs2)==true)=true))) (bqA ((r2.2.getD 0 [])==cs2) true)) ?_;refine tN (cK (((r2.2.getD 0 [])==cs2)&&(((((r2.2).length%3):Nat):Int)==(1:Int))) (fun hc4=> ?_) fun hc4=> ?_)
     ·replace h:=aE hc4 h;refine aN [] [] [0,2,4,6] [2,6,6001] (an1 trivial) ?_;refine bC [] [] ⟨94,(f61z5 x1),(f61z8 r2),[],0⟩ trivial ?_;refine aaJ (abG (α:=Nat×(Nat×Ty5)) (fun x=>match x with|(_,n7,l8)=>⟨94,(f61z11 x1 n7),[(2,.cells 100 (lS)),(6,.cells 100 (f61z1)),(6001,aU r2.2),(6102,cM l8)],[],0⟩) (fun x=>jO r2 K1 x.1 x.2=some r) (fun x=>x.1) (aY,1,[]) (aaI (aaI (Le.nilOwnC 6 2 6102 88 3 (bY cC bE []) rfl rfl rfl) (LR (s':=⟨94,(f61z5 x1),[(2,.cells 100 (lS)),(6,.cells 100 (f61z1)),(6001,aU r2.2),(6102,cM [])],[],0⟩))) LR) h ?_)
      rintro⟨k0,n7,l8⟩ h
      cases k0 with
      |zero=>exact nEx h
      |succ k0=>
      obtain⟨C0,hC0⟩:∃C,C=jO r2 K1 k0:=⟨_,rfl⟩;replace h:=(jO.eq_2 ..).symm.trans h
      try rw[<-hC0]at h
      refine aaE (aN [] [] [0,2,4,6,7,58] [2,6,6001,6102] trivial ?_);refine cK (decide ((n7:Int)<(lZ r2.2))) (fun hc5=> ?_) fun hc5=> ?_
      ·replace h:=aE hc5 h;refine aaG (tN (aaE (aaJ ?_)));obtain⟨r9,hr9,h⟩:=bind_ok h;obtain⟨r10,hr10,h⟩:=bind_ok h;obtain⟨ob19p,h⟩:=aB h;obtain⟨ob20,ob21p,h⟩:=ck2 h;obtain⟨ob22p,h⟩:=aB h;have ob22:0<=(((n7+1):Nat):Int)/\(((n7+1):Nat):Int)<(((r2.2).length:Nat):Int):=⟨by omega,ob22p⟩;obtain⟨ob23,ob24p,h⟩:=ck2 h;have ob24: -9223372036854775808<=((n7:Int)+(2:Int))/\((n7:Int)+(2:Int))<=9223372036854775807:=⟨by omega,ob24p⟩;obtain⟨ob25p,h⟩:=aB h;have ob25:0<=(((n7+2):Nat):Int)/\(((n7+2):Nat):Int)<(((r2.2).length:Nat):Int):=⟨by omega,ob25p⟩;obtain⟨ob26,ob27,h⟩:=ck2 h;refine bB [] [(6,⟨[.str (r2.2.getD n7 [])],[],[],[],.i r9,[],[],[]⟩),(12,⟨[.str (r2.2.getD (n7+1) [])],[],[],[],.i r10,[],[],[]⟩)] ⟨94,(f61z11 x1 n7),[(2,.cells 100 (lS)),(6,.cells 100 (f61z1)),(6001,aU r2.2),(6102,.rows 88 3 ((l8).length+1) (fH (l8).length (bY cC bE l8) (dE 3 [.i r9,.i r10,.str (r2.2.getD (n7+2) [])])))],[],0⟩ (ac6 (iN ob19p) ob20 (cpT (f82_ok _ _ hr9)) (iP ob21p) ob22 ob23 (an6 (cpT (f82_ok _ _ hr10)) ob24 ob25 ob26 ob27 trivial)) ?_;refine kN (tN (aaS (acO (s':=⟨94,(f61z11 x1 n7),(f61z7 r2 l8 r9 r10 n7),[],0⟩) rfl rfl ⟨.refl _,.refl _,.refl _,.refl _,.refl _,trivial⟩ ⟨⟨_,rfl,.refl _⟩,⟨_,rfl,.refl _⟩,⟨_,rfl,.refl _⟩,⟨_,rfl,(acE (adF (acH _) (acM (enc:=cC) [(r9,r10,(r2.2.getD (n7+2) []))] rfl rfl (fun _=>rfl))))⟩,trivial⟩) ?_));obtain⟨ob28p,h⟩:=aB h;have ob28: -9223372036854775808<=((n7:Int)+(3:Int))/\((n7:Int)+(3:Int))<=9223372036854775807:=⟨by omega,ob28p⟩;refine aZ [] [] [0,2,4,6,7] [2,6,6001,6102] (an1 ob28) ?_;rw[hC0]at h;exact lN (_,(n7+3),(l8++[(r9,r10,(r2.2.getD (n7+2) []))])) LR h (aaM _)
      ·replace h:=aF hc5 h;refine abJ (tE (tE (kS (kN ?_))));exact jN (1,(0:Int),l8) LR h
     ·replace h:=aF hc4 h;refine aaG (kN ?_);exact jN (0,(0:Int),[]) (aaI (aaI (Le.nilOwnC 6 2 6102 88 3 (bY cC bE []) rfl rfl rfl) (LR (s':=⟨94,(f61z4 x1 r2),[(2,.cells 100 (lS)),(6,.cells 100 [.i (0:Int),.i (0:Int),.own 6102]),(6001,aU r2.2),(6102,cM [])],[],0⟩))) LR) h
  ·rintro⟨n3,i4,l5⟩ h;replace h:=(congrFun hK1 _).symm.trans h;refine aaE (aaE ?_);obtain⟨r11,hr11,h⟩:=bind_ok h;obtain⟨r12,hr12,h⟩:=bI h;have ob32:true=true->(r11 !=(0:Int))=false->(aBt r11)=true:=fun _ h=>beq_iff_eq.2 h;refine aZ [] [(1,⟨[.agg (aBv n3 i4 l5)],[],[],[],.i r11,[],[6102],[]⟩),(5,⟨[.agg (aBv n3 i4 l5)],[],[],[],.str r12,[],[6102],[]⟩)] [2,6,91] [2,6,6102] (an4 (cpL (c:=true) [(6102,cM l5)] [6102] [.agg (f61z9 n3 i4)] (fun _=>(f64_ok _ _ _ _ hr11)) (fun _=>⟨.refl _,trivial⟩) (.inr ⟨rfl,trivial⟩)) (aaK (cpL [(6102,cM l5)] [6102] [.agg (f61z9 n3 i4)] (fun hc=>(f65_ok _ _ _ _ (hr12 hc))) (fun _=>⟨.refl _,trivial⟩) (.inr ⟨rfl,trivial⟩)) (an1 (idA ((aBt r11)=true)))) (an2 (idA ((aBt r11)=true)) (idA ((aBt r11)=true))) ob32) ?_;refine tN (cK ((r11 !=(0:Int))||(!(r12==x1))) (fun hc6=> ?_) fun hc6=> ?_)
   ·replace h:=aE hc6 h;refine bC [] [] ⟨94,(aBu),[(2,.cells 100 (lS))],[],0⟩ (an1 trivial) ?_;obtain rfl:=aaD h;refine aaS (acO (s':=⟨94,(aBu),[(2,.cells 100 [.i (0:Int),.i (0:Int),bH []])],[],0⟩) rfl rfl ⟨.refl _,.refl _,trivial⟩ ⟨⟨_,rfl,(.cellsL ⟨.refl _,.refl _,.nilL,trivial⟩)⟩,trivial⟩) ?_;refine aaH (tR ?_);exact bD
   ·replace h:=aF hc6 h;refine aaG (tN (bC [] [] ⟨94,(f61z13),[(2,.cells 100 (f61z9 n3 i4)),(6102,cM l5)],[],0⟩ (an1 trivial) ?_));refine aaS (aaI (adI 6102 rfl rfl) (LR (s':=⟨94,(f61z13),[(2,.cells 100 (aBv n3 i4 l5))],[],0⟩))) ?_;obtain rfl:=aaD h;refine aaS (LR (s':=⟨94,(f61z13),[(2,.cells 100 (aBv n3 i4 l5))],[],0⟩)) ?_;refine aaH ?_;exact bD
def fT (x2:List Tq0) (x3:Int) (K1:Unit->Option (Int×Int×aaA×Bool)):Nat->Nat->Option (Int×Int×aaA×Bool)
 |0,_=>none
 |k+1,n4=>
  if(decide ((n4:Int)<(((x2).length:Nat):Int)))then(
  chk ((n4:Int)<(((x2).length:Nat):Int))<|
  if((x2.getD n4 (default:Tq0)).1==x3)then(
  chk ((n4:Int)<(((x2).length:Nat):Int))<|
  some ((x2.getD n4 (default:Tq0)).1,(x2.getD n4 (default:Tq0)).2.1,(x2.getD n4 (default:Tq0)).2.2,true)
  )else(
  chk (((n4:Int)+(1:Int))<=9223372036854775807)<|
  (fT x2 x3 K1 k) (n4+1)
  )
  )else(
  K1 ()
  )
abbrev f83z0 (x1:List Tq1) (x2:List Tq0):aJ:=[(2,.cells 92 [vL 3 cN (default:Tq1) x1,vL 3 cC (default:Tq0) x2]),(4,.cells 160 [.i (0:Int),.i (0:Int),.str []])]
abbrev f83z1 :aJ:=[(4,.cells 160 [.i (0:Int),.i (0:Int),.str []])]
abbrev f83z2 (x2:List Tq0) (n4:Nat):=(x2.getD n4 (default:Tq0))
def f83 (x1:List Tq1) (x2:List Tq0) (x3:Int):Option (Int×Int×aaA×Bool):=
 jn (fun(_:Unit)=>
 some ((0:Int),(0:Int),[],false)
 ) fun(K1:Unit->Option (Int×Int×aaA×Bool))=>
 fT x2 x3 K1 aY 0
theorem f83_ok (x1:List Tq1) (x2:List Tq0) (x3:Int) (r:Int×Int×aaA×Bool) (h:f83 x1 x2 x3=some r):aG Tryz.prog 83 [] [] [] [.agg [vL 3 cN (default:Tq1) x1,vL 3 cC (default:Tq0) x2],.i x3] (.tup [.agg [.i r.1,.i r.2.1,.str r.2.2.1],.bool r.2.2.2]) []:=by
 unfold f83 at h;refine aG.bodyD [4] 0 _ _ Tryz.func83 rfl Tryz.ntmps83 rfl rfl ?_;refine aN [] [] [1,2,4] [2,4] trivial ?_;obtain⟨K1,hK1,h⟩:=aI h;refine aaR (fun(x:Unit)=>match x with|()=>⟨28,[(4,.ptr 4 0)],(f83z1),[],0⟩) (fun x=>K1 x=some r) ?_ ?_
 ·refine bC [] [] ⟨28,[(1,.i x3),(2,.ptr 2 0),(4,.ptr 4 0),(6,.i (0:Int))],(f83z0 x1 x2),[],0⟩ trivial ?_;refine aaJ (abG (α:=Nat×Nat) (fun x=>match x with|(_,n4)=>⟨28,[(1,.i x3),(2,.ptr 2 0),(4,.ptr 4 0),(6,.i (n4:Int))],(f83z0 x1 x2),[],0⟩) (fun x=>fT x2 x3 K1 x.1 x.2=some r) (fun x=>x.1) (aY,0) LR h ?_)
  rintro⟨k0,n4⟩ h
  cases k0 with
  |zero=>exact nEx h
  |succ k0=>
  obtain⟨C0,hC0⟩:∃C,C=fT x2 x3 K1 k0:=⟨_,rfl⟩;replace h:=(fT.eq_2 ..).symm.trans h
  try rw[<-hC0]at h
  refine aaE (aN [] [] [1,2,4,6,11] [2,4] trivial ?_);refine cK (decide ((n4:Int)<(lZ x2))) (fun hc1=> ?_) fun hc1=> ?_
  ·replace h:=aE hc1 h;refine aaG (tN (aaE (aaJ (aaE ?_))));obtain⟨ob0p,h⟩:=aB h;refine bB [] [] ⟨28,[(1,.i x3),(2,.ptr 2 0),(4,.ptr 4 0),(6,.i (n4:Int)),(21,.bool ((f83z2 x2 n4).1==x3))],(f83z0 x1 x2),[],0⟩ (an1 (iN ob0p)) ?_;refine tN (cK ((f83z2 x2 n4).1==x3) (fun hc2=> ?_) fun hc2=> ?_)
   ·replace h:=aE hc2 h;refine aaE ?_;obtain⟨ob1p,h⟩:=aB h;refine aZ [] [] [4,5] [4] (an2 (iN ob1p) trivial) ?_;refine tN ?_;obtain rfl:=aaD h;refine aaH (kR (tR (tR (kR (aR ?_)))));exact bD
   ·replace h:=aF hc2 h;refine aaG (kN (tN ?_));obtain⟨ob2p,h⟩:=aB h;refine bB [] [] ⟨28,[(1,.i x3),(2,.ptr 2 0),(4,.ptr 4 0),(6,.i (((n4+1):Nat):Int))],(f83z0 x1 x2),[],0⟩ (an1 (iP ob2p)) ?_;rw[hC0]at h;exact lN (_,(n4+1)) LR h (aaM _)
  ·replace h:=aF hc1 h;refine abJ (tE (tE (kS ?_)));exact jN () LR h
 ·rintro⟨⟩ h;replace h:=(congrFun hK1 _).symm.trans h;refine aN [] [] [4,5] [4] (an1 trivial) ?_;obtain rfl:=aaD h;refine aaH ?_;exact bD
def iG (x1:aaA) (K1:(List Ty0)->Option (List Ty0)):Nat->(Nat×Nat×List Ty0)->Option (List Ty0)
 |0,_=>none
 |k+1,(n2,n3,l4)=>
  if(decide ((n3:Int)<=((x1.length:Nat):Int)))then(
  jn (fun((n5,l6):Nat×List Ty0)=>
  chk (((n3:Int)+(1:Int))<=9223372036854775807)<|
  (iG x1 K1 k) (n5,(n3+1),l6)
  ) fun(K2:(Nat×List Ty0)->Option (List Ty0))=>
  chk ((((n3:Int)==((x1.length:Nat):Int))==false)=true->0<=(n3:Int)/\(n3:Int)<((x1.length:Nat):Int))<|
  if(((n3:Int)==((x1.length:Nat):Int))||((((x1.getD n3 0).toNat:Nat):Int)==(32:Int)))then(
  chk ((n2:Int)<=(n3:Int)/\(n3:Int)<=((x1.length:Nat):Int))<|
  chk (((l4).length+1) *16<=140737488355328)<|
  chk (((n3:Int)+(1:Int))<=9223372036854775807)<|
  K2 ((n3+1),(l4++[((x1.take n3).drop n2)]))
  )else(
  K2 (n2,l4)
  )
  )else(
  K1 l4
  )
def f113 (x1:aaA):Option (List Ty0):=
 jn (fun(l7:List Ty0)=>
 some l7
 ) fun(K1:(List Ty0)->Option (List Ty0))=>
 iG x1 K1 aY (0,0,[])
theorem f113_ok (x1:aaA) (r:List Ty0) (h:f113 x1=some r):aG Tryz.prog 113 [] [] [] [.str x1] (.own 3000) [(3000,bL 9 1 eS [] r)]:=by
 unfold f113 at h;refine aG.body 0 _ _ Tryz.func113 rfl Tryz.ntmps113 rfl rfl ?_;refine aN [] [] [0] [] trivial ?_;refine aN [] [] [0,3] [] trivial ?_;refine bC [] [] ⟨32,[(0,.str x1),(3,.nils),(4,.i (0:Int))],[],[],0⟩ trivial ?_;obtain⟨K1,hK1,h⟩:=aI h;refine aaR (α:=List Ty0) (fun(l7:List Ty0)=>⟨32,[(3,.own 5003)],[(5003,aU l7)],[],0⟩) (fun x=>K1 x=some r) ?_ ?_
 ·refine bC [] [] ⟨32,[(0,.str x1),(3,.nils),(4,.i (0:Int)),(5,.i (0:Int))],[],[],0⟩ trivial ?_;refine aaJ (abG (α:=Nat×(Nat×Nat×List Ty0)) (fun x=>match x with|(_,n2,n3,l4)=>⟨32,[(0,.str x1),(3,.own 5003),(4,.i (n2:Int)),(5,.i (n3:Int))],[(5003,aU l4)],[],0⟩) (fun x=>iG x1 K1 x.1 x.2=some r) (fun x=>x.1) (aY,0,0,[]) (aaI (aaI (adE 3 5003 9 1 (bY eS [] []) rfl rfl (aaW rfl)) (LR (s':=⟨32,[(0,.str x1),(3,.own 5003),(4,.i (0:Int)),(5,.i (0:Int))],[(5003,aU [])],[],0⟩))) LR) h ?_)
  rintro⟨k0,n2,n3,l4⟩ h
  cases k0 with
  |zero=>exact nEx h
  |succ k0=>
  obtain⟨C0,hC0⟩:∃C,C=iG x1 K1 k0:=⟨_,rfl⟩;replace h:=(iG.eq_2 ..).symm.trans h
  try rw[<-hC0]at h
  refine aaE (aN [] [] [0,3,4,5,9] [5003] trivial ?_);refine cK (decide ((n3:Int)<=(lZ x1))) (fun hc1=> ?_) fun hc1=> ?_
  ·replace h:=aE hc1 h;refine aaG (tN ?_);obtain⟨K2,hK2,h⟩:=aI h;refine aaR (fun(x:Nat×List Ty0)=>match x with|(n5,l6)=>⟨32,[(0,.str x1),(3,.own 28),(4,.i (n5:Int)),(5,.i (n3:Int))],[(28,aU l6)],[],0⟩) (fun x=>K2 x=some r) ?_ ?_
   ·refine aaJ (aaE ?_);obtain⟨ob0,h⟩:=aB h;refine bB [] [] ⟨32,[(0,.str x1),(3,.own 5003),(4,.i (n2:Int)),(5,.i (n3:Int)),(21,.bool (((n3:Int)==(lZ x1))||((((x1.getD n3 0).toNat:Nat):Int)==(32:Int))))],[(5003,aU l4)],[],0⟩ (an3 (aaK ob0 (an2 (idA ((((n3:Int)==(lZ x1))==false)=true)) (idA ((((n3:Int)==(lZ x1))==false)=true)))) (an1 (idA ((((n3:Int)==(lZ x1))==false)=true))) (bqA ((n3:Int)==(lZ x1)) false)) ?_;refine tN (cK (((n3:Int)==(lZ x1))||((((x1.getD n3 0).toNat:Nat):Int)==(32:Int))) (fun hc2=> ?_) fun hc2=> ?_)
    ·replace h:=aE hc2 h;refine aaE ?_;obtain⟨ob5p,h⟩:=aB h;have ob5:0<=(n2:Int)/\(n2:Int)<=(n3:Int)/\(n3:Int)<=((x1.length:Nat):Int):=⟨by omega,ob5p.1,ob5p.2⟩;obtain⟨ob6,h⟩:=aB h;refine bB [] [] ⟨32,[(0,.str x1),(3,.own 5003),(5,.i (n3:Int))],[(5003,.rows 9 1 ((l4).length+1) (fH (l4).length (bY eS [] l4) (dE 1 [.str ((x1.take n3).drop n2)])))],[],0⟩ (an2 ob5 ob6) ?_;refine tN (aaS (acO (s':=⟨32,[(0,.str x1),(3,.own 5003),(5,.i (n3:Int))],[(5003,aU (l4++[((x1.take n3).drop n2)]))],[],0⟩) rfl rfl ⟨.refl _,.refl _,.refl _,trivial⟩ ⟨⟨_,rfl,(acE (adF (acH _) (acM (enc:=eS) [((x1.take n3).drop n2)] rfl rfl (fun _=>rfl))))⟩,trivial⟩) ?_);obtain⟨ob7p,h⟩:=aB h;refine bB [] [] ⟨32,[(0,.str x1),(3,.own 5003),(4,.i (((n3+1):Nat):Int)),(5,.i (n3:Int))],[(5003,aU (l4++[((x1.take n3).drop n2)]))],[],0⟩ (an1 (iP ob7p)) ?_;refine kN ?_;exact jN ((n3+1),(l4++[((x1.take n3).drop n2)])) (aaI (aaI (abX (aV 5003 28) (aD 5003 28) rfl) (LR (s':=⟨32,[(0,.str x1),(3,.own 28),(4,.i (((n3+1):Nat):Int)),(5,.i (n3:Int))],[(28,aU (l4++[((x1.take n3).drop n2)]))],[],0⟩))) LR) h
    ·replace h:=aF hc2 h;refine aaG (kN ?_);exact jN (n2,l4) (aaI (aaI (abX (aV 5003 28) (aD 5003 28) rfl) (LR (s':=⟨32,[(0,.str x1),(3,.own 28),(4,.i (n2:Int)),(5,.i (n3:Int)),(21,.bool (((n3:Int)==(lZ x1))||((((x1.getD n3 0).toNat:Nat):Int)==(32:Int))))],[(28,aU l4)],[],0⟩))) LR) h
   ·rintro⟨n5,l6⟩ h;replace h:=(congrFun hK2 _).symm.trans h;obtain⟨ob8p,h⟩:=aB h;refine bB [] [] ⟨32,[(0,.str x1),(3,.own 28),(4,.i (n5:Int)),(5,.i (((n3+1):Nat):Int))],[(28,aU l6)],[],0⟩ (an1 (iP ob8p)) ?_;rw[hC0]at h;exact lN (_,n5,(n3+1),l6) (aaI (aaI (abX (aV 28 5003) (aD 28 5003) rfl) (LR (s':=⟨32,[(0,.str x1),(3,.own 5003),(4,.i (n5:Int)),(5,.i (((n3+1):Nat):Int))],[(5003,aU l6)],[],0⟩))) LR) h (aaM _)
  ·replace h:=aF hc1 h;refine abJ (tE (tE (kS ?_)));exact jN (l4) LR h
 ·rintro l7 h;replace h:=(congrFun hK1 _).symm.trans h;refine bC [] [] ⟨32,[(2,.own 5003)],[(5003,aU l7)],[],0⟩ trivial ?_;refine aaS (aaI (abX (aV 5003 3000) (aD 5003 3000) rfl) (LR (s':=⟨32,[(2,.own 3000)],[(3000,aU l7)],[],0⟩))) ?_;obtain rfl:=aaD h;refine aaS (LR (s':=⟨32,[(2,.own 3000)],[(3000,aU l7)],[],0⟩)) ?_;refine aaH ?_;exact bK
abbrev aBU :=([112,117,116]:aaA)
abbrev aBT :=([103,101,116]:aaA)
abbrev aBS :=([99,97,115]:aaA)
def f114 (x1:Int):Option Ty0:=
 if((decide (x1<(1:Int)))||(decide (x1>(6:Int))))then(
 some []
 )else(
 chk (-9223372036854775808<=(x1-(1:Int))/\(x1-(1:Int))<=9223372036854775807)<|
 chk (0<=(x1-(1:Int))/\(x1-(1:Int))<(6:Int))<|
 chk ((((x1-(1:Int))).toNat)<6)<|
 some (([([112,117,116]:aaA),([103,101,116]:aaA),cs6,cs7,([99,97,115]:aaA),cs8]:List Ty0).getD (((x1-(1:Int))).toNat) [])
 )
theorem aAM (x1:Int) (r:aaA) (h:f114 x1=some r):aG Tryz.prog 114 [] [] [] [.i x1] (.str r) []:=by
 unfold f114 at h;refine aG.body 0 _ _ Tryz.func114 rfl Tryz.ntmps114 rfl rfl ?_;refine aN [] [] [0] [] trivial ?_;refine aaE (aaE (aZ [] [] [0,8] [] (an2 (an1 (idA (((decide (x1<(1:Int)))==false)=true))) (bqA (decide (x1<(1:Int))) false)) ?_));refine tN (cK ((decide (x1<(1:Int)))||(decide (x1>(6:Int)))) (fun hc1=> ?_) fun hc1=> ?_)
 ·replace h:=aE hc1 h;refine bC [] [] ⟨14,[(2,.str [])],[],[],0⟩ trivial ?_;obtain rfl:=aaD h;refine aaH (tR ?_);exact bK
 ·replace h:=aF hc1 h;refine aaG (tN (aaE ?_));obtain⟨ob2,ob3,ob4,h⟩:=ck3 h;refine aZ [] [(4,⟨[],[],[],[],.str (([(aBU),(aBT),cs6,cs7,(aBS),cs8]:List Ty0).getD (((x1-(1:Int))).toNat) []),[],[0],[]⟩)] [2] [] (an3 ob2 ob3 (aaK ob4 (show((dE 1 [.str (aBU),.str (aBT),.str cs6,.str cs7,.str (aBS),.str cs8]) (((x1-(1:Int))).toNat) 0:V)= .str (([(aBU),(aBT),cs6,cs7,(aBS),cs8]:List Ty0).getD (((x1-(1:Int))).toNat) [])from(aBc eS [] 1 ([(aBU),(aBT),cs6,cs7,(aBS),cs8]:List Ty0) (fun _=>rfl) (show(((x1-(1:Int))).toNat)<6 from by assumption) (j:=0) (by decide))))) ?_;refine tN ?_;obtain rfl:=aaD h;refine aaH ?_;exact bK
def fW (x1:aaA) (K1:Unit->Option Bool):Nat->Nat->Option Bool
 |0,_=>none
 |k+1,n3=>
  if(decide ((n3:Int)<((x1.length:Nat):Int)))then(
  chk ((n3:Int)<((x1.length:Nat):Int))<|
  chk (((decide ((((x1.getD n3 0).toNat:Nat):Int)<(33:Int)))==false)=true->0<=(n3:Int)/\(n3:Int)<((x1.length:Nat):Int))<|
  if((decide ((((x1.getD n3 0).toNat:Nat):Int)<(33:Int)))||(decide ((((x1.getD n3 0).toNat:Nat):Int)>(126:Int))))then(
  some false
  )else(
  chk (((n3:Int)+(1:Int))<=9223372036854775807)<|
  (fW x1 K1 k) (n3+1)
  )
  )else(
  K1 ()
  )
theorem aCL (x1:aaA) (K1:Unit->Option Bool) (k n3:Nat):fW x1 K1 (k+1) n3=
  if(decide ((n3:Int)<((x1.length:Nat):Int)))then(
  chk ((n3:Int)<((x1.length:Nat):Int))<|
  chk (((decide ((((x1.getD n3 0).toNat:Nat):Int)<(33:Int)))==false)=true->0<=(n3:Int)/\(n3:Int)<((x1.length:Nat):Int))<|
  if((decide ((((x1.getD n3 0).toNat:Nat):Int)<(33:Int)))||(decide ((((x1.getD n3 0).toNat:Nat):Int)>(126:Int))))then(
  some false
  )else(
  chk (((n3:Int)+(1:Int))<=9223372036854775807)<|
  (fW x1 K1 k) (n3+1)
  )
  )else(
  K1 ()
  ):=rfl
def f178 (x1:aaA) (x2:Int):Option Bool:=
 jn (fun(_:Unit)=>
 some ((decide (((x1.length:Nat):Int)>=(1:Int)))&&(decide (((x1.length:Nat):Int)<=x2)))
 ) fun(K1:Unit->Option Bool)=>
 fW x1 K1 aY 0
theorem f178_ok (x1:aaA) (x2:Int) (r:Bool) (h:f178 x1 x2=some r):aG Tryz.prog 178 [] [] [] [.str x1,.i x2] (.bool r) []:=by
 unfold f178 at h;refine aG.body 0 _ _ Tryz.func178 rfl Tryz.ntmps178 rfl rfl ?_;refine aN [] [] [0,1] [] trivial ?_;obtain⟨K1,hK1,h⟩:=aI h;refine aaR (fun(x:Unit)=>match x with|()=>⟨31,[(0,.str x1),(1,.i x2)],[],[],0⟩) (fun x=>K1 x=some r) ?_ ?_
 ·refine bC [] [] ⟨31,[(0,.str x1),(1,.i x2),(5,.i (0:Int))],[],[],0⟩ trivial ?_;refine aaJ (abG (α:=Nat×Nat) (fun x=>match x with|(_,n3)=>⟨31,[(0,.str x1),(1,.i x2),(5,.i (n3:Int))],[],[],0⟩) (fun x=>fW x1 K1 x.1 x.2=some r) (fun x=>x.1) (aY,0) LR h ?_)
  rintro⟨k0,n3⟩ h
  cases k0 with
  |zero=>exact nEx h
  |succ k0=>
  obtain⟨C0,hC0⟩:∃C,C=fW x1 K1 k0:=⟨_,rfl⟩;replace h:=(aCL ..).symm.trans h
  try rw[<-hC0]at h
  refine aaE (aN [] [] [0,1,5,9] [] trivial ?_);refine cK (decide ((n3:Int)<(lZ x1))) (fun hc1=> ?_) fun hc1=> ?_
  ·replace h:=aE hc1 h;refine aaG (tN (aaE (aaJ (aaE ?_))));obtain⟨ob0p,h⟩:=aB h;obtain⟨ob1,h⟩:=aB h;refine bB [] [] ⟨31,[(0,.str x1),(1,.i x2),(5,.i (n3:Int)),(21,.bool ((decide ((((x1.getD n3 0).toNat:Nat):Int)<(33:Int)))||(decide ((((x1.getD n3 0).toNat:Nat):Int)>(126:Int)))))],[],[],0⟩ (an4 (iN ob0p) (aaK ob1 (an2 (idA (((decide ((((x1.getD n3 0).toNat:Nat):Int)<(33:Int)))==false)=true)) (idA (((decide ((((x1.getD n3 0).toNat:Nat):Int)<(33:Int)))==false)=true)))) (an1 (idA (((decide ((((x1.getD n3 0).toNat:Nat):Int)<(33:Int)))==false)=true))) (bqA (decide ((((x1.getD n3 0).toNat:Nat):Int)<(33:Int))) false)) ?_;refine tN (cK ((decide ((((x1.getD n3 0).toNat:Nat):Int)<(33:Int)))||(decide ((((x1.getD n3 0).toNat:Nat):Int)>(126:Int)))) (fun hc2=> ?_) fun hc2=> ?_)
   ·replace h:=aE hc2 h;refine aN [] [] [4] [] trivial ?_;obtain rfl:=aaD h;refine aaH (kR (tR (tR (kR (aR ?_)))));exact bK
   ·replace h:=aF hc2 h;refine aaG (kN (tN ?_));obtain⟨ob6p,h⟩:=aB h;refine bB [] [] ⟨31,[(0,.str x1),(1,.i x2),(5,.i (((n3+1):Nat):Int))],[],[],0⟩ (an1 (iP ob6p)) ?_;rw[hC0]at h;exact lN (_,(n3+1)) LR h (aaM _)
  ·replace h:=aF hc1 h;refine abJ (tE (tE (kS ?_)));exact jN () LR h
 ·rintro⟨⟩ h;replace h:=(congrFun hK1 _).symm.trans h;refine aaE (aZ [] [] [4] [] (an3 (an1 (idA (((decide ((lZ x1)>=(1:Int)))==true)=true))) (an2 (idA (((decide ((lZ x1)>=(1:Int)))==true)=true)) (idA (((decide ((lZ x1)>=(1:Int)))==true)=true))) (bqA (decide ((lZ x1)>=(1:Int))) true)) ?_);refine tN ?_;obtain rfl:=aaD h;refine aaH ?_;exact bK
def f148 (x1:aaA):Option Bool:=
 (f178 x1 (64:Int)).bind fun r2=>
 some r2
theorem aAF (x1:aaA) (r:Bool) (h:f148 x1=some r):aG Tryz.prog 148 [] [] [] [.str x1] (.bool r) []:=by
 unfold f148 at h;refine aG.body 0 _ _ Tryz.func148 rfl Tryz.ntmps148 rfl rfl ?_;refine aN [] [] [0] [] trivial ?_;refine aaE ?_;obtain⟨r2,hr2,h⟩:=bind_ok h;refine bB [] [(1,⟨[.str x1,.i (64:Int)],[],[],[],.bool r2,[],[],[]⟩)] ⟨5,[(2,.bool r2)],[],[],0⟩ (an1 (cpT (f178_ok _ _ _ hr2))) ?_;refine tN ?_;obtain rfl:=aaD h;refine aaH ?_;exact bK
abbrev fX (x1:Int):=(((x1==(1:Int))||(x1==(4:Int)))||(x1==(5:Int)))
abbrev cY (x1:Int) (r6:Bool):=(!((x1 !=(6:Int))==r6))
abbrev aBR (x1:Int) (x2 x3 x4:aaA):aJ:=[(1,.cells 164 [.i x1,.str x2,.str x3,.str x4])]
abbrev eQ (x1:Int) (r7:Bool):=(!((x1==(5:Int))==r7))
abbrev dH (x1:Int):=(!(x1 !=(6:Int)))
abbrev gH (x1:Int):=(!(x1==(5:Int)))
abbrev f115z6 (x1:Int):=(((x1==(1:Int))||(x1==(4:Int)))==false)
def f115 (x1:Int) (x2 x3 x4:aaA):Option (aaA×Int):=
 (f114 x1).bind fun r5=>
 eO ((r5==[])==false) (f148 x2) fun r6=>
 eO ((((r5==[])||(!((x1 !=(6:Int))==r6)))||((!(x1 !=(6:Int)))&&(!(x2==[]))))==false) (f148 x3) fun r7=>
 eO ((((((r5==[])||(!((x1 !=(6:Int))==r6)))||((!(x1 !=(6:Int)))&&(!(x2==[]))))||(!((x1==(5:Int))==r7)))||((!(x1==(5:Int)))&&(!(x3==[]))))==false) (f148 x4) fun r8=>
 chk ((((r5==[])||(!((x1 !=(6:Int))==r6)))==false)=true->(((r5==[])||(!((x1 !=(6:Int))==r6)))==false)=true->(!(x1 !=(6:Int)))=true->((((r5==[])||(!((x1 !=(6:Int))==r6)))==false)&&((!(x1 !=(6:Int)))==true))=true)<|
 chk ((((((r5==[])||(!((x1 !=(6:Int))==r6)))||((!(x1 !=(6:Int)))&&(!(x2==[]))))||(!((x1==(5:Int))==r7)))==false)=true->(((((r5==[])||(!((x1 !=(6:Int))==r6)))||((!(x1 !=(6:Int)))&&(!(x2==[]))))||(!((x1==(5:Int))==r7)))==false)=true->(!(x1==(5:Int)))=true->((((((r5==[])||(!((x1 !=(6:Int))==r6)))||((!(x1 !=(6:Int)))&&(!(x2==[]))))||(!((x1==(5:Int))==r7)))==false)&&((!(x1==(5:Int)))==true))=true)<|
 chk ((((((((r5==[])||(!((x1 !=(6:Int))==r6)))||((!(x1 !=(6:Int)))&&(!(x2==[]))))||(!((x1==(5:Int))==r7)))||((!(x1==(5:Int)))&&(!(x3==[]))))||(!((((x1==(1:Int))||(x1==(4:Int)))||(x1==(5:Int)))==r8)))==false)=true->(((((((r5==[])||(!((x1 !=(6:Int))==r6)))||((!(x1 !=(6:Int)))&&(!(x2==[]))))||(!((x1==(5:Int))==r7)))||((!(x1==(5:Int)))&&(!(x3==[]))))||(!((((x1==(1:Int))||(x1==(4:Int)))||(x1==(5:Int)))==r8)))==false)=true->(!(((x1==(1:Int))||(x1==(4:Int)))||(x1==(5:Int))))=true->((((((((r5==[])||(!((x1 !=(6:Int))==r6)))||((!(x1 !=(6:Int)))&&(!(x2==[]))))||(!((x1==(5:Int))==r7)))||((!(x1==(5:Int)))&&(!(x3==[]))))||(!((((x1==(1:Int))||(x1==(4:Int)))||(x1==(5:Int)))==r8)))==false)&&((!(((x1==(1:Int))||(x1==(4:Int)))||(x1==(5:Int))))==true))=true)<|
 if(((((((r5==[])||(!((x1 !=(6:Int))==r6)))||((!(x1 !=(6:Int)))&&(!(x2==[]))))||(!((x1==(5:Int))==r7)))||((!(x1==(5:Int)))&&(!(x3==[]))))||(!((((x1==(1:Int))||(x1==(4:Int)))||(x1==(5:Int)))==r8)))||((!(((x1==(1:Int))||(x1==(4:Int)))||(x1==(5:Int))))&&(!(x4==[]))))then(
 some ([],(1:Int))
 )else(
 (f114 x1).bind fun r9=>
 jn (fun(s10:aaA)=>
 jn (fun(s11:aaA)=>
 jn (fun(s12:aaA)=>
 some (s12,(0:Int))
 ) fun(K3:Ty0->Option (aaA×Int))=>
 if(((x1==(1:Int))||(x1==(4:Int)))||(x1==(5:Int)))then(
 chk (s11.length+([32]:aaA).length<=9223372036854775807)<|
 chk ((s11++([32]:aaA)).length+x4.length<=9223372036854775807)<|
 K3 ((s11++([32]:aaA))++x4)
 )else(
 K3 s11
 )
 ) fun(K2:Ty0->Option (aaA×Int))=>
 if(x1==(5:Int))then(
 chk (s10.length+([32]:aaA).length<=9223372036854775807)<|
 chk ((s10++([32]:aaA)).length+x3.length<=9223372036854775807)<|
 K2 ((s10++([32]:aaA))++x3)
 )else(
 K2 s10
 )
 ) fun(K1:Ty0->Option (aaA×Int))=>
 if(x1 !=(6:Int))then(
 chk (r9.length+([32]:aaA).length<=9223372036854775807)<|
 chk ((r9++([32]:aaA)).length+x2.length<=9223372036854775807)<|
 K1 ((r9++([32]:aaA))++x2)
 )else(
 K1 r9
 )
 )
theorem f115_ok (x1:Int) (x2 x3 x4:aaA) (r:aaA×Int) (h:f115 x1 x2 x3 x4=some r):aG Tryz.prog 115 [] [] [] [.agg [.i x1,.str x2,.str x3,.str x4]] (.tup [.str r.1,.i r.2]) []:=by
 unfold f115 at h;refine aG.body 0 _ _ Tryz.func115 rfl Tryz.ntmps115 rfl rfl ?_;refine aN [] [] [1] [1] trivial ?_;refine aN [] [] [1,4] [1] trivial ?_;refine aN [] [] [1,4,5] [1] trivial ?_;refine aaE ?_;have ob5:true=true->((x1==(1:Int))||(x1==(4:Int)))=false->(f115z6 x1)=true:=fun _ h=>beq_iff_eq.2 h;refine aZ [] [] [1,4,5,6] [1] (an6 (an1 (idA (((x1==(1:Int))==false)=true))) (an1 (idA (((x1==(1:Int))==false)=true))) (bqA (x1==(1:Int)) false) (an1 (idA ((f115z6 x1)=true))) (an1 (idA ((f115z6 x1)=true))) ob5) ?_;refine tN (aaE (aaE ?_));obtain⟨r5,hr5,h⟩:=bind_ok h;obtain⟨r6,hr6,h⟩:=bI h;obtain⟨r7,hr7,h⟩:=bI h;obtain⟨r8,hr8,h⟩:=bI h;obtain⟨ob15,h⟩:=aB h;obtain⟨ob27,h⟩:=aB h;obtain⟨ob39,h⟩:=aB h;refine aZ [] [(2,⟨[.i x1],[],[],[],.str r5,[],[],[]⟩),(8,⟨[.str x2],[],[],[],.bool r6,[],[],[]⟩),(24,⟨[.str x3],[],[],[],.bool r7,[],[],[]⟩),(40,⟨[.str x4],[],[],[],.bool r8,[],[],[]⟩)] [1,4,5,6,78] [1] (ac6 (cpT (aAM _ _ hr5)) (an1 (idA (((r5==[])==false)=true))) (aaK (cpC fun hc=>(aAF _ _ (hr6 hc))) (an1 (idA (((r5==[])==false)=true)))) (an2 (idA (((r5==[])==false)=true)) (idA (((r5==[])==false)=true))) (bqA (r5==[]) false) (an1 (idA ((((r5==[])||(cY x1 r6))==false)=true))) (ac6 (an1 (idA ((((r5==[])||(cY x1 r6))==false)=true))) (an1 (idA (((((r5==[])||(cY x1 r6))==false)&&((dH x1)==true))=true))) (an1 (idA (((((r5==[])||(cY x1 r6))==false)&&((dH x1)==true))=true))) (aaK ob15 (an1 (idA ((((r5==[])||(cY x1 r6))==false)=true)))) (bqA ((r5==[])||(cY x1 r6)) false) (an1 (idA (((((r5==[])||(cY x1 r6))||((dH x1)&&(!(x2==[]))))==false)=true))) (ac6 (aaK (cpC fun hc=>(aAF _ _ (hr7 hc))) (an1 (idA (((((r5==[])||(cY x1 r6))||((dH x1)&&(!(x2==[]))))==false)=true)))) (an2 (idA (((((r5==[])||(cY x1 r6))||((dH x1)&&(!(x2==[]))))==false)=true)) (idA (((((r5==[])||(cY x1 r6))||((dH x1)&&(!(x2==[]))))==false)=true))) (bqA (((r5==[])||(cY x1 r6))||((dH x1)&&(!(x2==[])))) false) (an1 (idA ((((((r5==[])||(cY x1 r6))||((dH x1)&&(!(x2==[]))))||(eQ x1 r7))==false)=true))) (an1 (idA ((((((r5==[])||(cY x1 r6))||((dH x1)&&(!(x2==[]))))||(eQ x1 r7))==false)=true))) (an1 (idA (((((((r5==[])||(cY x1 r6))||((dH x1)&&(!(x2==[]))))||(eQ x1 r7))==false)&&((gH x1)==true))=true))) (ac6 (an1 (idA (((((((r5==[])||(cY x1 r6))||((dH x1)&&(!(x2==[]))))||(eQ x1 r7))==false)&&((gH x1)==true))=true))) (aaK ob27 (an1 (idA ((((((r5==[])||(cY x1 r6))||((dH x1)&&(!(x2==[]))))||(eQ x1 r7))==false)=true)))) (bqA ((((r5==[])||(cY x1 r6))||((dH x1)&&(!(x2==[]))))||(eQ x1 r7)) false) (an1 (idA (((((((r5==[])||(cY x1 r6))||((dH x1)&&(!(x2==[]))))||(eQ x1 r7))||((gH x1)&&(!(x3==[]))))==false)=true))) (aaK (cpC fun hc=>(aAF _ _ (hr8 hc))) (an1 (idA (((((((r5==[])||(cY x1 r6))||((dH x1)&&(!(x2==[]))))||(eQ x1 r7))||((gH x1)&&(!(x3==[]))))==false)=true)))) (an2 (idA (((((((r5==[])||(cY x1 r6))||((dH x1)&&(!(x2==[]))))||(eQ x1 r7))||((gH x1)&&(!(x3==[]))))==false)=true)) (idA (((((((r5==[])||(cY x1 r6))||((dH x1)&&(!(x2==[]))))||(eQ x1 r7))||((gH x1)&&(!(x3==[]))))==false)=true))) (ac6 (bqA (((((r5==[])||(cY x1 r6))||((dH x1)&&(!(x2==[]))))||(eQ x1 r7))||((gH x1)&&(!(x3==[])))) false) (an1 (idA ((((((((r5==[])||(cY x1 r6))||((dH x1)&&(!(x2==[]))))||(eQ x1 r7))||((gH x1)&&(!(x3==[]))))||(!((fX x1)==r8)))==false)=true))) (an1 (idA ((((((((r5==[])||(cY x1 r6))||((dH x1)&&(!(x2==[]))))||(eQ x1 r7))||((gH x1)&&(!(x3==[]))))||(!((fX x1)==r8)))==false)=true))) (an1 (idA (((((((((r5==[])||(cY x1 r6))||((dH x1)&&(!(x2==[]))))||(eQ x1 r7))||((gH x1)&&(!(x3==[]))))||(!((fX x1)==r8)))==false)&&((!(fX x1))==true))=true))) (an1 (idA (((((((((r5==[])||(cY x1 r6))||((dH x1)&&(!(x2==[]))))||(eQ x1 r7))||((gH x1)&&(!(x3==[]))))||(!((fX x1)==r8)))==false)&&((!(fX x1))==true))=true))) (aaK ob39 (an1 (idA ((((((((r5==[])||(cY x1 r6))||((dH x1)&&(!(x2==[]))))||(eQ x1 r7))||((gH x1)&&(!(x3==[]))))||(!((fX x1)==r8)))==false)=true)))) (an1 (bqA ((((((r5==[])||(cY x1 r6))||((dH x1)&&(!(x2==[]))))||(eQ x1 r7))||((gH x1)&&(!(x3==[]))))||(!((fX x1)==r8))) false))))))) ?_;refine tN (cK (((((((r5==[])||(cY x1 r6))||((dH x1)&&(!(x2==[]))))||(eQ x1 r7))||((gH x1)&&(!(x3==[]))))||(!((fX x1)==r8)))||((!(fX x1))&&(!(x4==[])))) (fun hc1=> ?_) fun hc1=> ?_)
 ·replace h:=aE hc1 h;refine bC [] [] ⟨101,[(2,.str []),(3,.i (1:Int))],[],[],0⟩ trivial ?_;obtain rfl:=aaD h;refine aaH (tR ?_);exact bK
 ·replace h:=aF hc1 h;refine aaG (tN (aaE ?_));obtain⟨r9,hr9,h⟩:=bind_ok h;refine aZ [] [(2,⟨[.i x1],[],[],[],.str r9,[],[],[]⟩)] [1,4,5,6,7] [1] (an1 (cpT (aAM _ _ hr9))) ?_;refine tN ?_;obtain⟨K1,hK1,h⟩:=aI h;refine aaR (α:=aaA) (fun(s10:aaA)=>⟨101,[(1,.ptr 1 0),(5,.bool (x1==(5:Int))),(6,.bool (fX x1)),(7,.str s10)],(aBR x1 x2 x3 x4),[],0⟩) (fun x=>K1 x=some r) ?_ ?_
  ·refine bC [] [] ⟨101,[(1,.ptr 1 0),(5,.bool (x1==(5:Int))),(6,.bool (fX x1)),(7,.str r9),(82,.bool (x1 !=(6:Int)))],(aBR x1 x2 x3 x4),[],0⟩ trivial ?_;refine cK (x1 !=(6:Int)) (fun hc2=> ?_) fun hc2=> ?_
   ·replace h:=aE hc2 h;obtain⟨ob42,ob43,h⟩:=ck2 h;refine aZ [] [] [1,5,6,7] [1] (an2 ob42 ob43) ?_;exact jN (((r9++([32]:aaA))++x2)) LR h
   ·replace h:=aF hc2 h;refine aaG ?_;exact jN (r9) LR h
  ·rintro s10 h;replace h:=(congrFun hK1 _).symm.trans h;obtain⟨K2,hK2,h⟩:=aI h;refine aaR (α:=aaA) (fun(s11:aaA)=>⟨101,[(1,.ptr 1 0),(6,.bool (fX x1)),(7,.str s11)],(aBR x1 x2 x3 x4),[],0⟩) (fun x=>K2 x=some r) ?_ ?_
   ·refine aN [] [] [1,6,7,88] [1] trivial ?_;refine cK (x1==(5:Int)) (fun hc3=> ?_) fun hc3=> ?_
    ·replace h:=aE hc3 h;obtain⟨ob44,ob45,h⟩:=ck2 h;refine bB [] [] ⟨101,[(1,.ptr 1 0),(6,.bool (fX x1)),(7,.str ((s10++([32]:aaA))++x3))],(aBR x1 x2 x3 x4),[],0⟩ (an2 ob44 ob45) ?_;exact jN (((s10++([32]:aaA))++x3)) LR h
    ·replace h:=aF hc3 h;refine aaG ?_;exact jN (s10) LR h
   ·rintro s11 h;replace h:=(congrFun hK2 _).symm.trans h;obtain⟨K3,hK3,h⟩:=aI h;refine aaR (α:=aaA) (fun(s12:aaA)=>⟨101,[(7,.str s12)],[],[],0⟩) (fun x=>K3 x=some r) ?_ ?_
    ·refine aN [] [] [1,7,94] [1] trivial ?_;refine cK (fX x1) (fun hc4=> ?_) fun hc4=> ?_
     ·replace h:=aE hc4 h;obtain⟨ob46,ob47,h⟩:=ck2 h;refine bB [] [] ⟨101,[(7,.str ((s11++([32]:aaA))++x4))],[],[],0⟩ (an2 ob46 ob47) ?_;exact jN (((s11++([32]:aaA))++x4)) LR h
     ·replace h:=aF hc4 h;refine aaG ?_;exact jN (s11) LR h
    ·rintro s12 h;replace h:=(congrFun hK3 _).symm.trans h;refine aN [] [] [2,3] [] trivial ?_;obtain rfl:=aaD h;refine aaH ?_;exact bK
def gX (x1:aaA) (r2:List Ty0) (K1:Unit->Option Tq9):Nat->Nat->Option Tq9
 |0,_=>none
 |k+1,n3=>
  if(decide ((n3:Int)<=(6:Int)))then(
  jn (fun(_:Unit)=>
  chk (((n3:Int)+(1:Int))<=9223372036854775807)<|
  (gX x1 r2 K1 k) (n3+1)
  ) fun(K2:Unit->Option Tq9)=>
  (f114 (n3:Int)).bind fun r4=>
  chk ((0:Int)<(((r2).length:Nat):Int))<|
  chk (0<(r2).length)<|
  if(!((r2.getD 0 [])==r4))then(
  K2 ()
  )else(
  jn (fun(s5:aaA)=>
  jn (fun(s6:aaA)=>
  jn (fun(s7:aaA)=>
  jn (fun(s8:aaA)=>
  (f115 (n3:Int) s5 s6 s8).bind fun r9=>
  if((r9.2==(0:Int))&&(r9.1==x1))then(
  some ((n3:Int),s5,s6,s8,(0:Int))
  )else(
  K2 ()
  )
  ) fun(K6:Ty0->Option Tq9)=>
  if(((n3:Int)==(5:Int))&&(decide ((((r2).length:Nat):Int)>(3:Int))))then(
  chk ((3:Int)<(((r2).length:Nat):Int))<|
  chk (3<(r2).length)<|
  K6 (r2.getD 3 [])
  )else(
  K6 s7
  )
  ) fun(K5:Ty0->Option Tq9)=>
  if(((n3:Int) !=(5:Int))&&(decide ((((r2).length:Nat):Int)>(2:Int))))then(
  chk ((2:Int)<(((r2).length:Nat):Int))<|
  chk (2<(r2).length)<|
  K5 (r2.getD 2 [])
  )else(
  K5 []
  )
  ) fun(K4:Ty0->Option Tq9)=>
  if(((n3:Int)==(5:Int))&&(decide ((((r2).length:Nat):Int)>(2:Int))))then(
  chk ((2:Int)<(((r2).length:Nat):Int))<|
  chk (2<(r2).length)<|
  K4 (r2.getD 2 [])
  )else(
  K4 []
  )
  ) fun(K3:Ty0->Option Tq9)=>
  if(decide ((((r2).length:Nat):Int)>(1:Int)))then(
  chk ((1:Int)<(((r2).length:Nat):Int))<|
  chk (1<(r2).length)<|
  K3 (r2.getD 1 [])
  )else(
  K3 []
  )
  )
  )else(
  K1 ()
  )
abbrev rC :List V:=[.i (0:Int),.str [],.str [],.str []]
abbrev aAr (x1:aaA) (n3:Nat):List (Nat×V):=[(0,.str x1),(2,.ptr 2 0),(4,.own 6001),(5,.i (n3:Int)),(6,.ptr 6 0)]
abbrev f84z2 (r2:List Ty0):aJ:=[(2,.cells 164 (rC)),(6001,bL 9 1 eS [] r2)]
abbrev xU (n3:Nat):=((n3:Int)==(5:Int))
abbrev f84z4 (n3:Nat) (r2:List Ty0):aJ:=[(2,.cells 164 (rC)),(6,.cells 164 [.i (n3:Int),.str [],.str [],.str []]),(6001,bL 9 1 eS [] r2)]
abbrev f84z5 (x1:aaA) (n3:Nat):List (Nat×V):=[(0,.str x1),(2,.ptr 2 0),(4,.own 6001),(5,.i (n3:Int))]
abbrev f84z6 (n3:Nat) (s5:aaA) (r2:List Ty0):aJ:=[(2,.cells 164 (rC)),(6,.cells 164 [.i (n3:Int),.str s5,.str [],.str []]),(6001,bL 9 1 eS [] r2)]
abbrev f84z7 (n3:Nat):=((n3:Int) !=(5:Int))
abbrev f84z8 (n3:Nat) (s5 s6:aaA) (r2:List Ty0):aJ:=[(2,.cells 164 (rC)),(6,.cells 164 [.i (n3:Int),.str s5,.str s6,.str []]),(6001,bL 9 1 eS [] r2)]
abbrev f84z9 (n3:Nat) (s5 s6 s8:aaA):List V:=[.i (n3:Int),.str s5,.str s6,.str s8]
abbrev f84z10 (n3:Nat) (s5 s6 s7:aaA) (r2:List Ty0):aJ:=[(2,.cells 164 (rC)),(6,.cells 164 [.i (n3:Int),.str s5,.str s6,.str s7]),(6001,bL 9 1 eS [] r2)]
def f84 (x1:aaA):Option Tq9:=
 (f113 x1).bind fun r2=>
 jn (fun(_:Unit)=>
 some ((0:Int),[],[],[],(2:Int))
 ) fun(K1:Unit->Option Tq9)=>
 gX x1 r2 K1 aY 1
theorem f84_ok (x1:aaA) (r:Tq9) (h:f84 x1=some r):aG Tryz.prog 84 [] [] [] [.str x1] (.tup [.agg [.i r.1,.str r.2.1,.str r.2.2.1,.str r.2.2.2.1],.i r.2.2.2.2]) []:=by
 unfold f84 at h;refine aG.bodyD [2] 0 _ _ Tryz.func84 rfl Tryz.ntmps84 rfl rfl ?_;refine aN [] [] [0,2] [2] trivial ?_;refine aaE ?_;obtain⟨r2,hr2,h⟩:=bind_ok h;refine bB [] [(1,⟨[.str x1],[],[],[(6001,aU r2)],.own 6001,[6001],[],[]⟩)] ⟨77,[(0,.str x1),(2,.ptr 2 0),(4,.own 6001)],(f84z2 r2),[],0⟩ (an1 (cpT (aG.ren (aV 3000 6001) (aD 3000 6001) rfl (f113_ok _ _ hr2)))) ?_;refine tN ?_;obtain⟨K1,hK1,h⟩:=aI h;refine aaR (fun(x:Unit)=>match x with|()=>⟨77,[(2,.ptr 2 0)],[(2,.cells 164 (rC))],[],0⟩) (fun x=>K1 x=some r) ?_ ?_
 ·refine aN [] [] [0,2,4,5] [2,6001] trivial ?_;refine aaJ (abG (α:=Nat×Nat) (fun x=>match x with|(_,n3)=>⟨77,(f84z5 x1 n3),(f84z2 r2),[],0⟩) (fun x=>gX x1 r2 K1 x.1 x.2=some r) (fun x=>x.1) (aY,1) LR h ?_)
  rintro⟨k0,n3⟩ h
  cases k0 with
  |zero=>exact nEx h
  |succ k0=>
  obtain⟨C0,hC0⟩:∃C,C=gX x1 r2 K1 k0:=⟨_,rfl⟩;replace h:=(gX.eq_2 ..).symm.trans h
  try rw[<-hC0]at h
  refine aaE (aN [] [] [0,2,4,5,12] [2,6001] trivial ?_);refine cK (decide ((n3:Int)<=(6:Int))) (fun hc1=> ?_) fun hc1=> ?_
  ·replace h:=aE hc1 h;refine aaG (tN ?_);obtain⟨K2,hK2,h⟩:=aI h;refine aaR (fun(x:Unit)=>match x with|()=>⟨77,(f84z5 x1 n3),(f84z2 r2),[],0⟩) (fun x=>K2 x=some r) ?_ ?_
   ·refine aaJ (aaE (aaE ?_));obtain⟨r4,hr4,h⟩:=bind_ok h;obtain⟨ob0p,h⟩:=aB h;have ob0:0<=(0:Int)/\(0:Int)<(((r2).length:Nat):Int):=⟨by omega,ob0p⟩;obtain⟨ob1,h⟩:=aB h;refine bB [] [(4,⟨[.i (n3:Int)],[],[],[],.str r4,[],[],[]⟩)] ⟨77,[(0,.str x1),(2,.ptr 2 0),(4,.own 6001),(5,.i (n3:Int)),(20,.bool (!((r2.getD 0 [])==r4)))],(f84z2 r2),[],0⟩ (an3 ob0 ob1 (cpT (aAM _ _ hr4))) ?_;refine tN (cK (!((r2.getD 0 [])==r4)) (fun hc2=> ?_) fun hc2=> ?_)
    ·replace h:=aE hc2 h;refine abJ (tE (kS ?_));exact jN () LR h
    ·replace h:=aF hc2 h;refine aaG (tN (aN [] [] [0,2,4,5,6] [2,6,6001] (an1 trivial) ?_));obtain⟨K3,hK3,h⟩:=aI h;refine aaR (α:=aaA) (fun(s5:aaA)=>⟨77,(aAr x1 n3),(f84z6 n3 s5 r2),[],0⟩) (fun x=>K3 x=some r) ?_ ?_
     ·refine bC [] [] ⟨77,[(0,.str x1),(2,.ptr 2 0),(4,.own 6001),(5,.i (n3:Int)),(6,.ptr 6 0),(25,.bool (decide ((lZ r2)>(1:Int))))],(f84z4 n3 r2),[],0⟩ trivial ?_;refine cK (decide ((lZ r2)>(1:Int))) (fun hc3=> ?_) fun hc3=> ?_
      ·replace h:=aE hc3 h;obtain⟨ob2p,h⟩:=aB h;have ob2:0<=(1:Int)/\(1:Int)<(((r2).length:Nat):Int):=⟨by omega,ob2p⟩;obtain⟨ob3,h⟩:=aB h;refine aZ [] [] [0,2,4,5,6] [2,6,6001] (an3 ob2 ob3 trivial) ?_;exact jN ((r2.getD 1 [])) LR h
      ·replace h:=aF hc3 h;refine aaG ?_;exact jN ([]) LR h
     ·rintro s5 h;replace h:=(congrFun hK3 _).symm.trans h;obtain⟨K4,hK4,h⟩:=aI h;refine aaR (α:=aaA) (fun(s6:aaA)=>⟨77,(aAr x1 n3),(f84z8 n3 s5 s6 r2),[],0⟩) (fun x=>K4 x=some r) ?_ ?_
      ·refine aaE (aZ [] [] [0,2,4,5,6,36] [2,6,6001] (an3 (an1 (idA (((xU n3)==true)=true))) (an1 (idA (((xU n3)==true)=true))) (bqA (xU n3) true)) ?_);refine tN (cK ((xU n3)&&(decide ((lZ r2)>(2:Int)))) (fun hc4=> ?_) fun hc4=> ?_)
       ·replace h:=aE hc4 h;obtain⟨ob7p,h⟩:=aB h;have ob7:0<=(2:Int)/\(2:Int)<(((r2).length:Nat):Int):=⟨by omega,ob7p⟩;obtain⟨ob8,h⟩:=aB h;refine bB [] [] ⟨77,(aAr x1 n3),[(2,.cells 164 (rC)),(6,.cells 164 [.i (n3:Int),.str s5,.str (r2.getD 2 []),.str []]),(6001,aU r2)],[],0⟩ (an3 ob7 ob8 trivial) ?_;exact jN ((r2.getD 2 [])) LR h
       ·replace h:=aF hc4 h;refine aaG ?_;exact jN ([]) LR h
      ·rintro s6 h;replace h:=(congrFun hK4 _).symm.trans h;obtain⟨K5,hK5,h⟩:=aI h;refine aaR (α:=aaA) (fun(s7:aaA)=>⟨77,(aAr x1 n3),(f84z10 n3 s5 s6 s7 r2),[],0⟩) (fun x=>K5 x=some r) ?_ ?_
       ·refine aaE (aZ [] [] [0,2,4,5,6,47] [2,6,6001] (an3 (an1 (idA (((f84z7 n3)==true)=true))) (an1 (idA (((f84z7 n3)==true)=true))) (bqA (f84z7 n3) true)) ?_);refine tN (cK ((f84z7 n3)&&(decide ((lZ r2)>(2:Int)))) (fun hc5=> ?_) fun hc5=> ?_)
        ·replace h:=aE hc5 h;obtain⟨ob12p,h⟩:=aB h;have ob12:0<=(2:Int)/\(2:Int)<(((r2).length:Nat):Int):=⟨by omega,ob12p⟩;obtain⟨ob13,h⟩:=aB h;refine bB [] [] ⟨77,(aAr x1 n3),[(2,.cells 164 (rC)),(6,.cells 164 [.i (n3:Int),.str s5,.str s6,.str (r2.getD 2 [])]),(6001,aU r2)],[],0⟩ (an3 ob12 ob13 trivial) ?_;exact jN ((r2.getD 2 [])) LR h
        ·replace h:=aF hc5 h;refine aaG ?_;exact jN ([]) LR h
       ·rintro s7 h;replace h:=(congrFun hK5 _).symm.trans h;obtain⟨K6,hK6,h⟩:=aI h;refine aaR (α:=aaA) (fun(s8:aaA)=>⟨77,(aAr x1 n3),[(2,.cells 164 (rC)),(6,.cells 164 (f84z9 n3 s5 s6 s8)),(6001,aU r2)],[],0⟩) (fun x=>K6 x=some r) ?_ ?_
        ·refine aaE (aZ [] [] [0,2,4,5,6,58] [2,6,6001] (an3 (an1 (idA (((xU n3)==true)=true))) (an1 (idA (((xU n3)==true)=true))) (bqA (xU n3) true)) ?_);refine tN (cK ((xU n3)&&(decide ((lZ r2)>(3:Int)))) (fun hc6=> ?_) fun hc6=> ?_)
         ·replace h:=aE hc6 h;obtain⟨ob17p,h⟩:=aB h;have ob17:0<=(3:Int)/\(3:Int)<(((r2).length:Nat):Int):=⟨by omega,ob17p⟩;obtain⟨ob18,h⟩:=aB h;refine bB [] [] ⟨77,(aAr x1 n3),[(2,.cells 164 (rC)),(6,.cells 164 [.i (n3:Int),.str s5,.str s6,.str (r2.getD 3 [])]),(6001,aU r2)],[],0⟩ (an3 ob17 ob18 trivial) ?_;exact jN ((r2.getD 3 [])) LR h
         ·replace h:=aF hc6 h;refine aaG ?_;exact jN (s7) LR h
        ·rintro s8 h;replace h:=(congrFun hK6 _).symm.trans h;refine aaE ?_;obtain⟨r9,hr9,h⟩:=bind_ok h;refine aZ [] [(1,⟨[.agg (f84z9 n3 s5 s6 s8)],[],[],[],.tup [.str r9.1,.i r9.2],[],[],[]⟩)] [0,2,4,5,6,7,8] [2,6,6001] (an1 (cpT (f115_ok _ _ _ _ _ hr9))) ?_;refine tN (aaE (bB [] [] ⟨77,[(0,.str x1),(2,.ptr 2 0),(4,.own 6001),(5,.i (n3:Int)),(6,.ptr 6 0),(74,.bool ((r9.2==(0:Int))&&(r9.1==x1)))],[(2,.cells 164 (rC)),(6,.cells 164 (f84z9 n3 s5 s6 s8)),(6001,aU r2)],[],0⟩ (an2 (an2 (idA (((r9.2==(0:Int))==true)=true)) (idA (((r9.2==(0:Int))==true)=true))) (bqA (r9.2==(0:Int)) true)) ?_));refine tN (cK ((r9.2==(0:Int))&&(r9.1==x1)) (fun hc7=> ?_) fun hc7=> ?_)
         ·replace h:=aE hc7 h;refine aN [] [] [2,3] [2] (an1 trivial) ?_;obtain rfl:=aaD h;refine aaH (kR (aR (tR (kR (aR ?_)))));exact bD
         ·replace h:=aF hc7 h;refine aaG (kN ?_);exact jN () LR h
   ·rintro⟨⟩ h;replace h:=(congrFun hK2 _).symm.trans h;obtain⟨ob22p,h⟩:=aB h;refine aZ [] [] [0,2,4,5] [2,6001] (an1 (iP ob22p)) ?_;rw[hC0]at h;exact lN (_,(n3+1)) LR h (aaM _)
  ·replace h:=aF hc1 h;refine abJ (tE (tE (kS ?_)));exact jN () LR h
 ·rintro⟨⟩ h;replace h:=(congrFun hK1 _).symm.trans h;refine aN [] [] [2,3] [2] (an1 trivial) ?_;obtain rfl:=aaD h;refine aaH ?_;exact bD
def eA (x1:List Tq1) (x2:aaA) (K1:Unit->Option Int):Nat->Nat->Option Int
 |0,_=>none
 |k+1,n3=>
  if(decide ((n3:Int)<(((x1).length:Nat):Int)))then(
  chk ((n3:Int)<(((x1).length:Nat):Int))<|
  if(((x1.getD n3 (default:Tq1)).1)==x2)then(
  some (n3:Int)
  )else(
  chk (((n3:Int)+(1:Int))<=9223372036854775807)<|
  (eA x1 x2 K1 k) (n3+1)
  )
  )else(
  K1 ()
  )
def f116 (x1:List Tq1) (x2:aaA):Option Int:=
 jn (fun(_:Unit)=>
 some (-1:Int)
 ) fun(K1:Unit->Option Int)=>
 eA x1 x2 K1 aY 0
theorem f116_ok (x1:List Tq1) (x2:aaA) (r:Int) (h:f116 x1 x2=some r):aG Tryz.prog 116 [] [] [] [vL 3 cN (default:Tq1) x1,.str x2] (.i r) []:=by
 unfold f116 at h;refine aG.body 0 _ _ Tryz.func116 rfl Tryz.ntmps116 rfl rfl ?_;refine aN [] [] [0,1] [] trivial ?_;obtain⟨K1,hK1,h⟩:=aI h;refine aaR (fun(x:Unit)=>match x with|()=>⟨20,[],[],[],0⟩) (fun x=>K1 x=some r) ?_ ?_
 ·refine bC [] [] ⟨20,[(0,bA x1),(1,.str x2),(5,.i (0:Int))],[],[],0⟩ trivial ?_;refine aaJ (abG (α:=Nat×Nat) (fun x=>match x with|(_,n3)=>⟨20,[(0,bA x1),(1,.str x2),(5,.i (n3:Int))],[],[],0⟩) (fun x=>eA x1 x2 K1 x.1 x.2=some r) (fun x=>x.1) (aY,0) LR h ?_)
  rintro⟨k0,n3⟩ h
  cases k0 with
  |zero=>exact nEx h
  |succ k0=>
  obtain⟨C0,hC0⟩:∃C,C=eA x1 x2 K1 k0:=⟨_,rfl⟩;replace h:=(eA.eq_2 ..).symm.trans h
  try rw[<-hC0]at h
  refine aaE (aN [] [] [0,1,5,9] [] trivial ?_);refine cK (decide ((n3:Int)<(lZ x1))) (fun hc1=> ?_) fun hc1=> ?_
  ·replace h:=aE hc1 h;refine aaG (tN (aaE (aaJ (aaE ?_))));obtain⟨ob0p,h⟩:=aB h;refine bB [] [] ⟨20,[(0,bA x1),(1,.str x2),(5,.i (n3:Int)),(18,.bool (((x1.getD n3 aQ).1)==x2))],[],[],0⟩ (an1 (iN ob0p)) ?_;refine tN (cK (((x1.getD n3 aQ).1)==x2) (fun hc2=> ?_) fun hc2=> ?_)
   ·replace h:=aE hc2 h;refine aN [] [] [4] [] trivial ?_;obtain rfl:=aaD h;refine aaH (kR (tR (tR (kR (aR ?_)))));exact bK
   ·replace h:=aF hc2 h;refine aaG (kN (tN ?_));obtain⟨ob1p,h⟩:=aB h;refine bB [] [] ⟨20,[(0,bA x1),(1,.str x2),(5,.i (((n3+1):Nat):Int))],[],[],0⟩ (an1 (iP ob1p)) ?_;rw[hC0]at h;exact lN (_,(n3+1)) LR h (aaM _)
  ·replace h:=aF hc1 h;refine abJ (tE (tE (kS ?_)));exact jN () LR h
 ·rintro⟨⟩ h;replace h:=(congrFun hK1 _).symm.trans h;refine aN [] [] [4] [] trivial ?_;obtain rfl:=aaD h;refine aaH ?_;exact bK
def f117 :Nat->Int->Option Ty0
 |0,_=>none
 |k+1,x1=>
  if(decide (x1<(10:Int)))then(
  chk (-9223372036854775808<=((48:Int)+x1)/\((48:Int)+x1)<=9223372036854775807)<|
  chk (0<=((48:Int)+x1)/\((48:Int)+x1)<=255)<|
  some [UInt8.ofNat ((((48:Int)+x1)).toNat)]
  )else(
  ((f117 k) (x1/(10:Int))).bind fun r2=>
  chk (0<=x1/\1<=(10:Int)/\ -9223372036854775808<=(x1/(10:Int))/\(x1/(10:Int))<=9223372036854775807)<|
  chk (0<=x1/\1<=(10:Int))<|
  chk (-9223372036854775808<=((48:Int)+(x1%(10:Int)))/\((48:Int)+(x1%(10:Int)))<=9223372036854775807)<|
  chk (0<=((48:Int)+(x1%(10:Int)))/\((48:Int)+(x1%(10:Int)))<=255)<|
  chk (r2.length+[UInt8.ofNat ((((48:Int)+(x1%(10:Int)))).toNat)].length<=9223372036854775807)<|
  some (r2++[UInt8.ofNat ((((48:Int)+(x1%(10:Int)))).toNat)])
  )
theorem aAL :∀(k:Nat) (x1:Int) (r:aaA),f117 k x1=some r->aG Tryz.prog 117 [] [] [] [.i x1] (.str r) []:=by
 intro k
 induction k with
 |zero=>intro x1 r h;exact nEx h
 |succ k ih=>
 intro x1 r h;obtain⟨Frec,hFrec⟩:∃C,C=f117 k:=⟨_,rfl⟩;rw[f117.eq_2]at h;rw[<-hFrec]at h ih;refine aG.body 0 _ _ Tryz.func117 rfl Tryz.ntmps117 rfl rfl ?_;refine aN [] [] [0] [] trivial ?_;refine aaE (aN [] [] [0,4] [] trivial ?_);refine cK (decide (x1<(10:Int))) (fun hc1=> ?_) fun hc1=> ?_
 ·replace h:=aE hc1 h;refine aaE ?_;obtain⟨ob0,ob1,h⟩:=ck2 h;have ob2:∀i,i<1->isByte ((dE 1 [.int .u8 ((48:Int)+x1)]) i 0):=fun i hi=>match i,hi with|0,_=>trivial
  refine bB [] [] ⟨20,[(2,.str [UInt8.ofNat ((((48:Int)+x1)).toNat)])],[],[],0⟩ (an3 ob0 ob1 ob2) ?_;refine tN ?_;obtain rfl:=aaD h;refine aaH (tR ?_);exact bK
 ·replace h:=aF hc1 h;refine aaG (tN (aaE ?_));obtain⟨r2,hr2,h⟩:=bind_ok h;obtain⟨ob3,ob4,ob5,ob6,h⟩:=ck4 h;have ob7:∀i,i<1->isByte ((dE 1 [.int .u8 ((48:Int)+(x1%(10:Int)))]) i 0):=fun i hi=>match i,hi with|0,_=>trivial
  obtain⟨ob8,h⟩:=aB h;refine aZ [] [(2,⟨[.i (x1/(10:Int))],[],[],[],.str r2,[],[],[]⟩)] [2] [] (ac6 ob3 (cpT (ih _ _ hr2)) ob4 ob5 ob6 ob7 (an1 ob8)) ?_;refine tN ?_;obtain rfl:=aaD h;refine aaH ?_;exact bK
def gO (x1:List Tq1) (x2 x3:aaA) (K1:(Bool×Ty7)->Option Ty7):Nat->(Bool×Nat×Ty7)->Option Ty7
 |0,_=>none
 |k+1,(b4,n5,l6)=>
  if(decide ((n5:Int)<(((x1).length:Nat):Int)))then(
  jn (fun((b7,l8):Bool×Ty7)=>
  chk (((n5:Int)+(1:Int))<=9223372036854775807)<|
  (gO x1 x2 x3 K1 k) (b7,(n5+1),l8)
  ) fun(K2:(Bool×Ty7)->Option Ty7)=>
  chk ((n5:Int)<(((x1).length:Nat):Int))<|
  if(((x1.getD n5 (default:Tq1)).1)==x2)then(
  chk ((n5:Int)<(((x1).length:Nat):Int))<|
  chk (-9223372036854775808<=((x1.getD n5 (default:Tq1)).2.2+(1:Int))/\((x1.getD n5 (default:Tq1)).2.2+(1:Int))<=9223372036854775807)<|
  chk (((l6).length+1) *40<=140737488355328)<|
  K2 (true,(l6++[(x2,x3,(min ((x1.getD n5 (default:Tq1)).2.2+(1:Int)) (1000000000000:Int)))]))
  )else(
  jn (fun((b9,l10):Bool×Ty7)=>
  chk ((n5:Int)<(((x1).length:Nat):Int))<|
  chk (((l10).length+1) *40<=140737488355328)<|
  K2 (b9,(l10++[((x1.getD n5 (default:Tq1)).1,(x1.getD n5 (default:Tq1)).2.1,(x1.getD n5 (default:Tq1)).2.2)]))
  ) fun(K3:(Bool×Ty7)->Option Ty7)=>
  chk ((n5:Int)<(((x1).length:Nat):Int))<|
  if((!((Op.bytesLess ((x1.getD n5 (default:Tq1)).1) x2)||(((x1.getD n5 (default:Tq1)).1)==x2)))&&(!b4))then(
  chk (((l6).length+1) *40<=140737488355328)<|
  K3 (true,(l6++[(x2,x3,(1:Int))]))
  )else(
  K3 (b4,l6)
  )
  )
  )else(
  K1 (b4,l6)
  )
abbrev dJ (x1:List Tq1) (n5:Nat):=(x1.getD n5 (default:Tq1))
abbrev f118z1 (x1:List Tq1) (x2 x3:aaA) (n5:Nat):List (Nat×V):=[(0,vL 3 cN (default:Tq1) x1),(1,.str x2),(2,.str x3),(7,.own 5007),(8,.bool true),(9,.i (n5:Int))]
abbrev yZ (x1:List Tq1) (n5:Nat) (x2:aaA):=(!((Op.bytesLess ((dJ x1 n5).1) x2)||(((dJ x1 n5).1)==x2)))
abbrev f118z3 (x1:List Tq1) (x2 x3:aaA) (b9:Bool) (n5:Nat):List (Nat×V):=[(0,vL 3 cN (default:Tq1) x1),(1,.str x2),(2,.str x3),(7,.own 52),(8,.bool b9),(9,.i (n5:Int))]
abbrev aBQ (x1:List Tq1) (x2 x3:aaA) (n5:Nat):List (Nat×V):=[(0,vL 3 cN (default:Tq1) x1),(1,.str x2),(2,.str x3),(7,.own 5007),(9,.i (n5:Int))]
abbrev f118z5 (l6:List Tq1):aJ:=[(5007,bL 202 3 cN (default:Tq1) l6)]
abbrev tX :=Tq1
abbrev f118z7 (l6:List Tq1) (x2 x3:aaA) (x1:List Tq1) (n5:Nat):aJ:=[(5007,bL 202 3 cN (default:Tq1) (l6++[(x2,x3,(min ((dJ x1 n5).2.2+(1:Int)) (1000000000000:Int)))]))]
def f118 (x1:List Tq1) (x2 x3:aaA):Option Ty7:=
 jn (fun((b11,l12):Bool×Ty7)=>
 jn (fun(l13:List Tq1)=>
 some l13
 ) fun(K4:Ty7->Option Ty7)=>
 if(!b11)then(
 chk (((l12).length+1) *40<=140737488355328)<|
 K4 (l12++[(x2,x3,(1:Int))])
 )else(
 K4 l12
 )
 ) fun(K1:(Bool×Ty7)->Option Ty7)=>
 gO x1 x2 x3 K1 aY (false,0,[])
theorem f118_ok (x1:List Tq1) (x2 x3:aaA) (r:List Tq1) (h:f118 x1 x2 x3=some r):aG Tryz.prog 118 [] [] [] [vL 3 cN (default:Tq1) x1,.str x2,.str x3] (.own 3000) [(3000,bL 202 3 cN (default:Tq1) r)]:=by
 unfold f118 at h;refine aG.body 0 _ _ Tryz.func118 rfl Tryz.ntmps118 rfl rfl ?_;refine aN [] [] [0,1,2] [] trivial ?_;refine aN [] [] [0,1,2,7] [] trivial ?_;refine bC [] [] ⟨69,[(0,bA x1),(1,.str x2),(2,.str x3),(7,.nils),(8,.bool false)],[],[],0⟩ trivial ?_;obtain⟨K1,hK1,h⟩:=aI h;refine aaR (fun(x:Bool×(List (tX)))=>match x with|(b11,l12)=>⟨69,[(1,.str x2),(2,.str x3),(7,.own 5007),(8,.bool b11)],[(5007,aS l12)],[],0⟩) (fun x=>K1 x=some r) ?_ ?_
 ·refine bC [] [] ⟨69,[(0,bA x1),(1,.str x2),(2,.str x3),(7,.nils),(8,.bool false),(9,.i (0:Int))],[],[],0⟩ trivial ?_;refine aaJ (abG (α:=Nat×(Bool×Nat×(List (tX)))) (fun x=>match x with|(_,b4,n5,l6)=>⟨69,[(0,bA x1),(1,.str x2),(2,.str x3),(7,.own 5007),(8,.bool b4),(9,.i (n5:Int))],(f118z5 l6),[],0⟩) (fun x=>gO x1 x2 x3 K1 x.1 x.2=some r) (fun x=>x.1) (aY,false,0,[]) (aaI (aaI (adE 7 5007 202 3 (bY cN aQ []) rfl rfl (aaW rfl)) (LR (s':=⟨69,[(0,bA x1),(1,.str x2),(2,.str x3),(7,.own 5007),(8,.bool false),(9,.i (0:Int))],[(5007,aS [])],[],0⟩))) LR) h ?_)
  rintro⟨k0,b4,n5,l6⟩ h
  cases k0 with
  |zero=>exact nEx h
  |succ k0=>
  obtain⟨C0,hC0⟩:∃C,C=gO x1 x2 x3 K1 k0:=⟨_,rfl⟩;replace h:=(gO.eq_2 ..).symm.trans h
  try rw[<-hC0]at h
  refine aaE (aN [] [] [0,1,2,7,8,9,13] [5007] trivial ?_);refine cK (decide ((n5:Int)<(lZ x1))) (fun hc1=> ?_) fun hc1=> ?_
  ·replace h:=aE hc1 h;refine aaG (tN ?_);obtain⟨K2,hK2,h⟩:=aI h;refine aaR (fun(x:Bool×(List (tX)))=>match x with|(b7,l8)=>⟨69,[(0,bA x1),(1,.str x2),(2,.str x3),(7,.own 35),(8,.bool b7),(9,.i (n5:Int))],[(35,aS l8)],[],0⟩) (fun x=>K2 x=some r) ?_ ?_
   ·refine aaJ (aaE (aaE ?_));obtain⟨ob0p,h⟩:=aB h;refine bB [] [] ⟨69,[(0,bA x1),(1,.str x2),(2,.str x3),(7,.own 5007),(8,.bool b4),(9,.i (n5:Int)),(22,.bool (((dJ x1 n5).1)==x2))],(f118z5 l6),[],0⟩ (an1 (iN ob0p)) ?_;refine tN (cK (((dJ x1 n5).1)==x2) (fun hc2=> ?_) fun hc2=> ?_)
    ·replace h:=aE hc2 h;refine aaE ?_;obtain⟨ob1p,h⟩:=aB h;obtain⟨ob2,ob3,h⟩:=ck2 h;refine bB [] [] ⟨69,(aBQ x1 x2 x3 n5),[(5007,.rows 202 3 ((l6).length+1) (fH (l6).length (bY cN aQ l6) (dE 3 [.str x2,.str x3,.i (min ((dJ x1 n5).2.2+(1:Int)) (1000000000000:Int))])))],[],0⟩ (an3 (iN ob1p) ob2 ob3) ?_;refine tN (aaS (acO (s':=⟨69,(aBQ x1 x2 x3 n5),(f118z7 l6 x2 x3 x1 n5),[],0⟩) rfl rfl ⟨.refl _,.refl _,.refl _,.refl _,.refl _,trivial⟩ ⟨⟨_,rfl,(acE (adF (acH _) (acM (enc:=cN) [(x2,x3,(min ((dJ x1 n5).2.2+(1:Int)) (1000000000000:Int)))] rfl rfl (fun _=>rfl))))⟩,trivial⟩) ?_);refine bC [] [] ⟨69,(f118z1 x1 x2 x3 n5),(f118z7 l6 x2 x3 x1 n5),[],0⟩ trivial ?_;refine abJ (tE (kS ?_));exact jN (true,(l6++[(x2,x3,(min ((dJ x1 n5).2.2+(1:Int)) (1000000000000:Int)))])) (aaI (aaI (abX (aV 5007 35) (aD 5007 35) rfl) (LR (s':=⟨69,[(0,bA x1),(1,.str x2),(2,.str x3),(7,.own 35),(8,.bool true),(9,.i (n5:Int))],[(35,aS (l6++[(x2,x3,(min ((dJ x1 n5).2.2+(1:Int)) (1000000000000:Int)))]))],[],0⟩))) LR) h
    ·replace h:=aF hc2 h;refine aaG (tN ?_);obtain⟨K3,hK3,h⟩:=aI h;refine aaR (fun(x:Bool×(List (tX)))=>match x with|(b9,l10)=>⟨69,(f118z3 x1 x2 x3 b9 n5),[(52,aS l10)],[],0⟩) (fun x=>K3 x=some r) ?_ ?_
     ·refine aaE ?_;obtain⟨ob4p,h⟩:=aB h;refine bB [] [] ⟨69,[(0,bA x1),(1,.str x2),(2,.str x3),(7,.own 5007),(8,.bool b4),(9,.i (n5:Int)),(46,.bool ((yZ x1 n5 x2)&&(!b4)))],(f118z5 l6),[],0⟩ (an3 (iN ob4p) (an1 (idA (((yZ x1 n5 x2)==true)=true))) (bqA (yZ x1 n5 x2) true)) ?_;refine tN (cK ((yZ x1 n5 x2)&&(!b4)) (fun hc3=> ?_) fun hc3=> ?_)
      ·replace h:=aE hc3 h;refine aaE ?_;obtain⟨ob7,h⟩:=aB h;refine bB [] [] ⟨69,(aBQ x1 x2 x3 n5),[(5007,.rows 202 3 ((l6).length+1) (fH (l6).length (bY cN aQ l6) (dE 3 [.str x2,.str x3,.i (1:Int)])))],[],0⟩ (an1 ob7) ?_;refine tN (aaS (acO (s':=⟨69,(aBQ x1 x2 x3 n5),[(5007,aS (l6++[(x2,x3,(1:Int))]))],[],0⟩) rfl rfl ⟨.refl _,.refl _,.refl _,.refl _,.refl _,trivial⟩ ⟨⟨_,rfl,(acE (adF (acH _) (acM (enc:=cN) [(x2,x3,(1:Int))] rfl rfl (fun _=>rfl))))⟩,trivial⟩) ?_);refine bB [] [] ⟨69,(f118z1 x1 x2 x3 n5),[(5007,aS (l6++[(x2,x3,(1:Int))]))],[],0⟩ trivial ?_;exact jN (true,(l6++[(x2,x3,(1:Int))])) (aaI (aaI (abX (aV 5007 52) (aD 5007 52) rfl) (LR (s':=⟨69,[(0,bA x1),(1,.str x2),(2,.str x3),(7,.own 52),(8,.bool true),(9,.i (n5:Int))],[(52,aS (l6++[(x2,x3,(1:Int))]))],[],0⟩))) LR) h
      ·replace h:=aF hc3 h;refine aaG ?_;exact jN (b4,l6) (aaI (aaI (abX (aV 5007 52) (aD 5007 52) rfl) (LR (s':=⟨69,[(0,bA x1),(1,.str x2),(2,.str x3),(7,.own 52),(8,.bool b4),(9,.i (n5:Int)),(46,.bool ((yZ x1 n5 x2)&&(!b4)))],[(52,aS l6)],[],0⟩))) LR) h
     ·rintro⟨b9,l10⟩ h;replace h:=(congrFun hK3 _).symm.trans h;obtain⟨ob8p,h⟩:=aB h;obtain⟨ob9,h⟩:=aB h;refine bB [] [] ⟨69,(f118z3 x1 x2 x3 b9 n5),[(52,.rows 202 3 ((l10).length+1) (fH (l10).length (bY cN aQ l10) (dE 3 [.str (dJ x1 n5).1,.str (dJ x1 n5).2.1,.i (dJ x1 n5).2.2])))],[],0⟩ (an2 (iN ob8p) ob9) ?_;refine kN ?_;exact jN (b9,(l10++[((dJ x1 n5).1,(dJ x1 n5).2.1,(dJ x1 n5).2.2)])) (aaI (acO (s':=⟨69,(f118z3 x1 x2 x3 b9 n5),[(52,aS (l10++[((dJ x1 n5).1,(dJ x1 n5).2.1,(dJ x1 n5).2.2)]))],[],0⟩) rfl rfl ⟨.refl _,.refl _,.refl _,.refl _,.refl _,.refl _,trivial⟩ ⟨⟨_,rfl,(acE (adF (acH _) (acM (enc:=cN) [((dJ x1 n5).1,(dJ x1 n5).2.1,(dJ x1 n5).2.2)] rfl rfl (fun _=>rfl))))⟩,trivial⟩) (aaI (aaI (abX (aV 52 35) (aD 52 35) rfl) (LR (s':=⟨69,[(0,bA x1),(1,.str x2),(2,.str x3),(7,.own 35),(8,.bool b9),(9,.i (n5:Int))],[(35,aS (l10++[((dJ x1 n5).1,(dJ x1 n5).2.1,(dJ x1 n5).2.2)]))],[],0⟩))) LR)) h
   ·rintro⟨b7,l8⟩ h;replace h:=(congrFun hK2 _).symm.trans h;obtain⟨ob10p,h⟩:=aB h;refine bB [] [] ⟨69,[(0,bA x1),(1,.str x2),(2,.str x3),(7,.own 35),(8,.bool b7),(9,.i (((n5+1):Nat):Int))],[(35,aS l8)],[],0⟩ (an1 (iP ob10p)) ?_;rw[hC0]at h;exact lN (_,b7,(n5+1),l8) (aaI (aaI (abX (aV 35 5007) (aD 35 5007) rfl) (LR (s':=⟨69,[(0,bA x1),(1,.str x2),(2,.str x3),(7,.own 5007),(8,.bool b7),(9,.i (((n5+1):Nat):Int))],[(5007,aS l8)],[],0⟩))) LR) h (aaM _)
  ·replace h:=aF hc1 h;refine abJ (tE (tE (kS ?_)));exact jN (b4,l6) LR h
 ·rintro⟨b11,l12⟩ h;replace h:=(congrFun hK1 _).symm.trans h;obtain⟨K4,hK4,h⟩:=aI h;refine aaR (α:=List (tX)) (fun(l13:List (tX))=>⟨69,[(7,.own 5007)],[(5007,aS l13)],[],0⟩) (fun x=>K4 x=some r) ?_ ?_
  ·refine aN [] [] [1,2,7,61] [5007] trivial ?_;refine cK (!b11) (fun hc4=> ?_) fun hc4=> ?_
   ·replace h:=aE hc4 h;obtain⟨ob11,h⟩:=aB h;refine bB [] [] ⟨69,[(7,.own 5007)],[(5007,.rows 202 3 ((l12).length+1) (fH (l12).length (bY cN aQ l12) (dE 3 [.str x2,.str x3,.i (1:Int)])))],[],0⟩ (an1 ob11) ?_;exact jN ((l12++[(x2,x3,(1:Int))])) (aaI (acO (s':=⟨69,[(7,.own 5007)],[(5007,aS (l12++[(x2,x3,(1:Int))]))],[],0⟩) rfl rfl ⟨.refl _,trivial⟩ ⟨⟨_,rfl,(acE (adF (acH _) (acM (enc:=cN) [(x2,x3,(1:Int))] rfl rfl (fun _=>rfl))))⟩,trivial⟩) LR) h
   ·replace h:=aF hc4 h;refine aaG ?_;exact jN (l12) LR h
  ·rintro l13 h;replace h:=(congrFun hK4 _).symm.trans h;refine bC [] [] ⟨69,[(6,.own 5007)],[(5007,aS l13)],[],0⟩ trivial ?_;refine aaS (aaI (abX (aV 5007 3000) (aD 5007 3000) rfl) (LR (s':=⟨69,[(6,.own 3000)],[(3000,aS l13)],[],0⟩))) ?_;obtain rfl:=aaD h;refine aaS (LR (s':=⟨69,[(6,.own 3000)],[(3000,aS l13)],[],0⟩)) ?_;refine aaH ?_;exact bK
abbrev aCB (x2:Int) (x3 x4 x5:aaA) (x1:List Tq1):aJ:=[(3,.cells 164 [.i x2,.str x3,.str x4,.str x5]),(12,bL 202 3 cN (default:Tq1) ([]++x1))]
abbrev uY (x1:List Tq1):aJ:=[(12,bL 202 3 cN (default:Tq1) ([]++x1))]
abbrev iX (x1:List Tq1):aJ:=[(3000,bL 202 3 cN (default:Tq1) ([]++x1))]
abbrev f85z3 :=([110,111,110,101]:aaA)
abbrev f85z4 (x1:List Tq1) (r7:Int) (x5:aaA):List (Nat×V):=[(0,vL 3 cN (default:Tq1) x1),(3,.ptr 3 0),(6,.own 12),(9,.i r7),(10,.str x5)]
abbrev aAq (r7:Int):=(decide (r7<(0:Int)))
abbrev aCA :List (Nat×V):=[(4,.own 3000),(5,.str (f85z3))]
abbrev f85z7 :List (Nat×V):=[(4,.own 12),(5,.str (f85z3))]
abbrev f85z8 (r12:List Tq1):aJ:=[(6001,bL 202 3 cN (default:Tq1) r12)]
abbrev f85z9 :List (Nat×V):=[(4,.own 63),(5,.str ([111,107]:aaA))]
abbrev f85z10 :=([108,111,110,103]:aaA)
abbrev f85z11 :=([102,117,108,108]:aaA)
def f85 (x1:List Tq1) (x2:Int) (x3 x4 x5:aaA):Option (aaA×Ty7):=
 chk ((0+(x1).length) *40<=140737488355328)<|
 (f115 x2 x3 x4 x5).bind fun r6=>
 if(r6.2 !=(0:Int))then(
 some (cs3,([]++x1))
 )else(
 (f116 x1 x3).bind fun r7=>
 jn (fun(s10:aaA)=>
 if((decide (r7<(0:Int)))&&(decide ((((x1).length:Nat):Int)>=(64:Int))))then(
 some (([102,117,108,108]:aaA),([]++x1))
 )else(
 (f118 x1 x3 s10).bind fun r12=>
 (f116 r12 x3).bind fun r13=>
 (f117 aY ((r12.getD ((r13).toNat) (default:Tq1)).2.2)).bind fun r14=>
 chk (0<=r13/\r13<(((r12).length:Nat):Int))<|
 chk (((r13).toNat)<(r12).length)<|
 chk (([111,107,32]:aaA).length+r14.length<=9223372036854775807)<|
 some ((([111,107,32]:aaA)++r14),r12)
 )
 ) fun(K1:Ty0->Option (aaA×Ty7))=>
 if(x2==(6:Int))then(
 (f117 aY (((x1).length:Nat):Int)).bind fun r8=>
 chk (cs9.length+r8.length<=9223372036854775807)<|
 some ((cs9++r8),([]++x1))
 )else(
 if(x2==(2:Int))then(
 if(decide (r7<(0:Int)))then(
 some (([110,111,110,101]:aaA),([]++x1))
 )else(
 (f117 aY ((x1.getD ((r7).toNat) (default:Tq1)).2.2)).bind fun r9=>
 chk (0<=r7/\r7<(((x1).length:Nat):Int))<|
 chk (sO.length+((x1.getD ((r7).toNat) (default:Tq1)).2.1).length<=9223372036854775807)<|
 chk ((sO++((x1.getD ((r7).toNat) (default:Tq1)).2.1)).length+([32]:aaA).length<=9223372036854775807)<|
 chk (0<=r7/\r7<(((x1).length:Nat):Int))<|
 chk (((sO++((x1.getD ((r7).toNat) (default:Tq1)).2.1))++([32]:aaA)).length+r9.length<=9223372036854775807)<|
 some ((((sO++((x1.getD ((r7).toNat) (default:Tq1)).2.1))++([32]:aaA))++r9),([]++x1))
 )
 )else(
 if(x2==(3:Int))then(
 if(decide (r7<(0:Int)))then(
 some (([110,111,110,101]:aaA),([]++x1))
 )else(
 chk (0<=r7/\r7<=(((x1).length:Nat):Int))<|
 chk ((0+((r7).toNat)) *40<=140737488355328)<|
 chk (-9223372036854775808<=(r7+(1:Int))/\(r7+(1:Int))<=9223372036854775807)<|
 chk (0<=(r7+(1:Int))/\(r7+(1:Int))<=(((x1).length:Nat):Int))<|
 chk (((0+((r7).toNat))+((x1).length-((r7+(1:Int))).toNat)) *40<=140737488355328)<|
 some (([111,107]:aaA),(([]++(x1.take ((r7).toNat)))++(x1.drop (((r7+(1:Int))).toNat))))
 )
 )else(
 if(x2==(5:Int))then(
 if(decide (r7<(0:Int)))then(
 some (([110,111,110,101]:aaA),([]++x1))
 )else(
 chk (0<=r7/\r7<(((x1).length:Nat):Int))<|
 if(!(((x1.getD ((r7).toNat) (default:Tq1)).2.1)==x4))then(
 chk (0<=r7/\r7<(((x1).length:Nat):Int))<|
 chk (([110,111,32]:aaA).length+((x1.getD ((r7).toNat) (default:Tq1)).2.1).length<=9223372036854775807)<|
 some ((([110,111,32]:aaA)++((x1.getD ((r7).toNat) (default:Tq1)).2.1)),([]++x1))
 )else(
 K1 x5
 )
 )
 )else(
 if(x2==(4:Int))then(
 jn (fun(s11:aaA)=>
 if(decide (((s11.length:Nat):Int)>(256:Int)))then(
 some (([108,111,110,103]:aaA),([]++x1))
 )else(
 K1 s11
 )
 ) fun(K2:Ty0->Option (aaA×Ty7))=>
 if(decide (r7>=(0:Int)))then(
 chk (0<=r7/\r7<(((x1).length:Nat):Int))<|
 chk (((x1.getD ((r7).toNat) (default:Tq1)).2.1).length+x5.length<=9223372036854775807)<|
 K2 (((x1.getD ((r7).toNat) (default:Tq1)).2.1)++x5)
 )else(
 K2 x5
 )
 )else(
 K1 x5
 )
 )
 )
 )
 )
 )
theorem f85_ok (x1:List Tq1) (x2:Int) (x3 x4 x5:aaA) (r:aaA×Ty7) (h:f85 x1 x2 x3 x4 x5=some r):aG Tryz.prog 85 [] [] [] [vL 3 cN (default:Tq1) x1,.agg [.i x2,.str x3,.str x4,.str x5]] (.tup [.own 3000,.str r.1]) [(3000,bL 202 3 cN (default:Tq1) r.2)]:=by
 unfold f85 at h;refine aG.body 0 _ _ Tryz.func85 rfl Tryz.ntmps85 rfl rfl ?_;refine aN [] [] [0,3] [3] trivial ?_;refine aaE ?_;obtain⟨ob0,h⟩:=aB h;refine bB [] [] ⟨133,[(0,bA x1),(3,.ptr 3 0),(6,.own 12)],[(3,.cells 164 [.i x2,.str x3,.str x4,.str x5]),(12,.rows 202 3 (0+(x1).length) (fH 0 (dE 3 []) (bY cN aQ x1)))],[],0⟩ (an1 ob0) ?_;refine tN (aaS (acO (s':=⟨133,[(0,bA x1),(3,.ptr 3 0),(6,.own 12)],(aCB x2 x3 x4 x5 x1),[],0⟩) rfl rfl ⟨.refl _,.refl _,.refl _,trivial⟩ ⟨⟨_,rfl,.refl _⟩,⟨_,rfl,(acE (adF (acM (enc:=cN) [] rfl rfl (fun _=>rfl)) (acH _)))⟩,trivial⟩) ?_);refine aaE (aaE ?_);obtain⟨r6,hr6,h⟩:=bind_ok h;refine aZ [] [(1,⟨[.agg [.i x2,.str x3,.str x4,.str x5]],[],[],[],.tup [.str r6.1,.i r6.2],[],[],[]⟩)] [0,3,6,8] [3,12] (an1 (cpT (f115_ok _ _ _ _ _ hr6))) ?_;refine tN (aN [] [] [0,3,6,21] [3,12] trivial ?_);refine cK (r6.2 !=(0:Int)) (fun hc1=> ?_) fun hc1=> ?_
 ·replace h:=aE hc1 h;refine bC [] [] ⟨133,[(4,.own 12),(5,.str cs3)],(uY x1),[],0⟩ trivial ?_;refine aaS (aaI (abX (aV 12 3000) (aD 12 3000) rfl) (LR (s':=⟨133,[(4,.own 3000),(5,.str cs3)],(iX x1),[],0⟩))) ?_;obtain rfl:=aaD h;refine aaS (LR (s':=⟨133,[(4,.own 3000),(5,.str cs3)],(iX x1),[],0⟩)) ?_;refine aaH (tR ?_);exact bK
 ·replace h:=aF hc1 h;refine aaG (tN (aaE ?_));obtain⟨r7,hr7,h⟩:=bind_ok h;refine aZ [] [(3,⟨[bA x1,.str x3],[],[],[],.i r7,[],[],[]⟩)] [0,3,6,9] [3,12] (an1 (cpT (f116_ok _ _ _ hr7))) ?_;refine tN (bC [] [] ⟨133,(f85z4 x1 r7 x5),(aCB x2 x3 x4 x5 x1),[],0⟩ trivial ?_);obtain⟨K1,hK1,h⟩:=aI h;refine aaR (α:=aaA) (fun(s10:aaA)=>⟨133,[(0,bA x1),(3,.ptr 3 0),(6,.own 12),(9,.i r7),(10,.str s10)],(aCB x2 x3 x4 x5 x1),[],0⟩) (fun x=>K1 x=some r) ?_ ?_
  ·refine aN [] [] [0,3,6,9,10,30] [3,12] trivial ?_;refine aaJ (aN [] [] [0,3,6,9,10,30,31] [3,12] trivial ?_);refine cK (x2==(6:Int)) (fun hc2=> ?_) fun hc2=> ?_
   ·replace h:=aE hc2 h;refine aaE ?_;obtain⟨r8,hr8,h⟩:=bind_ok h;obtain⟨ob1,h⟩:=aB h;refine bB [] [(3,⟨[.i (lZ x1)],[],[],[],.str r8,[],[],[]⟩)] ⟨133,[(4,.own 12),(5,.str (cs9++r8))],(uY x1),[],0⟩ (an2 (cpT (aAL aY _ _ hr8)) ob1) ?_;refine tN (aaS (aaI (abX (aV 12 3000) (aD 12 3000) rfl) (LR (s':=⟨133,[(4,.own 3000),(5,.str (cs9++r8))],(iX x1),[],0⟩))) ?_);obtain rfl:=aaD h;refine aaS (LR (s':=⟨133,[(4,.own 3000),(5,.str (cs9++r8))],(iX x1),[],0⟩)) ?_;refine aaH (kR (aR ?_));exact bK
   ·replace h:=aF hc2 h;refine aN [] [] [0,3,6,9,10,30,38] [3,12] trivial ?_;refine cK (x2==(2:Int)) (fun hc3=> ?_) fun hc3=> ?_
    ·replace h:=aE hc3 h;refine aaE (aN [] [] [0,6,9,41] [12] trivial ?_);refine cK (aAq r7) (fun hc4=> ?_) fun hc4=> ?_
     ·replace h:=aE hc4 h;refine bC [] [] ⟨133,(f85z7),(uY x1),[],0⟩ trivial ?_;refine aaS (aaI (abX (aV 12 3000) (aD 12 3000) rfl) (LR (s':=⟨133,(aCA),(iX x1),[],0⟩))) ?_;obtain rfl:=aaD h;refine aaS (LR (s':=⟨133,(aCA),(iX x1),[],0⟩)) ?_;refine aaH (tR (kR (aR ?_)));exact bK
     ·replace h:=aF hc4 h;refine aaG (tN (aaE ?_));obtain⟨r9,hr9,h⟩:=bind_ok h;obtain⟨ob2,ob3,ob4,ob5,ob6,h⟩:=ck5 h;refine bB [] [(13,⟨[.i (x1.getD ((r7).toNat) aQ).2.2],[],[],[],.str r9,[],[],[]⟩)] ⟨133,[(4,.own 12),(5,.str (((sO++((x1.getD ((r7).toNat) aQ).2.1))++([32]:aaA))++r9))],(uY x1),[],0⟩ (an6 ob2 ob3 ob4 ob5 (cpT (aAL aY _ _ hr9)) ob6) ?_;refine tN (aaS (aaI (abX (aV 12 3000) (aD 12 3000) rfl) (LR (s':=⟨133,[(4,.own 3000),(5,.str (((sO++((x1.getD ((r7).toNat) aQ).2.1))++([32]:aaA))++r9))],(iX x1),[],0⟩))) ?_);obtain rfl:=aaD h;refine aaS (LR (s':=⟨133,[(4,.own 3000),(5,.str (((sO++((x1.getD ((r7).toNat) aQ).2.1))++([32]:aaA))++r9))],(iX x1),[],0⟩)) ?_;refine aaH (kR (aR ?_));exact bK
    ·replace h:=aF hc3 h;refine aN [] [] [0,3,6,9,10,30,58] [3,12] trivial ?_;refine cK (x2==(3:Int)) (fun hc5=> ?_) fun hc5=> ?_
     ·replace h:=aE hc5 h;refine aaE (aN [] [] [0,6,9,61] [12] trivial ?_);refine cK (aAq r7) (fun hc6=> ?_) fun hc6=> ?_
      ·replace h:=aE hc6 h;refine bC [] [] ⟨133,(f85z7),(uY x1),[],0⟩ trivial ?_;refine aaS (aaI (abX (aV 12 3000) (aD 12 3000) rfl) (LR (s':=⟨133,(aCA),(iX x1),[],0⟩))) ?_;obtain rfl:=aaD h;refine aaS (LR (s':=⟨133,(aCA),(iX x1),[],0⟩)) ?_;refine aaH (tR (kR (aR ?_)));exact bK
      ·replace h:=aF hc6 h;refine aaG (tN (aaE ?_));obtain⟨ob7,ob8,ob9,ob10,ob11,h⟩:=ck5 h;refine bB [] [] ⟨133,(f85z9),[(63,.rows 202 3 ((0+((r7).toNat))+((x1).length-((r7+(1:Int))).toNat)) (fH (0+((r7).toNat)) (fH 0 (dE 3 []) (bY cN aQ x1)) (fun i j=>(bY cN aQ x1) (i+(((r7+(1:Int))).toNat)) j)))],[],0⟩ (an5 ob7 ob8 ob9 ob10 ob11) ?_;refine tN ?_;refine aaS (acO (s':=⟨133,(f85z9),[(63,aS (([]++(x1.take ((r7).toNat)))++(x1.drop (((r7+(1:Int))).toNat))))],[],0⟩) rfl rfl ⟨.refl _,.refl _,trivial⟩ ⟨⟨_,rfl,(acE (adF (adF (acM (enc:=cN) [] rfl rfl (fun _=>rfl)) (RL.takeL (by first|omega|(simp only[aaF,aaN,abB,abE,aaZ]at *;omega)|(simp;done)|(simp_all;done)|(simp_all;omega)|rfl))) RL.dropL))⟩,trivial⟩) ?_;refine aaS (aaI (abX (aV 63 3000) (aD 63 3000) rfl) (LR (s':=⟨133,[(4,.own 3000),(5,.str ([111,107]:aaA))],[(3000,aS (([]++(x1.take ((r7).toNat)))++(x1.drop (((r7+(1:Int))).toNat))))],[],0⟩))) ?_;obtain rfl:=aaD h;refine aaS (LR (s':=⟨133,[(4,.own 3000),(5,.str ([111,107]:aaA))],[(3000,aS (([]++(x1.take ((r7).toNat)))++(x1.drop (((r7+(1:Int))).toNat))))],[],0⟩)) ?_;refine aaH (kR (aR ?_));exact bK
     ·replace h:=aF hc5 h;refine aN [] [] [0,3,6,9,10,30,73] [3,12] trivial ?_;refine cK (x2==(5:Int)) (fun hc7=> ?_) fun hc7=> ?_
      ·replace h:=aE hc7 h;refine aaE (aN [] [] [0,3,6,9,10,76] [3,12] trivial ?_);refine cK (aAq r7) (fun hc8=> ?_) fun hc8=> ?_
       ·replace h:=aE hc8 h;refine bC [] [] ⟨133,(f85z7),(uY x1),[],0⟩ trivial ?_;refine aaS (aaI (abX (aV 12 3000) (aD 12 3000) rfl) (LR (s':=⟨133,(aCA),(iX x1),[],0⟩))) ?_;obtain rfl:=aaD h;refine aaS (LR (s':=⟨133,(aCA),(iX x1),[],0⟩)) ?_;refine aaH (tR (kR (aR ?_)));exact bK
       ·replace h:=aF hc8 h;refine aaG (tN (aaE ?_));obtain⟨ob12,h⟩:=aB h;refine aZ [] [] [0,3,6,9,10,85] [3,12] (an1 ob12) ?_;refine tN (cK (!(((x1.getD ((r7).toNat) aQ).2.1)==x4)) (fun hc9=> ?_) fun hc9=> ?_)
        ·replace h:=aE hc9 h;refine aaE ?_;obtain⟨ob13,ob14,h⟩:=ck2 h;refine bB [] [] ⟨133,[(4,.own 12),(5,.str (([110,111,32]:aaA)++((x1.getD ((r7).toNat) aQ).2.1)))],(uY x1),[],0⟩ (an2 ob13 ob14) ?_;refine tN (aaS (aaI (abX (aV 12 3000) (aD 12 3000) rfl) (LR (s':=⟨133,[(4,.own 3000),(5,.str (([110,111,32]:aaA)++((x1.getD ((r7).toNat) aQ).2.1)))],(iX x1),[],0⟩))) ?_);obtain rfl:=aaD h;refine aaS (LR (s':=⟨133,[(4,.own 3000),(5,.str (([110,111,32]:aaA)++((x1.getD ((r7).toNat) aQ).2.1)))],(iX x1),[],0⟩)) ?_;refine aaH (kR (aR ?_));exact bK
        ·replace h:=aF hc9 h;refine aaG (kN ?_);exact jN (x5) LR h
      ·replace h:=aF hc7 h;refine bC [] [] ⟨133,[(0,bA x1),(3,.ptr 3 0),(6,.own 12),(9,.i r7),(10,.str x5),(93,.bool (x2==(4:Int)))],(aCB x2 x3 x4 x5 x1),[],0⟩ trivial ?_;refine cK (x2==(4:Int)) (fun hc10=> ?_) fun hc10=> ?_
       ·replace h:=aE hc10 h;obtain⟨K2,hK2,h⟩:=aI h;refine aaR (α:=aaA) (fun(s11:aaA)=>⟨133,[(0,bA x1),(3,.ptr 3 0),(6,.own 12),(9,.i r7),(10,.str s11)],(aCB x2 x3 x4 x5 x1),[],0⟩) (fun x=>K2 x=some r) ?_ ?_
        ·refine aN [] [] [0,3,6,9,10,96] [3,12] trivial ?_;refine cK (decide (r7>=(0:Int))) (fun hc11=> ?_) fun hc11=> ?_
         ·replace h:=aE hc11 h;obtain⟨ob15,ob16,h⟩:=ck2 h;refine bB [] [] ⟨133,[(0,bA x1),(3,.ptr 3 0),(6,.own 12),(9,.i r7),(10,.str (((x1.getD ((r7).toNat) aQ).2.1)++x5))],(aCB x2 x3 x4 x5 x1),[],0⟩ (an2 ob15 ob16) ?_;exact jN ((((x1.getD ((r7).toNat) aQ).2.1)++x5)) LR h
         ·replace h:=aF hc11 h;refine aaG ?_;exact jN (x5) LR h
        ·rintro s11 h;replace h:=(congrFun hK2 _).symm.trans h;refine aN [] [] [0,3,6,9,10,107] [3,12] trivial ?_;refine cK (decide ((lZ s11)>(256:Int))) (fun hc12=> ?_) fun hc12=> ?_
         ·replace h:=aE hc12 h;refine bC [] [] ⟨133,[(4,.own 12),(5,.str (f85z10))],(uY x1),[],0⟩ trivial ?_;refine aaS (aaI (abX (aV 12 3000) (aD 12 3000) rfl) (LR (s':=⟨133,[(4,.own 3000),(5,.str (f85z10))],(iX x1),[],0⟩))) ?_;obtain rfl:=aaD h;refine aaS (LR (s':=⟨133,[(4,.own 3000),(5,.str (f85z10))],(iX x1),[],0⟩)) ?_;refine aaH (kR (aR ?_));exact bK
         ·replace h:=aF hc12 h;refine aaG (kN ?_);exact jN (s11) LR h
       ·replace h:=aF hc10 h;refine aaG (kN ?_);exact jN (x5) LR h
  ·rintro s10 h;replace h:=(congrFun hK1 _).symm.trans h;refine aaE (aaE (aZ [] [] [0,3,6,10,115] [3,12] (an3 (an1 (idA (((aAq r7)==true)=true))) (an1 (idA (((aAq r7)==true)=true))) (bqA (aAq r7) true)) ?_));refine tN (cK ((aAq r7)&&(decide ((lZ x1)>=(64:Int)))) (fun hc13=> ?_) fun hc13=> ?_)
   ·replace h:=aE hc13 h;refine bC [] [] ⟨133,[(4,.own 12),(5,.str (f85z11))],(uY x1),[],0⟩ trivial ?_;refine aaS (aaI (abX (aV 12 3000) (aD 12 3000) rfl) (LR (s':=⟨133,[(4,.own 3000),(5,.str (f85z11))],(iX x1),[],0⟩))) ?_;obtain rfl:=aaD h;refine aaS (LR (s':=⟨133,[(4,.own 3000),(5,.str (f85z11))],(iX x1),[],0⟩)) ?_;refine aaH (tR ?_);exact bK
   ·replace h:=aF hc13 h;refine aaG (tN (aaE ?_));obtain⟨r12,hr12,h⟩:=bind_ok h;refine aZ [] [(4,⟨[bA x1,.str x3,.str s10],[],[],(f85z8 r12),.own 6001,[6001],[],[]⟩)] [3,11] [3,6001] (an1 (cpT (aG.ren (aV 3000 6001) (aD 3000 6001) rfl (f118_ok _ _ _ _ hr12)))) ?_;refine tN (aaE ?_);obtain⟨r13,hr13,h⟩:=bind_ok h;obtain⟨r14,hr14,h⟩:=bind_ok h;obtain⟨ob20,ob21,ob22,h⟩:=ck3 h;refine bB [] [(5,⟨[bA r12,.str x3],[],[],[],.i r13,[],[6001],[]⟩),(9,⟨[.i (r12.getD ((r13).toNat) aQ).2.2],[],[],[],.str r14,[],[],[]⟩)] ⟨133,[(4,.own 6001),(5,.str (([111,107,32]:aaA)++r14))],(f85z8 r12),[],0⟩ (an5 (cpL (c:=true) (f85z8 r12) [6001] [.own 6001,.str x3] (fun _=>(f116_ok _ _ _ hr13)) (fun _=>⟨.refl _,.refl _,trivial⟩) (.inr ⟨rfl,trivial⟩)) ob20 ob21 (cpT (aAL aY _ _ hr14)) ob22) ?_;refine tN (aaS (aaI (abX (aV 6001 3000) (aD 6001 3000) rfl) (LR (s':=⟨133,[(4,.own 3000),(5,.str (([111,107,32]:aaA)++r14))],[(3000,aS r12)],[],0⟩))) ?_);obtain rfl:=aaD h;refine aaS (LR (s':=⟨133,[(4,.own 3000),(5,.str (([111,107,32]:aaA)++r14))],[(3000,aS r12)],[],0⟩)) ?_;refine aaH ?_;exact bK
def mN (x2:List Tq0) (x3:Int) (K2:Ty5->Option aCY):Nat->(Nat×Ty5)->Option aCY
 |0,_=>none
 |k+1,(n12,l13)=>
  if(decide ((n12:Int)<(((x2).length:Nat):Int)))then(
  jn (fun(l14:List Tq0)=>
  chk (((n12:Int)+(1:Int))<=9223372036854775807)<|
  (mN x2 x3 K2 k) ((n12+1),l14)
  ) fun(K3:Ty5->Option aCY)=>
  chk ((n12:Int)<(((x2).length:Nat):Int))<|
  if(decide ((x2.getD n12 (default:Tq0)).1<x3))then(
  chk ((n12:Int)<(((x2).length:Nat):Int))<|
  chk (((l13).length+1) *32<=140737488355328)<|
  K3 (l13++[((x2.getD n12 (default:Tq0)).1,(x2.getD n12 (default:Tq0)).2.1,(x2.getD n12 (default:Tq0)).2.2)])
  )else(
  K3 l13
  )
  )else(
  K2 l13
  )
def mM (x2:List Tq0) (x3:Int) (K4:Ty5->Option aCY):Nat->(Nat×Ty5)->Option aCY
 |0,_=>none
 |k+1,(n16,l17)=>
  if(decide ((n16:Int)<(((x2).length:Nat):Int)))then(
  jn (fun(l18:List Tq0)=>
  chk (((n16:Int)+(1:Int))<=9223372036854775807)<|
  (mM x2 x3 K4 k) ((n16+1),l18)
  ) fun(K5:Ty5->Option aCY)=>
  chk ((n16:Int)<(((x2).length:Nat):Int))<|
  if(decide ((x2.getD n16 (default:Tq0)).1>x3))then(
  chk ((n16:Int)<(((x2).length:Nat):Int))<|
  chk (((l17).length+1) *32<=140737488355328)<|
  K5 (l17++[((x2.getD n16 (default:Tq0)).1,(x2.getD n16 (default:Tq0)).2.1,(x2.getD n16 (default:Tq0)).2.2)])
  )else(
  K5 l17
  )
  )else(
  K4 l17
  )
abbrev fF (x1:List Tq1) (x2:List Tq0):List V:=[vL 3 cN (default:Tq1) x1,vL 3 cC (default:Tq0) x2]
abbrev mL (l11:List Tq1):List V:=[vL 3 cN (default:Tq1) l11,.own 6301]
abbrev gL (x3 x4:Int) (x5:aaA):List V:=[.i x3,.i x4,.str x5]
abbrev jM (x2:List Tq0) (n12:Nat):=(x2.getD n12 (default:Tq0))
abbrev f62z4 (s10:aaA) (n12:Nat):List (Nat×V):=[(2,.ptr 2 0),(3,.ptr 3 0),(4,.ptr 4 0),(8,.ptr 8 0),(9,.str s10),(12,.i (n12:Int))]
abbrev mK (x2:List Tq0) (n16:Nat):=(x2.getD n16 (default:Tq0))
abbrev f62z6 (s10:aaA) (n16:Nat):List (Nat×V):=[(2,.ptr 2 0),(3,.ptr 3 0),(4,.ptr 4 0),(8,.ptr 8 0),(9,.str s10),(13,.i (n16:Int))]
abbrev f62z7 (x1:List Tq1) (x2:List Tq0) (x3 x4:Int) (x5:aaA) (l11:List Tq1) (l13:List Tq0):aJ:=[(2,.cells 92 (fF x1 x2)),(3,.cells 88 (gL x3 x4 x5)),(4,.cells 92 [.nils,.nils]),(8,.cells 92 (mL l11)),(6301,bL 160 3 cC (default:Tq0) l13)]
abbrev f62z8 (l11:List Tq1):List V:=[vL 3 cN (default:Tq1) l11,.own 90]
abbrev f62z9 (s10:aaA) (n12:Nat):List (Nat×V):=[(2,.ptr 2 0),(3,.ptr 3 0),(4,.ptr 4 0),(8,.ptr 8 0),(9,.str s10),(12,.i (((n12+1):Nat):Int))]
abbrev f62z10 (s10:aaA):List (Nat×V):=[(2,.ptr 2 0),(3,.ptr 3 0),(4,.ptr 4 0),(8,.ptr 8 0),(9,.str s10),(12,.i (0:Int))]
abbrev f62z11 (x1:List Tq1) (x2:List Tq0) (x3 x4:Int) (x5:aaA) (l11:List Tq1) (l17:List Tq0):aJ:=[(2,.cells 92 (fF x1 x2)),(3,.cells 88 (gL x3 x4 x5)),(4,.cells 92 [.nils,.nils]),(8,.cells 92 (mL l11)),(6301,bL 160 3 cC (default:Tq0) l17)]
abbrev aBs (s10:aaA):List (Nat×V):=[(2,.ptr 2 0),(3,.ptr 3 0),(4,.ptr 4 0),(8,.ptr 8 0),(9,.str s10)]
abbrev f62z13 (s10:aaA) (n12:Nat) (x2:List Tq0) (x3:Int):List (Nat×V):=[(2,.ptr 2 0),(3,.ptr 3 0),(4,.ptr 4 0),(8,.ptr 8 0),(9,.str s10),(12,.i (n12:Int)),(81,.bool (decide ((jM x2 n12).1<x3)))]
abbrev lF :=Tq0
abbrev f62z16 (r9:aaA×Ty7):List (Nat×V):=[(2,.ptr 2 0),(3,.ptr 3 0),(4,.ptr 4 0),(8,.ptr 8 0),(9,.str r9.1)]
abbrev f62z17 (x1:List Tq1) (x2:List Tq0) (x3 x4:Int) (x5:aaA) (l11:List Tq1):aJ:=[(2,.cells 92 (fF x1 x2)),(3,.cells 88 (gL x3 x4 x5)),(4,.cells 92 [.nils,.nils]),(8,.cells 92 [vL 3 cN (default:Tq1) l11,.nils])]
abbrev f62z19 (r8:Tq9):List V:=[.i r8.1,.str r8.2.1,.str r8.2.2.1,.str r8.2.2.2.1]
abbrev f62z20 (x1:List Tq1) (x2:List Tq0) (x3 x4:Int) (x5:aaA) (l11:List Tq1) (l15:List Tq0) (s10:aaA):aJ:=[(2,.cells 92 (fF x1 x2)),(3,.cells 88 (gL x3 x4 x5)),(4,.cells 92 [.nils,.nils]),(8,.cells 92 (mL l11)),(6301,bL 160 3 cC (default:Tq0) (l15++[(x3,x4,s10)]))]
abbrev f62z21 (x1:List Tq1) (x2:List Tq0) (x3 x4:Int) (x5:aaA) (l11:List Tq1) (l18:List Tq0):aJ:=[(2,.cells 92 (fF x1 x2)),(3,.cells 88 (gL x3 x4 x5)),(4,.cells 92 [.nils,.nils]),(8,.cells 92 (mL l11)),(6301,bL 160 3 cC (default:Tq0) l18)]
def f62 (x1:List Tq1) (x2:List Tq0) (x3 x4:Int) (x5:aaA):Option aCY:=
 (f64 (1:Int) (0:Int) [(x3,x4,x5)]).bind fun r6=>
 if(r6 !=(0:Int))then(
 some (x1,x2,cs3)
 )else(
 (f83 x1 x2 x3).bind fun r7=>
 if(r7.2.2.2&&(decide (r7.2.1>x4)))then(
 some (x1,x2,cs4)
 )else(
 if(r7.2.2.2&&(r7.2.1==x4))then(
 some (x1,x2,r7.2.2.1)
 )else(
 (f84 x5).bind fun r8=>
 jn (fun((s10,l11):aaA×Ty7)=>
 jn (fun(l15:List Tq0)=>
 chk (((l15).length+1) *32<=140737488355328)<|
 jn (fun(l19:List Tq0)=>
 some (l11,l19,s10)
 ) fun(K4:Ty5->Option aCY)=>
 mM x2 x3 K4 aY (0,(l15++[(x3,x4,s10)]))
 ) fun(K2:Ty5->Option aCY)=>
 mN x2 x3 K2 aY (0,[])
 ) fun(K1:(aaA×Ty7)->Option aCY)=>
 if(r8.2.2.2.2==(0:Int))then(
 (f85 x1 r8.1 r8.2.1 r8.2.2.1 r8.2.2.2.1).bind fun r9=>
 K1 (r9.1,r9.2)
 )else(
 K1 (cs5,x1)
 )
 )
 )
 )
end Go.Abs
