/- Part 15 of the proof: Xta. -/
import Derived.Test.YtjgboohpholnbaaDoorTpagnZ14
import Derived.Test.YtjgboohpholnbaaDoorProg
namespace Go.Abs
open Go Go.Proofs
set_option maxRecDepth 100000
set_option maxHeartbeats 4000000
abbrev Ty0 :=Int×Int×Int×List Int×List Int
abbrev Ty1 :=Int×(List Tq0)×Int×Int×List (BitVec 16)×List (BitVec 16)×Int×BitVec 16×Nat
abbrev Ty2 :=(List Ty0)×Int×Int×List (BitVec 16)×BitVec 16
abbrev Ty3 :=Bool×Nat×Int×(List Tq0)×Int×Int×List (BitVec 16)×List (BitVec 16)×Int×BitVec 16×Nat
abbrev Ty4 :=List Ty0
abbrev Ty5 :=Bool×Nat×Ty4×Int×Int×List (BitVec 16)×BitVec 16
abbrev Ty6 :=Int×(List Tq0)×Int×Int×List (BitVec 16)×Int
abbrev Ty7 :=List Tq0
abbrev Ty8 :=List (Tq0×Int)
abbrev Ty9 :=BitVec 16×Int×Ty7×Int×Int×Int×List (BitVec 16)×List (BitVec 16)×Nat×Nat
abbrev eO :=Ty4×Int
abbrev eC :=List Int
abbrev Ty12 :=Nat×Int×Ty7×Int×Int×List (BitVec 16)×List (BitVec 16)×Int×BitVec 16×Nat
abbrev Ty13 :=Int×Int×Int×Bool×List Int
abbrev kS := @vZ
abbrev kR := @zU
abbrev tR := @thenQ_ret
abbrev tE := @yG
abbrev kN := @rD
abbrev bR := @bodyQ_ret
abbrev lN := @sI
abbrev jN := @sP
abbrev tN := @kT
theorem pT :Tryd.prog.follows .mixedOrders=true:=by kernel_rfl
def T0 :List Nat:=[0,1,28,2,29,14,24,3,30,22,20,15,25,17,4,8,31,27,13,23,21,19,16,7,26,12,18,6,11,5,10,9]
def T0F :Nat→Nat→V:=fun _ j=> .int .u8 ((T0.getD j 0:Nat):Int)
def eU8 (x:Int):List V:=[.int .u8 x]
instance :DecidableEq Ty13:= @instDecidableEqProd Int _ inferInstance (@instDecidableEqProd Int _ inferInstance (@instDecidableEqProd Int _ inferInstance (@instDecidableEqProd Bool _ inferInstance (inferInstance))))
def eT65 (x:Int×Int×Int×Bool×List Int):List V:=[.int .u8 x.1,.int .u8 x.2.1,.int .u8 x.2.2.1,.bool x.2.2.2.1,vL 1 eU8 0 x.2.2.2.2]
def eI (x:Int):List V:=[.int .i64 x]
instance :DecidableEq Ty0:= @instDecidableEqProd Int _ inferInstance (@instDecidableEqProd Int _ inferInstance (@instDecidableEqProd Int _ inferInstance (@instDecidableEqProd eC _ inferInstance (inferInstance))))
def bY (x:Int×Int×Int×List Int×List Int):List V:=[.int .i64 x.1,.int .i64 x.2.1,.int .i64 x.2.2.1,vL 1 eI 0 x.2.2.2.1,vL 1 eI 0 x.2.2.2.2]
instance :DecidableEq eO:= @instDecidableEqProd Ty4 _ inferInstance (inferInstance)
def bE (x:Ty4×Int):List V:=[vL 5 bY (default:Int×Int×Int×List Int×List Int) x.1,.int .i64 x.2]
def eW (x:BitVec 16):List V:=[.b16 x]
theorem eW_flat (x:BitVec 16) (j:Nat):((eW x).getD j .any).flat=true:=by
 match j with
 |0=>rfl
 |_+1=>rfl
def cs0 :List UInt8:=[0,1,1,2,1,2,2,3,1,2,2,3,2,3,3,4,1,2,2,3,2,3,3,4,2,3,3,4,3,4,4,5,1,2,2,3,2,3,3,4,2,3,3,4,3,4,4,5,2,3,3,4,3,4,4,5,3,4,4,5,4,5,5,6,1,2,2,3,2,3,3,4,2,3,3,4,3,4,4,5,2,3,3,4,3,4,4,5,3,4,4,5,4,5,5,6,2,3,3,4,3,4,4,5,3,4,4,5,4,5,5,6,3,4,4,5,4,5,5,6,4,5,5,6,5,6,6,7,1,2,2,3,2,3,3,4,2,3,3,4,3,4,4,5,2,3,3,4,3,4,4,5,3,4,4,5,4,5,5,6,2,3,3,4,3,4,4,5,3,4,4,5,4,5,5,6,3,4,4,5,4,5,5,6,4,5,5,6,5,6,6,7,2,3,3,4,3,4,4,5,3,4,4,5,4,5,5,6,3,4,4,5,4,5,5,6,4,5,5,6,5,6,6,7,3,4,4,5,4,5,5,6,4,5,5,6,5,6,6,7,4,5,5,6,5,6,6,7,5,6,6,7,6,7,7,8]
def cK (x:Tq0):List V:=[.int .i64 x.1,.int .i64 x.2.1,.int .i64 x.2.2]
def aS (x:Tq0):V:= .agg [.int .i64 x.1,.int .i64 x.2.1,.int .i64 x.2.2]
def cT (x:Int):V:= .int .i64 x
theorem kE117 :KeyE Tryd.prog 88 aS:=nN (default:Tq0) (fun _=>⟨_,rfl,rfl⟩) Tryd.underlying88 (fun a b=>(show eqV Tryd.prog 10000 88 (aS a) (aS b)=some ((a.1==b.1)&&((a.2.1==b.2.1)&&((a.2.2==b.2.2)&&true)))from by kernel_rfl).trans (congrArg some (by rw[Bool.eq_iff_iff];simp[Prod.ext_iff]))) (fun _=>rfl)
def eB (x:Bool):List V:=[.bool x]
def eS (x:Tq0):V:= .agg [.int .i64 x.1,.int .i64 x.2.1,.int .i64 x.2.2]
def m129 (x:Bool):V:= .bool x
theorem kE129 :KeyE Tryd.prog 88 eS:=nN (default:Tq0) (fun _=>⟨_,rfl,rfl⟩) Tryd.underlying88 (fun a b=>(show eqV Tryd.prog 10000 88 (eS a) (eS b)=some ((a.1==b.1)&&((a.2.1==b.2.1)&&((a.2.2==b.2.2)&&true)))from by kernel_rfl).trans (congrArg some (by rw[Bool.eq_iff_iff];simp[Prod.ext_iff]))) (fun _=>rfl)
instance :DecidableEq eC:=inferInstance
def eLIJ (x:List Int):List V:=[vL 1 eI 0 x]
def m84 (x:Int):V:= .int .i64 x
theorem kE84 :KeyE Tryd.prog 3 (V.int .i64):=yX Tryd.underlying3 (keyEq_int .i64) (fun _=>rfl) (fun _=>rfl)
abbrev fE (l:List (Int)):V:=vL 1 eU8 0 l
abbrev bJ (l:List Ty13):V:=vL 5 eT65 (default:Int×Int×Int×Bool×List Int) l
abbrev aH :Int×Int×Int×Bool×List Int:=default
abbrev aX (l:List (Int)):V:=vL 1 eI 0 l
abbrev dF (l:List (Int)):Blk:=bL 2 1 eI 0 l
abbrev aJ (l:List (Int)):Blk:=bL 3 1 eI 0 l
abbrev aO (l:List Ty0):V:=vL 5 bY (default:Int×Int×Int×List Int×List Int) l
abbrev aI (l:List Ty0):Blk:=bL 67 5 bY (default:Int×Int×Int×List Int×List Int) l
abbrev bB :Int×Int×Int×List Int×List Int:=default
abbrev q1dLT67JI :Ty4×Int:=default
abbrev aZ (l:List (BitVec 16)):V:=vL 1 eW 0#16 l
abbrev aA (l:List (BitVec 16)):Blk:=bL 49 1 eW 0#16 l
abbrev aQ (l:List Tq0):V:=vL 3 cK (default:Tq0) l
abbrev aN (l:List Tq0):Blk:=bL 88 3 cK (default:Tq0) l
abbrev aP :Int×Int×Int:=default
abbrev cV (l:List (Bool)):Blk:=bL 4 1 eB false l
abbrev bF (l:List eC):Blk:=bL 60 1 eLIJ [] l
abbrev bD (i:Int):BitVec 16:=BitVec.ofInt 16 i
theorem aM {Q:Exit→S→Prop} {id:Nat} {draw:Bool} {y:Code} (W:List Nat) (calls:List (Nat×CC)) {l:List Oper} {s:S} (s':S) {φ:Prop} (hφ:φ) (hQ:AWp Tryd.prog y Q s') (h:Abs.regC Tryd.prog W draw calls (s'.t.map (·.1)) (s'.h.map (·.1)) l s=some (s',φ):=by kernel_rfl):AWp Tryd.prog (.seq (.region id l.toArray draw) y) Q s:=AWp.sq W calls _ _ s' φ pT h hφ hQ
theorem aR {Q:Exit→S→Prop} {id:Nat} {draw:Bool} (W:List Nat) (calls:List (Nat×CC)) {l:List Oper} {s:S} (s':S) {φ:Prop} (hφ:φ) (hQ:Q .normal s') (h:Abs.regC Tryd.prog W draw calls (s'.t.map (·.1)) (s'.h.map (·.1)) l s=some (s',φ):=by kernel_rfl):AWp Tryd.prog (.region id l.toArray draw) Q s:=AWp.regC W calls _ _ s' φ pT h hφ hQ
def tL (x1 x2:Int) (K1:eC→Option eC):Nat→(Nat×List Int)→Option eC
 |0,_=>none
 |k+1,(n3,l4)=>
  if(decide ((n3:Int)<x2))then(
  chk (-9223372036854775808≤(x1+(n3:Int))∧(x1+(n3:Int))≤9223372036854775807)<|
  chk (((l4).length+1) *8≤140737488355328)<|
  chk (((n3:Int)+(1:Int))≤9223372036854775807)<|
  (tL x1 x2 K1 k) ((n3+1),(l4++[(x1+(n3:Int))]))
  )else(
  K1 l4
  )
abbrev f50z0 (x1 x2:Int) (n3:Nat):List (Nat×V):=[(0,.int .i64 x1),(5,.own 5005),(7,.int .i64 x2),(8,.int .i64 (n3:Int))]
def f50 (x1 x2:Int):Option eC:=
 jn (fun(l5:List Int)=>
 some l5
 ) fun(K1:eC→Option eC)=>
 tL x1 x2 K1 bG (0,[])
theorem f50_ok (x1 x2:Int) (r:List Int) (h:f50 x1 x2=some r):aF Tryd.prog 50 [] [] [] [.int .i64 x1,.int .i64 x2] (vL 1 eI 0 r) []:=by
 unfold f50 at h;refine aF.body 0 _ _ Tryd.func50 rfl Tryd.ntmps50 rfl rfl ?_;refine aM [] [] ⟨19,[(0,.i x1),(1,.i x2)],[],[],0⟩ trivial ?_;refine aM [] [] ⟨19,[(0,.i x1),(1,.i x2),(5,.nils)],[],[],0⟩ trivial ?_;obtain⟨K1,hK1,h⟩:=aU h;refine AWp.join (α:=List Int) (fun(l5:List Int)=>⟨19,[(5,.own 5005)],[(5005,aJ l5)],[],0⟩) (fun x=>K1 x=some r) ?_ ?_
 ·
  refine aM [] [] ⟨19,[(0,.i x1),(5,.nils),(7,.i x2),(8,.i (0:Int))],[],[],0⟩ trivial ?_;refine AWp.block ?_;refine AWp.loopL (α:=Nat×(Nat×List Int)) (fun x=>match x with|(_,n3,l4)=>⟨19,(f50z0 x1 x2 n3),[(5005,aJ l4)],[],0⟩) (fun x=>tL x1 x2 K1 x.1 x.2=some r) (fun x=>x.1) (bG,0,[]) (Le.trans (Le.trans (Le.nilOwn 5 5005 3 1 (cM eI 0 []) rfl rfl (Nat.le_of_ble_eq_true rfl)) (Le.mk (s':=⟨19,[(0,.i x1),(5,.own 5005),(7,.i x2),(8,.i (0:Int))],[(5005,aJ [])],[],0⟩) rfl rfl ⟨.refl _,.refl _,.refl _,.refl _,trivial⟩ ⟨⟨_,rfl,.refl _⟩,trivial⟩)) (Le.mk (s':=⟨19,[(0,.i x1),(5,.own 5005),(7,.i x2),(8,.i (0:Int))],[(5005,aJ [])],[],0⟩) rfl rfl ⟨.refl _,.refl _,.refl _,.refl _,trivial⟩ ⟨⟨_,rfl,.refl _⟩,trivial⟩)) h ?_
  rintro⟨k0,n3,l4⟩ h
  cases k0 with
  |zero=>exact nomatch (show(none:Option eC)=some r from h)
  |succ k0=>
  obtain⟨C0,hC0⟩:∃C,C=tL x1 x2 K1 k0:=⟨_,rfl⟩;replace h:=(tL.eq_2 ..).symm.trans h
  try rw[←hC0]at h
  refine aM [] [] ⟨19,[(0,.i x1),(5,.own 5005),(7,.i x2),(8,.i (n3:Int)),(9,.bool (decide ((n3:Int)<x2)))],[(5005,aJ l4)],[],0⟩ trivial ?_;refine AWp.seq ?_;refine AWp.cond (b:=(decide ((n3:Int)<x2))) (by kernel_rfl) (fun hc1=> ?_) (fun hc1=> ?_)
  ·
   replace h:=aK hc1 h;refine AWp.skip (tN (AWp.seq (AWp.block ?_)));refine aM [] [] ⟨19,[(0,.i x1),(5,.own 5005),(6,.i (n3:Int)),(7,.i x2),(8,.i (n3:Int))],[(5005,aJ l4)],[],0⟩ trivial ?_;obtain⟨ob0,ob1,h⟩:=ck2 h;refine aR [] [] ⟨19,(f50z0 x1 x2 n3),[(5005,.rows 3 1 ((l4).length+1) (kB (l4).length (cM eI 0 l4) (fZ 1 [.i (x1+(n3:Int))])))],[],0⟩ (an2 ob0 ob1) ?_;refine kN (tN ?_);refine AWp.le (Le.mk (s':=⟨19,(f50z0 x1 x2 n3),[(5005,aJ (l4++[(x1+(n3:Int))]))],[],0⟩) rfl rfl ⟨.refl _,.refl _,.refl _,.refl _,trivial⟩ ⟨⟨_,rfl,(BLe.of (RL.app (RL.self _) (RL.lst (enc:=eI) [(x1+(n3:Int))] rfl rfl (fun _=>rfl))))⟩,trivial⟩) ?_;obtain⟨ob2p,h⟩:=aB h;have ob2: -9223372036854775808≤((n3:Int)+(1:Int))∧((n3:Int)+(1:Int))≤9223372036854775807:=⟨by omega,ob2p⟩;refine aR [] [] ⟨19,[(0,.i x1),(5,.own 5005),(7,.i x2),(8,.i (((n3+1):Nat):Int))],[(5005,aJ (l4++[(x1+(n3:Int))]))],[],0⟩ (an1 ob2) ?_;rw[hC0]at h;exact lN (_,(n3+1),(l4++[(x1+(n3:Int))])) (Le.mk rfl rfl ⟨.refl _,.refl _,.refl _,.refl _,trivial⟩ ⟨⟨_,rfl,.refl _⟩,trivial⟩) h (Nat.lt_succ_self _)
  ·
   replace h:=aL hc1 h;refine AWp.exit (tE (tE (kS ?_)));exact jN (l4) (Le.mk rfl rfl ⟨.refl _,trivial⟩ ⟨⟨_,rfl,.refl _⟩,trivial⟩) h
 ·
  rintro l5 h;replace h:=(congrFun hK1 _).symm.trans h;refine aM [] [] ⟨19,[(4,.own 5005)],[(5005,aJ l5)],[],0⟩ trivial ?_;refine AWp.le (Le.trans (Le.freeze 5005 rfl rfl) (Le.mk (s':=⟨19,[(4,aX l5)],[],[],0⟩) rfl rfl ⟨.refl _,trivial⟩ trivial)) ?_;have hret:=Option.some.inj h;subst hret;refine AWp.le (Le.mk (s':=⟨19,[(4,aX l5)],[],[],0⟩) rfl rfl ⟨.refl _,trivial⟩ trivial) ?_;refine AWp.ret ?_;exact bR _ rfl ⟨rfl,rfl⟩ rfl
def f83 (x1:Int):Option eO:=
 some ([((1:Int),x1,(0:Int),[],[])],(0:Int))
theorem f83_ok (x1:Int) (r:Ty4×Int) (h:f83 x1=some r):aF Tryd.prog 83 [] [] [] [.int .i64 x1] (.agg [vL 5 bY (default:Int×Int×Int×List Int×List Int) r.1,.int .i64 r.2]) []:=by
 unfold f83 at h;refine aF.bodyD [2] 0 _ _ Tryd.func83 rfl Tryd.ntmps83 rfl rfl ?_;refine aM [] [] ⟨7,[(0,.i x1),(2,.ptr 2 0)],[(2,.cells 28 [.nils,.i (0:Int)])],[],0⟩ trivial ?_;refine aM [] [] ⟨7,[(2,.ptr 2 0)],[(2,.cells 28 [.own 5,.i (0:Int)]),(5,.rows 67 5 1 (fZ 5 [.i (1:Int),.i x1,.i (0:Int),.nils,.nils]))],[],0⟩ (an1 trivial) ?_;refine AWp.le (Le.mk (s':=⟨7,[(2,.ptr 2 0)],[(2,.cells 28 [.own 5,.i (0:Int)]),(5,aI [((1:Int),x1,(0:Int),[],[])])],[],0⟩) rfl rfl ⟨.refl _,trivial⟩ ⟨⟨_,rfl,.refl _⟩,⟨_,rfl,(BLe.of (RL.lstV (enc:=bY) [((1:Int),x1,(0:Int),[],[])] rfl ⟨.refl _,.refl _,.refl _,.nilL,.nilL,trivial⟩ (fun _=>rfl)))⟩,trivial⟩) ?_;refine AWp.le (Le.trans (Le.freeze 5 rfl rfl) (Le.mk (s':=⟨7,[(2,.ptr 2 0)],[(2,.cells 28 [aO [((1:Int),x1,(0:Int),[],[])],.i (0:Int)])],[],0⟩) rfl rfl ⟨.refl _,trivial⟩ ⟨⟨_,rfl,.refl _⟩,trivial⟩)) ?_;have hret:=Option.some.inj h;subst hret;refine AWp.le (Le.mk (s':=⟨7,[(2,.ptr 2 0)],[(2,.cells 28 [aO [((1:Int),x1,(0:Int),[],[])],.i (0:Int)])],[],0⟩) rfl rfl ⟨.refl _,trivial⟩ ⟨⟨_,rfl,.refl _⟩,trivial⟩) ?_;refine AWp.ret ?_;exact bR _ rfl ⟨rfl,rfl⟩ rfl
def tM (x1:List Int) (K1:(List eO)→Option (List eO)):Nat→(Nat×(List eO))→Option (List eO)
 |0,_=>none
 |k+1,(n2,l3)=>
  if(decide ((n2:Int)<(((x1).length:Nat):Int)))then(
  chk ((n2:Int)<(((x1).length:Nat):Int))<|
  (f83 (x1.getD n2 0)).bind fun(r4:Ty4×Int)=>
  chk (((l3).length+1) *32≤140737488355328)<|
  chk (((n2:Int)+(1:Int))≤9223372036854775807)<|
  (tM x1 K1 k) ((n2+1),(l3++[(r4.1,r4.2)]))
  )else(
  K1 l3
  )
abbrev iD :=Ty4
abbrev f49z1 (x1:List Int) (n2:Nat):List (Nat×V):=[(3,.own 5003),(6,vL 1 eI 0 x1),(7,.int .i64 (((x1).length:Nat):Int)),(8,.int .i64 (n2:Int))]
def f49 (x1:List Int):Option (List eO):=
 jn (fun(l5:List eO)=>
 some l5
 ) fun(K1:(List eO)→Option (List eO))=>
 tM x1 K1 bG (0,[])
theorem f49_ok (x1:List Int) (r:List eO) (h:f49 x1=some r):aF Tryd.prog 49 [] [] [] [vL 1 eI 0 x1] (vL 2 bE (default:Ty4×Int) r) []:=by
 unfold f49 at h;refine aF.body 0 _ _ Tryd.func49 rfl Tryd.ntmps49 rfl rfl ?_;refine aM [] [] ⟨19,[(0,aX x1)],[],[],0⟩ trivial ?_;refine aM [] [] ⟨19,[(0,aX x1),(3,.nils)],[],[],0⟩ trivial ?_;obtain⟨K1,hK1,h⟩:=aU h;refine AWp.join (α:=List ((iD)×Int)) (fun(l5:List ((iD)×Int))=>⟨19,[(3,.own 5003)],[(5003,bL 28 2 bE (default:(iD)×Int) l5)],[],0⟩) (fun x=>K1 x=some r) ?_ ?_
 ·
  refine aM [] [] ⟨19,[(3,.nils),(6,aX x1),(7,.i (lZ x1)),(8,.i (0:Int))],[],[],0⟩ trivial ?_;refine AWp.block ?_;refine AWp.loopL (α:=Nat×(Nat×(List ((iD)×Int)))) (fun x=>match x with|(_,n2,l3)=>⟨19,(f49z1 x1 n2),[(5003,bL 28 2 bE (default:(iD)×Int) l3)],[],0⟩) (fun x=>tM x1 K1 x.1 x.2=some r) (fun x=>x.1) (bG,0,[]) (Le.trans (Le.trans (Le.nilOwn 3 5003 28 2 (cM bE (default:(iD)×Int) []) rfl rfl (Nat.le_of_ble_eq_true rfl)) (Le.mk (s':=⟨19,[(3,.own 5003),(6,aX x1),(7,.i (lZ x1)),(8,.i (0:Int))],[(5003,bL 28 2 bE (default:(iD)×Int) [])],[],0⟩) rfl rfl ⟨.refl _,.refl _,.refl _,.refl _,trivial⟩ ⟨⟨_,rfl,.refl _⟩,trivial⟩)) (Le.mk (s':=⟨19,[(3,.own 5003),(6,aX x1),(7,.i (lZ x1)),(8,.i (0:Int))],[(5003,bL 28 2 bE (default:(iD)×Int) [])],[],0⟩) rfl rfl ⟨.refl _,.refl _,.refl _,.refl _,trivial⟩ ⟨⟨_,rfl,.refl _⟩,trivial⟩)) h ?_
  rintro⟨k0,n2,l3⟩ h
  cases k0 with
  |zero=>exact nomatch (show(none:Option (List eO))=some r from h)
  |succ k0=>
  obtain⟨C0,hC0⟩:∃C,C=tM x1 K1 k0:=⟨_,rfl⟩;replace h:=(tM.eq_2 ..).symm.trans h
  try rw[←hC0]at h
  refine aM [] [] ⟨19,[(3,.own 5003),(6,aX x1),(7,.i (lZ x1)),(8,.i (n2:Int)),(9,.bool (decide ((n2:Int)<(lZ x1))))],[(5003,bL 28 2 bE (default:(iD)×Int) l3)],[],0⟩ trivial ?_;refine AWp.seq ?_;refine AWp.cond (b:=(decide ((n2:Int)<(lZ x1)))) (by kernel_rfl) (fun hc1=> ?_) (fun hc1=> ?_)
  ·
   replace h:=aK hc1 h;refine AWp.skip (tN (AWp.seq (AWp.block (AWp.seq ?_))));obtain⟨ob0p,h⟩:=aB h;have ob0:0≤(n2:Int)∧(n2:Int)<(((x1).length:Nat):Int):=⟨by omega,ob0p⟩;refine aR [] [] ⟨19,[(3,.own 5003),(5,.i (x1.getD n2 0)),(6,aX x1),(7,.i (lZ x1)),(8,.i (n2:Int))],[(5003,bL 28 2 bE (default:(iD)×Int) l3)],[],0⟩ (an1 ob0) ?_;refine tN ?_;obtain⟨r4,hr4,h⟩:=bind_ok h;obtain⟨ob1,h⟩:=aB h;refine aR [] [(2,⟨[.i (x1.getD n2 0)],[],[],[],.agg [aO r4.1,.i r4.2],[],[],[]⟩)] ⟨19,(f49z1 x1 n2),[(5003,.rows 28 2 ((l3).length+1) (kB (l3).length (cM bE (default:(iD)×Int) l3) (fZ 2 [aO r4.1,.i r4.2])))],[],0⟩ (an2 (cpT (f83_ok _ _ hr4)) ob1) ?_;refine kN (tN ?_);refine AWp.le (Le.mk (s':=⟨19,(f49z1 x1 n2),[(5003,bL 28 2 bE (default:(iD)×Int) (l3++[(r4.1,r4.2)]))],[],0⟩) rfl rfl ⟨.refl _,.refl _,.refl _,.refl _,trivial⟩ ⟨⟨_,rfl,(BLe.of (RL.app (RL.self _) (RL.lstV (enc:=bE) [(r4.1,r4.2)] rfl ⟨.refl _,.refl _,trivial⟩ (fun _=>rfl))))⟩,trivial⟩) ?_;obtain⟨ob2p,h⟩:=aB h;have ob2: -9223372036854775808≤((n2:Int)+(1:Int))∧((n2:Int)+(1:Int))≤9223372036854775807:=⟨by omega,ob2p⟩;refine aR [] [] ⟨19,[(3,.own 5003),(6,aX x1),(7,.i (lZ x1)),(8,.i (((n2+1):Nat):Int))],[(5003,bL 28 2 bE (default:(iD)×Int) (l3++[(r4.1,r4.2)]))],[],0⟩ (an1 ob2) ?_;rw[hC0]at h;exact lN (_,(n2+1),(l3++[(r4.1,r4.2)])) (Le.mk rfl rfl ⟨.refl _,.refl _,.refl _,.refl _,trivial⟩ ⟨⟨_,rfl,.refl _⟩,trivial⟩) h (Nat.lt_succ_self _)
  ·
   replace h:=aL hc1 h;refine AWp.exit (tE (tE (kS ?_)));exact jN (l3) (Le.mk rfl rfl ⟨.refl _,trivial⟩ ⟨⟨_,rfl,.refl _⟩,trivial⟩) h
 ·
  rintro l5 h;replace h:=(congrFun hK1 _).symm.trans h;refine aM [] [] ⟨19,[(2,.own 5003)],[(5003,bL 28 2 bE (default:(iD)×Int) l5)],[],0⟩ trivial ?_;refine AWp.le (Le.trans (Le.freeze 5003 rfl rfl) (Le.mk (s':=⟨19,[(2,vL 2 bE (default:(iD)×Int) l5)],[],[],0⟩) rfl rfl ⟨.refl _,trivial⟩ trivial)) ?_;have hret:=Option.some.inj h;subst hret;refine AWp.le (Le.mk (s':=⟨19,[(2,vL 2 bE (default:(iD)×Int) l5)],[],[],0⟩) rfl rfl ⟨.refl _,trivial⟩ trivial) ?_;refine AWp.ret ?_;exact bR _ rfl ⟨rfl,rfl⟩ rfl
def f35 (x1:List Int):Option eC:=
 abc ((x1).length=0) (
 some []
 ) (
 chk ((0+(x1).length) *8≤140737488355328)<|
 some ([]++x1)
 )
theorem tW (x1 r:List Int) (h:f35 x1=some r):aF Tryd.prog 35 [] [] [] [vL 1 eI 0 x1] (.own 3000) [(3000,bL 3 1 eI 0 r)]:=by
 unfold f35 at h;refine aF.body 0 _ _ Tryd.func35 rfl Tryd.ntmps35 rfl rfl ?_;refine aM [] [] ⟨8,[(0,aX x1)],[],[],0⟩ trivial ?_;refine AWp.seq ?_;refine aM [] [] ⟨8,[(0,aX x1),(4,.abool (fun b=>b=true→(x1).length=0))],[],[],0⟩ trivial ?_;obtain⟨hA1,hB1⟩:=abc_some h;refine AWp.condAb (fun b=>b=true→(x1).length=0) (by kernel_rfl) (fun hc1=> ?_) (fun hc1=> ?_)
 ·
  have h:=hA1 (hc1 rfl);refine aM [] [] ⟨8,[(2,.nils)],[],[],0⟩ trivial ?_;refine AWp.le (Le.trans (Le.nilOwn 2 3000 3 1 (cM eI 0 []) rfl rfl (Nat.le_of_ble_eq_true rfl)) (Le.mk (s':=⟨8,[(2,.own 3000)],[(3000,aJ [])],[],0⟩) rfl rfl ⟨.refl _,trivial⟩ ⟨⟨_,rfl,.refl _⟩,trivial⟩)) ?_;have hret:=Option.some.inj h;subst hret;refine AWp.le (Le.mk (s':=⟨8,[(2,.own 3000)],[(3000,aJ [])],[],0⟩) rfl rfl ⟨.refl _,trivial⟩ ⟨⟨_,rfl,.refl _⟩,trivial⟩) ?_;refine AWp.ret (tR ?_);exact bR _ rfl ⟨rfl,rfl⟩ rfl
 ·
  have h:=hB1;refine AWp.skip (tN (AWp.seq ?_));obtain⟨ob0,h⟩:=aB h;refine aR [] [] ⟨8,[(2,.own 5)],[(5,.rows 3 1 (0+(x1).length) (kB 0 (fZ 1 []) (cM eI 0 x1)))],[],0⟩ (an1 ob0) ?_;refine tN ?_;refine AWp.le (Le.mk (s':=⟨8,[(2,.own 5)],[(5,aJ ([]++x1))],[],0⟩) rfl rfl ⟨.refl _,trivial⟩ ⟨⟨_,rfl,(BLe.of (RL.app (RL.lst (enc:=eI) [] rfl rfl (fun _=>rfl)) (RL.self _)))⟩,trivial⟩) ?_;refine AWp.le (Le.trans (Le.ren (aW 5 3000) (aE 5 3000) rfl) (Le.mk (s':=⟨8,[(2,.own 3000)],[(3000,aJ ([]++x1))],[],0⟩) rfl rfl ⟨.refl _,trivial⟩ ⟨⟨_,rfl,.refl _⟩,trivial⟩)) ?_;have hret:=Option.some.inj h;subst hret;refine AWp.le (Le.mk (s':=⟨8,[(2,.own 3000)],[(3000,aJ ([]++x1))],[],0⟩) rfl rfl ⟨.refl _,trivial⟩ ⟨⟨_,rfl,.refl _⟩,trivial⟩) ?_;refine AWp.ret ?_;exact bR _ rfl ⟨rfl,rfl⟩ rfl
def tO (l6:List Ty0) (r11:List Int) (K3:eC→Option eO):Nat→(Nat×List Int)→Option eO
 |0,_=>none
 |k+1,(n12,l13)=>
  if(decide ((n12:Int)<(((r11).length:Nat):Int)))then(
  chk ((n12:Int)<(((l13).length:Nat):Int))<|
  chk (n12<(l13).length)<|
  chk (-9223372036854775808≤((l13.getD n12 0)+(((l6).length:Nat):Int))∧((l13.getD n12 0)+(((l6).length:Nat):Int))≤9223372036854775807)<|
  chk ((n12:Int)<(((l13).length:Nat):Int))<|
  chk (n12<(l13).length)<|
  chk (((n12:Int)+(1:Int))≤9223372036854775807)<|
  (tO l6 r11 K3 k) ((n12+1),(l13.set n12 ((l13.getD n12 0)+(((l6).length:Nat):Int))))
  )else(
  K3 l13
  )
def tP (x2:List eO) (n5:Nat) (l6:List Ty0) (K2:Ty4→Option eO):Nat→(Nat×Ty4)→Option eO
 |0,_=>none
 |k+1,(n8,l9)=>
  if(decide ((n8:Int)<((((x2.getD n5 (default:Ty4×Int)).1).length:Nat):Int)))then(
  chk ((n8:Int)<((((x2.getD n5 (default:Ty4×Int)).1).length:Nat):Int))<|
  (f35 ((((x2.getD n5 (default:Ty4×Int)).1).getD n8 (default:Int×Int×Int×List Int×List Int)).2.2.2.1)).bind fun(r10:List Int)=>
  (f35 ((((x2.getD n5 (default:Ty4×Int)).1).getD n8 (default:Int×Int×Int×List Int×List Int)).2.2.2.2)).bind fun(r11:List Int)=>
  jn (fun(l14:List Int)=>
  chk (((l9).length+1) *72≤140737488355328)<|
  chk (((n8:Int)+(1:Int))≤9223372036854775807)<|
  (tP x2 n5 l6 K2 k) ((n8+1),(l9++[((((x2.getD n5 (default:Ty4×Int)).1).getD n8 (default:Int×Int×Int×List Int×List Int)).1,(((x2.getD n5 (default:Ty4×Int)).1).getD n8 (default:Int×Int×Int×List Int×List Int)).2.1,(((x2.getD n5 (default:Ty4×Int)).1).getD n8 (default:Int×Int×Int×List Int×List Int)).2.2.1,r10,l14)]))
  ) fun(K3:eC→Option eO)=>
  tO l6 r11 K3 bG (0,r11)
  )else(
  K2 l9
  )
def tQ (x2:List eO) (K1:(Ty4×List Int)→Option eO):Nat→(Nat×Ty4×List Int)→Option eO
 |0,_=>none
 |k+1,(n5,l6,l7)=>
  if(decide ((n5:Int)<(((x2).length:Nat):Int)))then(
  chk ((n5:Int)<(((x2).length:Nat):Int))<|
  jn (fun(l15:List Ty0)=>
  chk (-9223372036854775808≤((((l6).length:Nat):Int)+(x2.getD n5 (default:Ty4×Int)).2)∧((((l6).length:Nat):Int)+(x2.getD n5 (default:Ty4×Int)).2)≤9223372036854775807)<|
  chk (((l7).length+1) *8≤140737488355328)<|
  chk (((n5:Int)+(1:Int))≤9223372036854775807)<|
  (tQ x2 K1 k) ((n5+1),l15,(l7++[((((l6).length:Nat):Int)+(x2.getD n5 (default:Ty4×Int)).2)]))
  ) fun(K2:Ty4→Option eO)=>
  tP x2 n5 l6 K2 bG (0,l6)
  )else(
  K1 (l6,l7)
  )
abbrev cW (x2:List eO) (n5:Nat):=(x2.getD n5 (default:Ty4×Int))
abbrev cZ (x2:List eO) (n5 n8:Nat):=(((cW x2 n5).1).getD n8 (default:Int×Int×Int×List Int×List Int))
abbrev zL (l6:List Ty0) (x2:List eO) (n5 n8:Nat):List (Nat×V):=[(6,.ptr 6 0),(7,.ptr 7 0),(8,.ptr 8 0),(10,.ptr 10 0),(11,.int .i64 (((l6).length:Nat):Int)),(13,.ptr 13 0),(19,vL 2 bE (default:Ty4×Int) x2),(20,.int .i64 (((x2).length:Nat):Int)),(21,.int .i64 (n5:Int)),(29,vL 5 bY (default:Int×Int×Int×List Int×List Int) (cW x2 n5).1),(30,.int .i64 ((((cW x2 n5).1).length:Nat):Int)),(31,.int .i64 (n8:Int))]
abbrev fB (x1:Int):List V:=[.int .i64 (2:Int),.int .i64 (0:Int),.int .i64 x1,.own 6001,.own 6304]
abbrev jQ (x2:List eO) (n5:Nat):List V:=[vL 5 bY (default:Int×Int×Int×List Int×List Int) (cW x2 n5).1,.int .i64 (cW x2 n5).2]
abbrev eA :=Ty4
abbrev f48z6 (x2:List eO) (n5 n8:Nat):List V:=[.int .i64 (cZ x2 n5 n8).1,.int .i64 (cZ x2 n5 n8).2.1,.int .i64 (cZ x2 n5 n8).2.2.1,.own 6002,.own 6003]
abbrev fA :List V:=[.own 6200,.int .i64 (0:Int)]
abbrev f48z8 (l6:List Ty0) (x2:List eO) (n5 n8:Nat) (r11:List Int) (n12:Nat):List (Nat×V):=[(6,.ptr 6 0),(7,.ptr 7 0),(8,.ptr 8 0),(10,.ptr 10 0),(11,.int .i64 (((l6).length:Nat):Int)),(13,.ptr 13 0),(19,vL 2 bE (default:(eA)×Int) x2),(20,.int .i64 (((x2).length:Nat):Int)),(21,.int .i64 (n5:Int)),(29,vL 5 bY (default:Int×Int×Int×List Int×List Int) (cW x2 n5).1),(30,.int .i64 ((((cW x2 n5).1).length:Nat):Int)),(31,.int .i64 (n8:Int)),(45,.int .i64 (((r11).length:Nat):Int)),(46,.int .i64 (n12:Int))]
abbrev f48z9 (x2:List eO):List (Nat×V):=[(6,.ptr 6 0),(7,.ptr 7 0),(8,.ptr 8 0),(19,vL 2 bE (default:(eA)×Int) x2),(20,.int .i64 (((x2).length:Nat):Int)),(21,.int .i64 (0:Int))]
abbrev f48z10 (x1:Int) (x2:List eO) (n5 n8:Nat) (r4 r10 l13:List Int) (l9:List Ty0) (l7:List Int):aG:=[(6,.cells 28 [.nils,.int .i64 (0:Int)]),(7,.cells 28 (fA)),(8,.cells 67 (fB x1)),(10,.cells 28 (jQ x2 n5)),(13,.cells 67 (f48z6 x2 n5 n8)),(6001,bL 3 1 eI 0 r4),(6002,bL 3 1 eI 0 r10),(6003,bL 3 1 eI 0 l13),(6200,bL 67 5 bY (default:Int×Int×Int×List Int×List Int) l9),(6304,bL 3 1 eI 0 l7)]
abbrev f48z11 (l6:List Ty0) (x2:List eO) (n5 n8:Nat):List (Nat×V):=[(6,.ptr 6 0),(7,.ptr 7 0),(8,.ptr 8 0),(10,.ptr 10 0),(11,.int .i64 (((l6).length:Nat):Int)),(19,vL 2 bE (default:(eA)×Int) x2),(20,.int .i64 (((x2).length:Nat):Int)),(21,.int .i64 (n5:Int)),(29,vL 5 bY (default:Int×Int×Int×List Int×List Int) (cW x2 n5).1),(30,.int .i64 ((((cW x2 n5).1).length:Nat):Int)),(31,.int .i64 (n8:Int))]
abbrev xQ (x1:Int) (x2:List eO) (n5:Nat) (r4:List Int) (l6:List Ty0) (l7:List Int):aG:=[(6,.cells 28 [.nils,.int .i64 (0:Int)]),(7,.cells 28 (fA)),(8,.cells 67 (fB x1)),(10,.cells 28 (jQ x2 n5)),(6001,bL 3 1 eI 0 r4),(6200,bL 67 5 bY (default:Int×Int×Int×List Int×List Int) l6),(6304,bL 3 1 eI 0 l7)]
abbrev f48z13 (x1:Int) (x2:List eO) (n5 n8:Nat) (r4 r10 l13:List Int) (n12:Nat) (l6 l9:List Ty0) (l7:List Int):aG:=[(6,.cells 28 [.nils,.int .i64 (0:Int)]),(7,.cells 28 (fA)),(8,.cells 67 (fB x1)),(10,.cells 28 (jQ x2 n5)),(13,.cells 67 (f48z6 x2 n5 n8)),(6001,bL 3 1 eI 0 r4),(6002,bL 3 1 eI 0 r10),(6003,bL 3 1 eI 0 (l13.set n12 ((l13.getD n12 0)+(((l6).length:Nat):Int)))),(6200,bL 67 5 bY (default:Int×Int×Int×List Int×List Int) l9),(6304,bL 3 1 eI 0 l7)]
abbrev f48z14 (x1:Int) (r4:List Int):aG:=[(6,.cells 28 [.nils,.int .i64 (0:Int)]),(7,.cells 28 [.nils,.int .i64 (0:Int)]),(8,.cells 67 [.int .i64 (2:Int),.int .i64 (0:Int),.int .i64 x1,.own 6001,.nils]),(6001,bL 3 1 eI 0 r4)]
abbrev f48z15 (x1:Int) (x2:List eO) (n5 n8:Nat) (r4 r10 r11:List Int) (l9:List Ty0) (l7:List Int):aG:=[(6,.cells 28 [.nils,.int .i64 (0:Int)]),(7,.cells 28 (fA)),(8,.cells 67 (fB x1)),(10,.cells 28 (jQ x2 n5)),(13,.cells 67 (f48z6 x2 n5 n8)),(6001,bL 3 1 eI 0 r4),(6002,bL 3 1 eI 0 r10),(6003,bL 3 1 eI 0 r11),(6200,bL 67 5 bY (default:Int×Int×Int×List Int×List Int) l9),(6304,bL 3 1 eI 0 l7)]
abbrev f48z16 (x1:Int) (x2:List eO) (n5:Nat) (r4:List Int) (l9:List Ty0) (n8:Nat) (r10 l14 l7:List Int):aG:=[(6,.cells 28 [.nils,.int .i64 (0:Int)]),(7,.cells 28 (fA)),(8,.cells 67 (fB x1)),(10,.cells 28 (jQ x2 n5)),(6001,bL 3 1 eI 0 r4),(6200,bL 67 5 bY (default:Int×Int×Int×List Int×List Int) (l9++[((cZ x2 n5 n8).1,(cZ x2 n5 n8).2.1,(cZ x2 n5 n8).2.2.1,r10,l14)])),(6304,bL 3 1 eI 0 l7)]
abbrev f48z17 (l6:List Ty0) (x2:List eO) (n5:Nat):List (Nat×V):=[(6,.ptr 6 0),(7,.ptr 7 0),(8,.ptr 8 0),(10,.ptr 10 0),(11,.int .i64 (((l6).length:Nat):Int)),(19,vL 2 bE (default:(eA)×Int) x2),(20,.int .i64 (((x2).length:Nat):Int)),(21,.int .i64 (n5:Int))]
abbrev f48z18 (x1:Int) (r4:List Int) (l6:List Ty0) (l7:List Int):aG:=[(6,.cells 28 [.nils,.int .i64 (0:Int)]),(7,.cells 28 (fA)),(8,.cells 67 (fB x1)),(6001,bL 3 1 eI 0 r4),(6200,bL 67 5 bY (default:Int×Int×Int×List Int×List Int) l6),(6304,bL 3 1 eI 0 l7)]
abbrev f48z19 (x1:Int) (x2:List eO) (n5:Nat) (r4:List Int) (l9:List Ty0) (l7:List Int):aG:=[(6,.cells 28 [.nils,.int .i64 (0:Int)]),(7,.cells 28 (fA)),(8,.cells 67 (fB x1)),(10,.cells 28 (jQ x2 n5)),(6001,bL 3 1 eI 0 r4),(6200,bL 67 5 bY (default:Int×Int×Int×List Int×List Int) l9),(6304,bL 3 1 eI 0 l7)]
abbrev pP (l16:List Ty0):List V:=[.own 6200,.int .i64 (((l16).length:Nat):Int)]
abbrev f48z21 (x1:Int) (r4:List Int) (l15:List Ty0) (l7:List Int) (l6:List Ty0) (x2:List eO) (n5:Nat):aG:=[(6,.cells 28 [.nils,.int .i64 (0:Int)]),(7,.cells 28 (fA)),(8,.cells 67 (fB x1)),(6001,bL 3 1 eI 0 r4),(6200,bL 67 5 bY (default:Int×Int×Int×List Int×List Int) l15),(6304,bL 3 1 eI 0 (l7++[((((l6).length:Nat):Int)+(cW x2 n5).2)]))]
abbrev f48z22 (x2:List eO) (n5:Nat):List (Nat×V):=[(6,.ptr 6 0),(7,.ptr 7 0),(8,.ptr 8 0),(19,vL 2 bE (default:(eA)×Int) x2),(20,.int .i64 (((x2).length:Nat):Int)),(21,.int .i64 (n5:Int))]
abbrev xP :List (Nat×V):=[(6,.ptr 6 0),(7,.ptr 7 0),(8,.ptr 8 0)]
def f48 (x1:Int) (x2:List eO) (x3:List Int):Option eO:=
 (f35 x3).bind fun(r4:List Int)=>
 jn (fun((l16,l17):Ty4×List Int)=>
 chk (((l16).length+1) *72≤140737488355328)<|
 some ((l16++[((2:Int),(0:Int),x1,r4,l17)]),(((l16).length:Nat):Int))
 ) fun(K1:(Ty4×List Int)→Option eO)=>
 tQ x2 K1 bG (0,[],[])
theorem f48_ok (x1:Int) (x2:List eO) (x3:List Int) (r:Ty4×Int) (h:f48 x1 x2 x3=some r):aF Tryd.prog 48 [] [] [] [.int .i64 x1,vL 2 bE (default:Ty4×Int) x2,vL 1 eI 0 x3] (.agg [vL 5 bY (default:Int×Int×Int×List Int×List Int) r.1,.int .i64 r.2]) []:=by
 unfold f48 at h;refine aF.bodyD [6] 0 _ _ Tryd.func48 rfl Tryd.ntmps48 rfl rfl ?_;refine aM [] [] ⟨86,[(0,.i x1),(1,vL 2 bE (default:(eA)×Int) x2),(2,aX x3),(6,.ptr 6 0)],[(6,.cells 28 [.nils,.i (0:Int)])],[],0⟩ trivial ?_;refine aM [] [] ⟨86,[(0,.i x1),(1,vL 2 bE (default:(eA)×Int) x2),(2,aX x3),(6,.ptr 6 0),(7,.ptr 7 0)],[(6,.cells 28 [.nils,.i (0:Int)]),(7,.cells 28 [.nils,.i (0:Int)])],[],0⟩ trivial ?_;refine AWp.seq ?_;obtain⟨r4,hr4,h⟩:=bind_ok h;refine aR [] [(2,⟨[aX x3],[],[],[(6001,aJ r4)],.own 6001,[6001],[],[]⟩)] ⟨86,[(1,vL 2 bE (default:(eA)×Int) x2),(6,.ptr 6 0),(7,.ptr 7 0),(8,.ptr 8 0)],(f48z14 x1 r4),[],0⟩ (an2 (cpT (aF.ren (aW 3000 6001) (aE 3000 6001) rfl (tW _ _ hr4))) trivial) ?_;refine tN ?_;obtain⟨K1,hK1,h⟩:=aU h;refine AWp.join (α:=(eA)×List Int) (fun(x:(eA)×List Int)=>match x with|(l16,l17)=>⟨86,(xP),[(6,.cells 28 [.nils,.i (0:Int)]),(7,.cells 28 (fA)),(8,.cells 67 (fB x1)),(6001,aJ r4),(6200,aI l16),(6304,aJ l17)],[],0⟩) (fun x=>K1 x=some r) ?_ ?_
 ·
  refine aM [] [] ⟨86,(f48z9 x2),(f48z14 x1 r4),[],0⟩ trivial ?_;refine AWp.block ?_;refine AWp.loopL (α:=Nat×(Nat×(eA)×List Int)) (fun x=>match x with|(_,n5,l6,l7)=>⟨86,(f48z22 x2 n5),(f48z18 x1 r4 l6 l7),[],0⟩) (fun x=>tQ x2 K1 x.1 x.2=some r) (fun x=>x.1) (bG,0,[],[]) (Le.trans (Le.trans (Le.nilOwnC 7 0 6200 67 5 (cM bY bB []) rfl rfl rfl) (Le.mk (s':=⟨86,(f48z9 x2),[(6,.cells 28 [.nils,.i (0:Int)]),(7,.cells 28 (fA)),(8,.cells 67 [.i (2:Int),.i (0:Int),.i x1,.own 6001,.nils]),(6001,aJ r4),(6200,aI [])],[],0⟩) rfl rfl ⟨.refl _,.refl _,.refl _,.refl _,.refl _,.refl _,trivial⟩ ⟨⟨_,rfl,.refl _⟩,⟨_,rfl,.refl _⟩,⟨_,rfl,.refl _⟩,⟨_,rfl,.refl _⟩,⟨_,rfl,.refl _⟩,trivial⟩)) (Le.trans (Le.trans (Le.nilOwnC 8 4 6304 3 1 (cM eI 0 []) rfl rfl rfl) (Le.mk (s':=⟨86,(f48z9 x2),[(6,.cells 28 [.nils,.i (0:Int)]),(7,.cells 28 (fA)),(8,.cells 67 (fB x1)),(6001,aJ r4),(6200,aI []),(6304,aJ [])],[],0⟩) rfl rfl ⟨.refl _,.refl _,.refl _,.refl _,.refl _,.refl _,trivial⟩ ⟨⟨_,rfl,.refl _⟩,⟨_,rfl,.refl _⟩,⟨_,rfl,.refl _⟩,⟨_,rfl,.refl _⟩,⟨_,rfl,.refl _⟩,⟨_,rfl,.refl _⟩,trivial⟩)) (Le.mk (s':=⟨86,(f48z9 x2),[(6,.cells 28 [.nils,.i (0:Int)]),(7,.cells 28 (fA)),(8,.cells 67 (fB x1)),(6001,aJ r4),(6200,aI []),(6304,aJ [])],[],0⟩) rfl rfl ⟨.refl _,.refl _,.refl _,.refl _,.refl _,.refl _,trivial⟩ ⟨⟨_,rfl,.refl _⟩,⟨_,rfl,.refl _⟩,⟨_,rfl,.refl _⟩,⟨_,rfl,.refl _⟩,⟨_,rfl,.refl _⟩,⟨_,rfl,.refl _⟩,trivial⟩))) h ?_
  rintro⟨k0,n5,l6,l7⟩ h
  cases k0 with
  |zero=>exact nomatch (show(none:Option eO)=some r from h)
  |succ k0=>
  obtain⟨C0,hC0⟩:∃C,C=tQ x2 K1 k0:=⟨_,rfl⟩;replace h:=(tQ.eq_2 ..).symm.trans h
  try rw[←hC0]at h
  refine aM [] [] ⟨86,[(6,.ptr 6 0),(7,.ptr 7 0),(8,.ptr 8 0),(19,vL 2 bE (default:(eA)×Int) x2),(20,.i (lZ x2)),(21,.i (n5:Int)),(22,.bool (decide ((n5:Int)<(lZ x2))))],(f48z18 x1 r4 l6 l7),[],0⟩ trivial ?_;refine AWp.seq ?_;refine AWp.cond (b:=(decide ((n5:Int)<(lZ x2)))) (by kernel_rfl) (fun hc1=> ?_) (fun hc1=> ?_)
  ·
   replace h:=aK hc1 h;refine AWp.skip (tN (AWp.seq (AWp.block (AWp.seq ?_))));obtain⟨ob0p,h⟩:=aB h;have ob0:0≤(n5:Int)∧(n5:Int)<(((x2).length:Nat):Int):=⟨by omega,ob0p⟩;refine aR [] [] ⟨86,[(6,.ptr 6 0),(7,.ptr 7 0),(8,.ptr 8 0),(10,.ptr 10 0),(19,vL 2 bE (default:(eA)×Int) x2),(20,.i (lZ x2)),(21,.i (n5:Int))],(xQ x1 x2 n5 r4 l6 l7),[],0⟩ (an2 ob0 trivial) ?_;refine tN ?_;refine aM [] [] ⟨86,(f48z17 l6 x2 n5),(xQ x1 x2 n5 r4 l6 l7),[],0⟩ trivial ?_;obtain⟨K2,hK2,h⟩:=aU h;refine AWp.join (α:=List Ty0) (fun(l15:List Ty0)=>⟨86,(f48z17 l6 x2 n5),[(6,.cells 28 [.nils,.i (0:Int)]),(7,.cells 28 (fA)),(8,.cells 67 (fB x1)),(10,.cells 28 (jQ x2 n5)),(6001,aJ r4),(6200,aI l15),(6304,aJ l7)],[],0⟩) (fun x=>K2 x=some r) ?_ ?_
   ·
    refine aM [] [] ⟨86,[(6,.ptr 6 0),(7,.ptr 7 0),(8,.ptr 8 0),(10,.ptr 10 0),(11,.i (lZ l6)),(19,vL 2 bE (default:(eA)×Int) x2),(20,.i (lZ x2)),(21,.i (n5:Int)),(29,aO (cW x2 n5).1),(30,.i ((((cW x2 n5).1).length:Nat):Int)),(31,.i (0:Int))],(xQ x1 x2 n5 r4 l6 l7),[],0⟩ trivial ?_;refine AWp.block ?_;refine AWp.loopL (α:=Nat×(Nat×(eA))) (fun x=>match x with|(_,n8,l9)=>⟨86,(f48z11 l6 x2 n5 n8),(f48z19 x1 x2 n5 r4 l9 l7),[],0⟩) (fun x=>tP x2 n5 l6 K2 x.1 x.2=some r) (fun x=>x.1) (bG,0,l6) (Le.mk (s':=⟨86,[(6,.ptr 6 0),(7,.ptr 7 0),(8,.ptr 8 0),(10,.ptr 10 0),(11,.i (lZ l6)),(19,vL 2 bE (default:(eA)×Int) x2),(20,.i (lZ x2)),(21,.i (n5:Int)),(29,aO (cW x2 n5).1),(30,.i ((((cW x2 n5).1).length:Nat):Int)),(31,.i (0:Int))],(xQ x1 x2 n5 r4 l6 l7),[],0⟩) rfl rfl ⟨.refl _,.refl _,.refl _,.refl _,.refl _,.refl _,.refl _,.refl _,.refl _,.refl _,.refl _,trivial⟩ ⟨⟨_,rfl,.refl _⟩,⟨_,rfl,.refl _⟩,⟨_,rfl,.refl _⟩,⟨_,rfl,.refl _⟩,⟨_,rfl,.refl _⟩,⟨_,rfl,.refl _⟩,⟨_,rfl,.refl _⟩,trivial⟩) h ?_
    rintro⟨k1,n8,l9⟩ h
    cases k1 with
    |zero=>exact nomatch (show(none:Option eO)=some r from h)
    |succ k1=>
    obtain⟨C1,hC1⟩:∃C,C=tP x2 n5 l6 K2 k1:=⟨_,rfl⟩;replace h:=(tP.eq_2 ..).symm.trans h
    try rw[←hC1]at h
    refine aM [] [] ⟨86,[(6,.ptr 6 0),(7,.ptr 7 0),(8,.ptr 8 0),(10,.ptr 10 0),(11,.i (lZ l6)),(19,vL 2 bE (default:(eA)×Int) x2),(20,.i (lZ x2)),(21,.i (n5:Int)),(29,aO (cW x2 n5).1),(30,.i ((((cW x2 n5).1).length:Nat):Int)),(31,.i (n8:Int)),(32,.bool (decide ((n8:Int)<((((cW x2 n5).1).length:Nat):Int))))],(f48z19 x1 x2 n5 r4 l9 l7),[],0⟩ trivial ?_;refine AWp.seq ?_;refine AWp.cond (b:=(decide ((n8:Int)<((((cW x2 n5).1).length:Nat):Int)))) (by kernel_rfl) (fun hc2=> ?_) (fun hc2=> ?_)
    ·
     replace h:=aK hc2 h;refine AWp.skip (tN (AWp.seq (AWp.block (AWp.seq ?_))));obtain⟨ob1p,h⟩:=aB h;have ob1:0≤(n8:Int)∧(n8:Int)<((((x2.getD n5 q1dLT67JI).1).length:Nat):Int):=⟨by omega,ob1p⟩;refine aR [] [] ⟨86,(zL l6 x2 n5 n8),[(6,.cells 28 [.nils,.i (0:Int)]),(7,.cells 28 (fA)),(8,.cells 67 (fB x1)),(10,.cells 28 (jQ x2 n5)),(13,.cells 67 [.i (cZ x2 n5 n8).1,.i (cZ x2 n5 n8).2.1,.i (cZ x2 n5 n8).2.2.1,aX (cZ x2 n5 n8).2.2.2.1,aX (cZ x2 n5 n8).2.2.2.2]),(6001,aJ r4),(6200,aI l9),(6304,aJ l7)],[],0⟩ (an2 ob1 trivial) ?_;refine tN (AWp.seq ?_);obtain⟨r10,hr10,h⟩:=bind_ok h;refine aR [] [(2,⟨[aX (cZ x2 n5 n8).2.2.2.1],[],[],[(6002,aJ r10)],.own 6002,[6002],[],[]⟩)] ⟨86,(zL l6 x2 n5 n8),[(6,.cells 28 [.nils,.i (0:Int)]),(7,.cells 28 (fA)),(8,.cells 67 (fB x1)),(10,.cells 28 (jQ x2 n5)),(13,.cells 67 [.i (cZ x2 n5 n8).1,.i (cZ x2 n5 n8).2.1,.i (cZ x2 n5 n8).2.2.1,.own 6002,aX (cZ x2 n5 n8).2.2.2.2]),(6001,aJ r4),(6002,aJ r10),(6200,aI l9),(6304,aJ l7)],[],0⟩ (an2 (cpT (aF.ren (aW 3000 6002) (aE 3000 6002) rfl (tW _ _ hr10))) trivial) ?_;refine tN (AWp.seq ?_);obtain⟨r11,hr11,h⟩:=bind_ok h;refine aR [] [(2,⟨[aX (cZ x2 n5 n8).2.2.2.2],[],[],[(6003,aJ r11)],.own 6003,[6003],[],[]⟩)] ⟨86,(zL l6 x2 n5 n8),(f48z15 x1 x2 n5 n8 r4 r10 r11 l9 l7),[],0⟩ (an2 (cpT (aF.ren (aW 3000 6003) (aE 3000 6003) rfl (tW _ _ hr11))) trivial) ?_;refine tN ?_;obtain⟨K3,hK3,h⟩:=aU h;refine AWp.join (α:=List Int) (fun(l14:List Int)=>⟨86,(zL l6 x2 n5 n8),[(6,.cells 28 [.nils,.i (0:Int)]),(7,.cells 28 (fA)),(8,.cells 67 (fB x1)),(10,.cells 28 (jQ x2 n5)),(13,.cells 67 (f48z6 x2 n5 n8)),(6001,aJ r4),(6002,aJ r10),(6003,aJ l14),(6200,aI l9),(6304,aJ l7)],[],0⟩) (fun x=>K3 x=some r) ?_ ?_
     ·
      refine aM [] [] ⟨86,[(6,.ptr 6 0),(7,.ptr 7 0),(8,.ptr 8 0),(10,.ptr 10 0),(11,.i (lZ l6)),(13,.ptr 13 0),(19,vL 2 bE (default:(eA)×Int) x2),(20,.i (lZ x2)),(21,.i (n5:Int)),(29,aO (cW x2 n5).1),(30,.i ((((cW x2 n5).1).length:Nat):Int)),(31,.i (n8:Int)),(45,.i (lZ r11)),(46,.i (0:Int))],(f48z15 x1 x2 n5 n8 r4 r10 r11 l9 l7),[],0⟩ trivial ?_;refine AWp.block ?_;refine AWp.loopL (α:=Nat×(Nat×List Int)) (fun x=>match x with|(_,n12,l13)=>⟨86,(f48z8 l6 x2 n5 n8 r11 n12),(f48z10 x1 x2 n5 n8 r4 r10 l13 l9 l7),[],0⟩) (fun x=>tO l6 r11 K3 x.1 x.2=some r) (fun x=>x.1) (bG,0,r11) (Le.mk (s':=⟨86,[(6,.ptr 6 0),(7,.ptr 7 0),(8,.ptr 8 0),(10,.ptr 10 0),(11,.i (lZ l6)),(13,.ptr 13 0),(19,vL 2 bE (default:(eA)×Int) x2),(20,.i (lZ x2)),(21,.i (n5:Int)),(29,aO (cW x2 n5).1),(30,.i ((((cW x2 n5).1).length:Nat):Int)),(31,.i (n8:Int)),(45,.i (lZ r11)),(46,.i (0:Int))],(f48z15 x1 x2 n5 n8 r4 r10 r11 l9 l7),[],0⟩) rfl rfl ⟨.refl _,.refl _,.refl _,.refl _,.refl _,.refl _,.refl _,.refl _,.refl _,.refl _,.refl _,.refl _,.refl _,.refl _,trivial⟩ ⟨⟨_,rfl,.refl _⟩,⟨_,rfl,.refl _⟩,⟨_,rfl,.refl _⟩,⟨_,rfl,.refl _⟩,⟨_,rfl,.refl _⟩,⟨_,rfl,.refl _⟩,⟨_,rfl,.refl _⟩,⟨_,rfl,.refl _⟩,⟨_,rfl,.refl _⟩,⟨_,rfl,.refl _⟩,trivial⟩) h ?_
      rintro⟨k2,n12,l13⟩ h
      cases k2 with
      |zero=>exact nomatch (show(none:Option eO)=some r from h)
      |succ k2=>
      obtain⟨C2,hC2⟩:∃C,C=tO l6 r11 K3 k2:=⟨_,rfl⟩;replace h:=(tO.eq_2 ..).symm.trans h
      try rw[←hC2]at h
      refine aM [] [] ⟨86,[(6,.ptr 6 0),(7,.ptr 7 0),(8,.ptr 8 0),(10,.ptr 10 0),(11,.i (lZ l6)),(13,.ptr 13 0),(19,vL 2 bE (default:(eA)×Int) x2),(20,.i (lZ x2)),(21,.i (n5:Int)),(29,aO (cW x2 n5).1),(30,.i ((((cW x2 n5).1).length:Nat):Int)),(31,.i (n8:Int)),(45,.i (lZ r11)),(46,.i (n12:Int)),(47,.bool (decide ((n12:Int)<(lZ r11))))],(f48z10 x1 x2 n5 n8 r4 r10 l13 l9 l7),[],0⟩ trivial ?_;refine AWp.seq ?_;refine AWp.cond (b:=(decide ((n12:Int)<(lZ r11)))) (by kernel_rfl) (fun hc3=> ?_) (fun hc3=> ?_)
      ·
       replace h:=aK hc3 h;refine AWp.skip (tN (AWp.seq (AWp.block ?_)));refine aM [] [] ⟨86,[(6,.ptr 6 0),(7,.ptr 7 0),(8,.ptr 8 0),(10,.ptr 10 0),(11,.i (lZ l6)),(13,.ptr 13 0),(14,.i (n12:Int)),(19,vL 2 bE (default:(eA)×Int) x2),(20,.i (lZ x2)),(21,.i (n5:Int)),(29,aO (cW x2 n5).1),(30,.i ((((cW x2 n5).1).length:Nat):Int)),(31,.i (n8:Int)),(45,.i (lZ r11)),(46,.i (n12:Int))],(f48z10 x1 x2 n5 n8 r4 r10 l13 l9 l7),[],0⟩ trivial ?_;obtain⟨ob2p,h⟩:=aB h;have ob2:0≤(n12:Int)∧(n12:Int)<(((l13).length:Nat):Int):=⟨by omega,ob2p⟩;obtain⟨ob3,ob4,ob5p,h⟩:=ck3 h;have ob5:0≤(n12:Int)∧(n12:Int)<(((l13).length:Nat):Int):=⟨by omega,ob5p⟩;obtain⟨ob6,h⟩:=aB h;refine aR [] [] ⟨86,(f48z8 l6 x2 n5 n8 r11 n12),[(6,.cells 28 [.nils,.i (0:Int)]),(7,.cells 28 (fA)),(8,.cells 67 (fB x1)),(10,.cells 28 (jQ x2 n5)),(13,.cells 67 (f48z6 x2 n5 n8)),(6001,aJ r4),(6002,aJ r10),(6003,.rows 3 1 (l13).length (yF (cM eI 0 l13) n12 0 [.i ((l13.getD n12 0)+(lZ l6))])),(6200,aI l9),(6304,aJ l7)],[],0⟩ (an5 ob2 ob3 ob4 ob5 ob6) ?_;refine kN (tN ?_);refine AWp.le (Le.mk (s':=⟨86,(f48z8 l6 x2 n5 n8 r11 n12),(f48z13 x1 x2 n5 n8 r4 r10 l13 n12 l6 l9 l7),[],0⟩) rfl rfl ⟨.refl _,.refl _,.refl _,.refl _,.refl _,.refl _,.refl _,.refl _,.refl _,.refl _,.refl _,.refl _,.refl _,.refl _,trivial⟩ ⟨⟨_,rfl,.refl _⟩,⟨_,rfl,.refl _⟩,⟨_,rfl,.refl _⟩,⟨_,rfl,.refl _⟩,⟨_,rfl,.refl _⟩,⟨_,rfl,.refl _⟩,⟨_,rfl,.refl _⟩,⟨_,rfl,(BLe.of (RL.set ((l13.getD n12 0)+(lZ l6)) (RL.self _) (by intro j hj;match j,hj with|0,_=>rfl)))⟩,⟨_,rfl,.refl _⟩,⟨_,rfl,.refl _⟩,trivial⟩) ?_;obtain⟨ob7p,h⟩:=aB h;have ob7: -9223372036854775808≤((n12:Int)+(1:Int))∧((n12:Int)+(1:Int))≤9223372036854775807:=⟨by omega,ob7p⟩;refine aR [] [] ⟨86,[(6,.ptr 6 0),(7,.ptr 7 0),(8,.ptr 8 0),(10,.ptr 10 0),(11,.i (lZ l6)),(13,.ptr 13 0),(19,vL 2 bE (default:(eA)×Int) x2),(20,.i (lZ x2)),(21,.i (n5:Int)),(29,aO (cW x2 n5).1),(30,.i ((((cW x2 n5).1).length:Nat):Int)),(31,.i (n8:Int)),(45,.i (lZ r11)),(46,.i (((n12+1):Nat):Int))],(f48z13 x1 x2 n5 n8 r4 r10 l13 n12 l6 l9 l7),[],0⟩ (an1 ob7) ?_;rw[hC2]at h;exact lN (_,(n12+1),(l13.set n12 ((l13.getD n12 0)+(lZ l6)))) (Le.mk rfl rfl ⟨.refl _,.refl _,.refl _,.refl _,.refl _,.refl _,.refl _,.refl _,.refl _,.refl _,.refl _,.refl _,.refl _,.refl _,trivial⟩ ⟨⟨_,rfl,.refl _⟩,⟨_,rfl,.refl _⟩,⟨_,rfl,.refl _⟩,⟨_,rfl,.refl _⟩,⟨_,rfl,.refl _⟩,⟨_,rfl,.refl _⟩,⟨_,rfl,.refl _⟩,⟨_,rfl,.refl _⟩,⟨_,rfl,.refl _⟩,⟨_,rfl,.refl _⟩,trivial⟩) h (Nat.lt_succ_self _)
      ·
       replace h:=aL hc3 h;refine AWp.exit (tE (tE (kS ?_)));exact jN (l13) (Le.mk rfl rfl ⟨.refl _,.refl _,.refl _,.refl _,.refl _,.refl _,.refl _,.refl _,.refl _,.refl _,.refl _,.refl _,trivial⟩ ⟨⟨_,rfl,.refl _⟩,⟨_,rfl,.refl _⟩,⟨_,rfl,.refl _⟩,⟨_,rfl,.refl _⟩,⟨_,rfl,.refl _⟩,⟨_,rfl,.refl _⟩,⟨_,rfl,.refl _⟩,⟨_,rfl,.refl _⟩,⟨_,rfl,.refl _⟩,⟨_,rfl,.refl _⟩,trivial⟩) h
     ·
      rintro l14 h;replace h:=(congrFun hK3 _).symm.trans h;refine AWp.le (Le.trans (Le.freeze 6002 rfl rfl) (Le.mk (s':=⟨86,(zL l6 x2 n5 n8),[(6,.cells 28 [.nils,.i (0:Int)]),(7,.cells 28 (fA)),(8,.cells 67 (fB x1)),(10,.cells 28 (jQ x2 n5)),(13,.cells 67 [.i (cZ x2 n5 n8).1,.i (cZ x2 n5 n8).2.1,.i (cZ x2 n5 n8).2.2.1,aX r10,.own 6003]),(6001,aJ r4),(6003,aJ l14),(6200,aI l9),(6304,aJ l7)],[],0⟩) rfl rfl ⟨.refl _,.refl _,.refl _,.refl _,.refl _,.refl _,.refl _,.refl _,.refl _,.refl _,.refl _,.refl _,trivial⟩ ⟨⟨_,rfl,.refl _⟩,⟨_,rfl,.refl _⟩,⟨_,rfl,.refl _⟩,⟨_,rfl,.refl _⟩,⟨_,rfl,.refl _⟩,⟨_,rfl,.refl _⟩,⟨_,rfl,.refl _⟩,⟨_,rfl,.refl _⟩,⟨_,rfl,.refl _⟩,trivial⟩)) ?_;refine AWp.le (Le.trans (Le.freeze 6003 rfl rfl) (Le.mk (s':=⟨86,(zL l6 x2 n5 n8),[(6,.cells 28 [.nils,.i (0:Int)]),(7,.cells 28 (fA)),(8,.cells 67 (fB x1)),(10,.cells 28 (jQ x2 n5)),(13,.cells 67 [.i (cZ x2 n5 n8).1,.i (cZ x2 n5 n8).2.1,.i (cZ x2 n5 n8).2.2.1,aX r10,aX l14]),(6001,aJ r4),(6200,aI l9),(6304,aJ l7)],[],0⟩) rfl rfl ⟨.refl _,.refl _,.refl _,.refl _,.refl _,.refl _,.refl _,.refl _,.refl _,.refl _,.refl _,.refl _,trivial⟩ ⟨⟨_,rfl,.refl _⟩,⟨_,rfl,.refl _⟩,⟨_,rfl,.refl _⟩,⟨_,rfl,.refl _⟩,⟨_,rfl,.refl _⟩,⟨_,rfl,.refl _⟩,⟨_,rfl,.refl _⟩,⟨_,rfl,.refl _⟩,trivial⟩)) ?_;obtain⟨ob8,h⟩:=aB h;refine aR [] [] ⟨86,(f48z11 l6 x2 n5 n8),[(6,.cells 28 [.nils,.i (0:Int)]),(7,.cells 28 (fA)),(8,.cells 67 (fB x1)),(10,.cells 28 (jQ x2 n5)),(6001,aJ r4),(6200,.rows 67 5 ((l9).length+1) (kB (l9).length (cM bY bB l9) (fZ 5 [.i (cZ x2 n5 n8).1,.i (cZ x2 n5 n8).2.1,.i (cZ x2 n5 n8).2.2.1,aX r10,aX l14]))),(6304,aJ l7)],[],0⟩ (an2 ob8 trivial) ?_;refine kN (tN ?_);refine AWp.le (Le.mk (s':=⟨86,(f48z11 l6 x2 n5 n8),(f48z16 x1 x2 n5 r4 l9 n8 r10 l14 l7),[],0⟩) rfl rfl ⟨.refl _,.refl _,.refl _,.refl _,.refl _,.refl _,.refl _,.refl _,.refl _,.refl _,.refl _,trivial⟩ ⟨⟨_,rfl,.refl _⟩,⟨_,rfl,.refl _⟩,⟨_,rfl,.refl _⟩,⟨_,rfl,.refl _⟩,⟨_,rfl,.refl _⟩,⟨_,rfl,(BLe.of (RL.app (RL.self _) (RL.lstV (enc:=bY) [((cZ x2 n5 n8).1,(cZ x2 n5 n8).2.1,(cZ x2 n5 n8).2.2.1,r10,l14)] rfl ⟨.refl _,.refl _,.refl _,.refl _,.refl _,trivial⟩ (fun _=>rfl))))⟩,⟨_,rfl,.refl _⟩,trivial⟩) ?_;obtain⟨ob9p,h⟩:=aB h;have ob9: -9223372036854775808≤((n8:Int)+(1:Int))∧((n8:Int)+(1:Int))≤9223372036854775807:=⟨by omega,ob9p⟩;refine aR [] [] ⟨86,[(6,.ptr 6 0),(7,.ptr 7 0),(8,.ptr 8 0),(10,.ptr 10 0),(11,.i (lZ l6)),(19,vL 2 bE (default:(eA)×Int) x2),(20,.i (lZ x2)),(21,.i (n5:Int)),(29,aO (cW x2 n5).1),(30,.i ((((cW x2 n5).1).length:Nat):Int)),(31,.i (((n8+1):Nat):Int))],(f48z16 x1 x2 n5 r4 l9 n8 r10 l14 l7),[],0⟩ (an1 ob9) ?_;rw[hC1]at h;exact lN (_,(n8+1),(l9++[((cZ x2 n5 n8).1,(cZ x2 n5 n8).2.1,(cZ x2 n5 n8).2.2.1,r10,l14)])) (Le.mk rfl rfl ⟨.refl _,.refl _,.refl _,.refl _,.refl _,.refl _,.refl _,.refl _,.refl _,.refl _,.refl _,trivial⟩ ⟨⟨_,rfl,.refl _⟩,⟨_,rfl,.refl _⟩,⟨_,rfl,.refl _⟩,⟨_,rfl,.refl _⟩,⟨_,rfl,.refl _⟩,⟨_,rfl,.refl _⟩,⟨_,rfl,.refl _⟩,trivial⟩) h (Nat.lt_succ_self _)
    ·
     replace h:=aL hc2 h;refine AWp.exit (tE (tE (kS ?_)));exact jN (l9) (Le.mk rfl rfl ⟨.refl _,.refl _,.refl _,.refl _,.refl _,.refl _,.refl _,.refl _,trivial⟩ ⟨⟨_,rfl,.refl _⟩,⟨_,rfl,.refl _⟩,⟨_,rfl,.refl _⟩,⟨_,rfl,.refl _⟩,⟨_,rfl,.refl _⟩,⟨_,rfl,.refl _⟩,⟨_,rfl,.refl _⟩,trivial⟩) h
   ·
    rintro l15 h;replace h:=(congrFun hK2 _).symm.trans h;obtain⟨ob10,ob11,h⟩:=ck2 h;refine aR [] [] ⟨86,(f48z22 x2 n5),[(6,.cells 28 [.nils,.i (0:Int)]),(7,.cells 28 (fA)),(8,.cells 67 (fB x1)),(6001,aJ r4),(6200,aI l15),(6304,.rows 3 1 ((l7).length+1) (kB (l7).length (cM eI 0 l7) (fZ 1 [.i ((lZ l6)+(cW x2 n5).2)])))],[],0⟩ (an3 ob10 ob11 trivial) ?_;refine kN (tN ?_);refine AWp.le (Le.mk (s':=⟨86,(f48z22 x2 n5),(f48z21 x1 r4 l15 l7 l6 x2 n5),[],0⟩) rfl rfl ⟨.refl _,.refl _,.refl _,.refl _,.refl _,.refl _,trivial⟩ ⟨⟨_,rfl,.refl _⟩,⟨_,rfl,.refl _⟩,⟨_,rfl,.refl _⟩,⟨_,rfl,.refl _⟩,⟨_,rfl,.refl _⟩,⟨_,rfl,(BLe.of (RL.app (RL.self _) (RL.lst (enc:=eI) [((lZ l6)+(cW x2 n5).2)] rfl rfl (fun _=>rfl))))⟩,trivial⟩) ?_;obtain⟨ob12p,h⟩:=aB h;have ob12: -9223372036854775808≤((n5:Int)+(1:Int))∧((n5:Int)+(1:Int))≤9223372036854775807:=⟨by omega,ob12p⟩;refine aR [] [] ⟨86,[(6,.ptr 6 0),(7,.ptr 7 0),(8,.ptr 8 0),(19,vL 2 bE (default:(eA)×Int) x2),(20,.i (lZ x2)),(21,.i (((n5+1):Nat):Int))],(f48z21 x1 r4 l15 l7 l6 x2 n5),[],0⟩ (an1 ob12) ?_;rw[hC0]at h;exact lN (_,(n5+1),l15,(l7++[((lZ l6)+(cW x2 n5).2)])) (Le.mk rfl rfl ⟨.refl _,.refl _,.refl _,.refl _,.refl _,.refl _,trivial⟩ ⟨⟨_,rfl,.refl _⟩,⟨_,rfl,.refl _⟩,⟨_,rfl,.refl _⟩,⟨_,rfl,.refl _⟩,⟨_,rfl,.refl _⟩,⟨_,rfl,.refl _⟩,trivial⟩) h (Nat.lt_succ_self _)
  ·
   replace h:=aL hc1 h;refine AWp.exit (tE (tE (kS ?_)));exact jN (l6,l7) (Le.mk rfl rfl ⟨.refl _,.refl _,.refl _,trivial⟩ ⟨⟨_,rfl,.refl _⟩,⟨_,rfl,.refl _⟩,⟨_,rfl,.refl _⟩,⟨_,rfl,.refl _⟩,⟨_,rfl,.refl _⟩,⟨_,rfl,.refl _⟩,trivial⟩) h
 ·
  rintro⟨l16,l17⟩ h;replace h:=(congrFun hK1 _).symm.trans h;refine aM [] [] ⟨86,(xP),[(6,.cells 28 [.nils,.i (0:Int)]),(7,.cells 28 (pP l16)),(8,.cells 67 (fB x1)),(6001,aJ r4),(6200,aI l16),(6304,aJ l17)],[],0⟩ (an1 trivial) ?_;refine AWp.seq ?_;refine AWp.le (Le.trans (Le.freeze 6001 rfl rfl) (Le.mk (s':=⟨86,(xP),[(6,.cells 28 [.nils,.i (0:Int)]),(7,.cells 28 (pP l16)),(8,.cells 67 [.i (2:Int),.i (0:Int),.i x1,aX r4,.own 6304]),(6200,aI l16),(6304,aJ l17)],[],0⟩) rfl rfl ⟨.refl _,.refl _,.refl _,trivial⟩ ⟨⟨_,rfl,.refl _⟩,⟨_,rfl,.refl _⟩,⟨_,rfl,.refl _⟩,⟨_,rfl,.refl _⟩,⟨_,rfl,.refl _⟩,trivial⟩)) ?_;refine AWp.le (Le.trans (Le.freeze 6304 rfl rfl) (Le.mk (s':=⟨86,(xP),[(6,.cells 28 [.nils,.i (0:Int)]),(7,.cells 28 (pP l16)),(8,.cells 67 [.i (2:Int),.i (0:Int),.i x1,aX r4,aX l17]),(6200,aI l16)],[],0⟩) rfl rfl ⟨.refl _,.refl _,.refl _,trivial⟩ ⟨⟨_,rfl,.refl _⟩,⟨_,rfl,.refl _⟩,⟨_,rfl,.refl _⟩,⟨_,rfl,.refl _⟩,trivial⟩)) ?_;obtain⟨ob13,h⟩:=aB h;refine aR [] [] ⟨86,[(6,.ptr 6 0),(7,.ptr 7 0)],[(6,.cells 28 [.nils,.i (0:Int)]),(7,.cells 28 (pP l16)),(6200,.rows 67 5 ((l16).length+1) (kB (l16).length (cM bY bB l16) (fZ 5 [.i (2:Int),.i (0:Int),.i x1,aX r4,aX l17])))],[],0⟩ (an2 ob13 trivial) ?_;refine tN ?_;refine AWp.le (Le.mk (s':=⟨86,[(6,.ptr 6 0),(7,.ptr 7 0)],[(6,.cells 28 [.nils,.i (0:Int)]),(7,.cells 28 (pP l16)),(6200,aI (l16++[((2:Int),(0:Int),x1,r4,l17)]))],[],0⟩) rfl rfl ⟨.refl _,.refl _,trivial⟩ ⟨⟨_,rfl,.refl _⟩,⟨_,rfl,.refl _⟩,⟨_,rfl,(BLe.of (RL.app (RL.self _) (RL.lstV (enc:=bY) [((2:Int),(0:Int),x1,r4,l17)] rfl ⟨.refl _,.refl _,.refl _,.refl _,.refl _,trivial⟩ (fun _=>rfl))))⟩,trivial⟩) ?_;refine aM [] [] ⟨86,[(6,.ptr 6 0)],[(6,.cells 28 (pP l16)),(6200,aI (l16++[((2:Int),(0:Int),x1,r4,l17)]))],[],0⟩ (an1 trivial) ?_;refine AWp.le (Le.trans (Le.freeze 6200 rfl rfl) (Le.mk (s':=⟨86,[(6,.ptr 6 0)],[(6,.cells 28 [aO (l16++[((2:Int),(0:Int),x1,r4,l17)]),.i (lZ l16)])],[],0⟩) rfl rfl ⟨.refl _,trivial⟩ ⟨⟨_,rfl,.refl _⟩,trivial⟩)) ?_;have hret:=Option.some.inj h;subst hret;refine AWp.le (Le.mk (s':=⟨86,[(6,.ptr 6 0)],[(6,.cells 28 [aO (l16++[((2:Int),(0:Int),x1,r4,l17)]),.i (lZ l16)])],[],0⟩) rfl rfl ⟨.refl _,trivial⟩ ⟨⟨_,rfl,.refl _⟩,trivial⟩) ?_;refine AWp.ret ?_;exact bR _ rfl ⟨rfl,rfl⟩ rfl
abbrev f15z0 (r4:Ty4×Int):List V:=[vL 5 bY (default:Int×Int×Int×List Int×List Int) r4.1,.int .i64 r4.2]
abbrev f15z1 :=Ty4
def f15 (x1:Int):Option (Ty4×Int×Int):=
 if((decide (x1<(1:Int)))||(decide (x1>(12:Int))))then(
 some ([],(0:Int),(7:Int))
 )else(
 (f50 (0:Int) x1).bind fun(r2:List Int)=>
 (f49 r2).bind fun(r3:List eO)=>
 (f48 ((x1/(2:Int))+(1:Int)) r3 []).bind fun(r4:Ty4×Int)=>
 chk (0≤x1∧1≤(2:Int)∧ -9223372036854775808≤(x1/(2:Int))∧(x1/(2:Int))≤9223372036854775807)<|
 chk (-9223372036854775808≤((x1/(2:Int))+(1:Int))∧((x1/(2:Int))+(1:Int))≤9223372036854775807)<|
 some (r4.1,r4.2,(0:Int))
 )
theorem f15_ok (x1:Int) (r:Ty4×Int×Int) (h:f15 x1=some r):aF Tryd.prog 15 [] [] [] [.int .i64 x1] (.tup [.agg [vL 5 bY (default:Int×Int×Int×List Int×List Int) r.1,.int .i64 r.2.1],.int .i64 r.2.2]) []:=by
 unfold f15 at h;refine aF.bodyD [2] 0 _ _ Tryd.func15 rfl Tryd.ntmps15 rfl rfl ?_;refine aM [] [] ⟨18,[(0,.i x1),(2,.ptr 2 0)],[(2,.cells 28 [.nils,.i (0:Int)])],[],0⟩ trivial ?_;refine AWp.seq (AWp.seq ?_);have ob0:=idA (((decide (x1<(1:Int)))==false)=true);have ob1:=bqA (decide (x1<(1:Int))) false;refine aR [] [] ⟨18,[(0,.i x1),(2,.ptr 2 0),(9,.bool ((decide (x1<(1:Int)))||(decide (x1>(12:Int)))))],[(2,.cells 28 [.nils,.i (0:Int)])],[],0⟩ (an2 (an1 ob0) ob1) ?_;refine tN ?_;refine AWp.cond (b:=((decide (x1<(1:Int)))||(decide (x1>(12:Int))))) (by kernel_rfl) (fun hc1=> ?_) (fun hc1=> ?_)
 ·
  replace h:=aK hc1 h;refine aM [] [] ⟨18,[(2,.ptr 2 0),(3,.i (7:Int))],[(2,.cells 28 [.nils,.i (0:Int)])],[],0⟩ (an1 trivial) ?_;have hret:=Option.some.inj h;subst hret;refine AWp.le (Le.mk (s':=⟨18,[(2,.ptr 2 0),(3,.i (7:Int))],[(2,.cells 28 [aO [],.i (0:Int)])],[],0⟩) rfl rfl ⟨.refl _,.refl _,trivial⟩ ⟨⟨_,rfl,(.cellsL ⟨.nilL,.refl _,trivial⟩)⟩,trivial⟩) ?_;refine AWp.ret (tR ?_);exact bR _ rfl ⟨rfl,rfl⟩ rfl
 ·
  replace h:=aL hc1 h;refine AWp.skip (tN (AWp.seq ?_));obtain⟨r2,hr2,h⟩:=bind_ok h;obtain⟨r3,hr3,h⟩:=bind_ok h;obtain⟨r4,hr4,h⟩:=bind_ok h;obtain⟨ob2,ob3,h⟩:=ck2 h;refine aR [] [(4,⟨[.i (0:Int),.i x1],[],[],[],aX r2,[],[],[]⟩),(5,⟨[aX r2],[],[],[],vL 2 bE (default:(f15z1)×Int) r3,[],[],[]⟩),(6,⟨[.i ((x1/(2:Int))+(1:Int)),vL 2 bE (default:(f15z1)×Int) r3,aX []],[],[],[],.agg (f15z0 r4),[],[],[]⟩)] ⟨18,[(2,.ptr 2 0),(3,.i (0:Int))],[(2,.cells 28 (f15z0 r4))],[],0⟩ (an6 ob2 ob3 (cpT (f50_ok _ _ _ hr2)) (cpT (f49_ok _ _ hr3)) (cpL (c:=true) [] [] [.i ((x1/(2:Int))+(1:Int)),vL 2 bE (default:(f15z1)×Int) r3,.nils] (fun _=>(f48_ok _ _ _ _ hr4)) (fun _=>⟨.refl _,.refl _,.nilL,trivial⟩) (.inl rfl)) trivial) ?_;refine tN ?_;have hret:=Option.some.inj h;subst hret;refine AWp.le (Le.mk (s':=⟨18,[(2,.ptr 2 0),(3,.i (0:Int))],[(2,.cells 28 (f15z0 r4))],[],0⟩) rfl rfl ⟨.refl _,.refl _,trivial⟩ ⟨⟨_,rfl,.refl _⟩,trivial⟩) ?_;refine AWp.ret ?_;exact bR _ rfl ⟨rfl,rfl⟩ rfl
def f90 (x1:Int):Option Bool:=
 some ((decide (x1<(1:Int)))||(decide (x1>(1000:Int))))
theorem f90_ok (x1:Int) (r:Bool) (h:f90 x1=some r):aF Tryd.prog 90 [] [] [] [.int .i64 x1] (.bool r) []:=by
 unfold f90 at h;refine aF.body 0 _ _ Tryd.func90 rfl Tryd.ntmps90 rfl rfl ?_;refine aM [] [] ⟨9,[(0,.i x1)],[],[],0⟩ trivial ?_;refine AWp.seq ?_;have ob0:=idA (((decide (x1<(1:Int)))==false)=true);have ob1:=bqA (decide (x1<(1:Int))) false;refine aR [] [] ⟨9,[(2,.bool ((decide (x1<(1:Int)))||(decide (x1>(1000:Int)))))],[],[],0⟩ (an2 (an1 ob0) ob1) ?_;refine tN ?_;have hret:=Option.some.inj h;subst hret;refine AWp.le (Le.mk (s':=⟨9,[(2,.bool ((decide (x1<(1:Int)))||(decide (x1>(1000:Int)))))],[],[],0⟩) rfl rfl ⟨.refl _,trivial⟩ trivial) ?_;refine AWp.ret ?_;exact bR _ rfl ⟨rfl,rfl⟩ rfl
def lD (x1:List Int) (K1:Unit→Option Int):Nat→Nat→Option Int
 |0,_=>none
 |k+1,n2=>
  if(decide ((n2:Int)<(((x1).length:Nat):Int)))then(
  (f90 (x1.getD n2 0)).bind fun(r3:Bool)=>
  chk ((n2:Int)<(((x1).length:Nat):Int))<|
  if r3 then(
  some (n2:Int)
  )else(
  chk (((n2:Int)+(1:Int))≤9223372036854775807)<|
  (lD x1 K1 k) (n2+1)
  )
  )else(
  K1 ()
  )
def f89 (x1:List Int):Option Int:=
 jn (fun(_:Unit)=>
 some (-1:Int)
 ) fun(K1:Unit→Option Int)=>
 lD x1 K1 bG 0
theorem f89_ok (x1:List Int) (r:Int) (h:f89 x1=some r):aF Tryd.prog 89 [] [] [] [vL 1 eI 0 x1,.fn (.func 90) []] (.int .i64 r) []:=by
 unfold f89 at h;refine aF.body 0 _ _ Tryd.func89 rfl Tryd.ntmps89 rfl rfl ?_;refine aM [] [] ⟨19,[(0,aX x1),(1,.fn (.func 90) [])],[],[],0⟩ trivial ?_;obtain⟨K1,hK1,h⟩:=aU h;refine AWp.join (α:=Unit) (fun(x:Unit)=>match x with|()=>⟨19,[],[],[],0⟩) (fun x=>K1 x=some r) ?_ ?_
 ·
  refine aM [] [] ⟨19,[(0,aX x1),(1,.fn (.func 90) []),(7,.i (lZ x1)),(8,.i (0:Int))],[],[],0⟩ trivial ?_;refine AWp.block ?_;refine AWp.loopL (α:=Nat×Nat) (fun x=>match x with|(_,n2)=>⟨19,[(0,aX x1),(1,.fn (.func 90) []),(7,.i (lZ x1)),(8,.i (n2:Int))],[],[],0⟩) (fun x=>lD x1 K1 x.1 x.2=some r) (fun x=>x.1) (bG,0) (Le.mk (s':=⟨19,[(0,aX x1),(1,.fn (.func 90) []),(7,.i (lZ x1)),(8,.i (0:Int))],[],[],0⟩) rfl rfl ⟨.refl _,.refl _,.refl _,.refl _,trivial⟩ trivial) h ?_
  rintro⟨k0,n2⟩ h
  cases k0 with
  |zero=>exact nomatch (show(none:Option Int)=some r from h)
  |succ k0=>
  obtain⟨C0,hC0⟩:∃C,C=lD x1 K1 k0:=⟨_,rfl⟩;replace h:=(lD.eq_2 ..).symm.trans h
  try rw[←hC0]at h
  refine aM [] [] ⟨19,[(0,aX x1),(1,.fn (.func 90) []),(7,.i (lZ x1)),(8,.i (n2:Int)),(9,.bool (decide ((n2:Int)<(lZ x1))))],[],[],0⟩ trivial ?_;refine AWp.seq ?_;refine AWp.cond (b:=(decide ((n2:Int)<(lZ x1)))) (by kernel_rfl) (fun hc1=> ?_) (fun hc1=> ?_)
  ·
   replace h:=aK hc1 h;refine AWp.skip (tN (AWp.seq (AWp.block ?_)));refine aM [] [] ⟨19,[(0,aX x1),(1,.fn (.func 90) []),(5,.i (n2:Int)),(7,.i (lZ x1)),(8,.i (n2:Int))],[],[],0⟩ trivial ?_;refine AWp.seq ?_;obtain⟨r3,hr3,h⟩:=bind_ok h;obtain⟨ob0p,h⟩:=aB h;have ob0:0≤(n2:Int)∧(n2:Int)<(((x1).length:Nat):Int):=⟨by omega,ob0p⟩;refine aR [] [(5,⟨[.i (x1.getD n2 0)],[],[],[],.bool r3,[],[],[]⟩)] ⟨19,[(0,aX x1),(1,.fn (.func 90) []),(5,.i (n2:Int)),(7,.i (lZ x1)),(8,.i (n2:Int)),(16,.bool r3)],[],[],0⟩ (an2 ob0 (cpT (f90_ok _ _ hr3))) ?_;refine tN ?_;refine AWp.cond (b:=r3) (by kernel_rfl) (fun hc2=> ?_) (fun hc2=> ?_)
   ·
    replace h:=aK hc2 h;refine aM [] [] ⟨19,[(4,.i (n2:Int))],[],[],0⟩ trivial ?_;have hret:=Option.some.inj h;subst hret;refine AWp.le (Le.mk (s':=⟨19,[(4,.i (n2:Int))],[],[],0⟩) rfl rfl ⟨.refl _,trivial⟩ trivial) ?_;refine AWp.ret (kR (tR (tR (kR (aV ?_)))));exact bR _ rfl ⟨rfl,rfl⟩ rfl
   ·
    replace h:=aL hc2 h;refine AWp.skip (kN (tN ?_));obtain⟨ob1p,h⟩:=aB h;have ob1: -9223372036854775808≤((n2:Int)+(1:Int))∧((n2:Int)+(1:Int))≤9223372036854775807:=⟨by omega,ob1p⟩;refine aR [] [] ⟨19,[(0,aX x1),(1,.fn (.func 90) []),(7,.i (lZ x1)),(8,.i (((n2+1):Nat):Int))],[],[],0⟩ (an1 ob1) ?_;rw[hC0]at h;exact lN (_,(n2+1)) (Le.mk rfl rfl ⟨.refl _,.refl _,.refl _,.refl _,trivial⟩ trivial) h (Nat.lt_succ_self _)
  ·
   replace h:=aL hc1 h;refine AWp.exit (tE (tE (kS ?_)));exact jN () (Le.mk rfl rfl trivial trivial) h
 ·
  rintro⟨⟩ h;replace h:=(congrFun hK1 _).symm.trans h;refine aM [] [] ⟨19,[(4,.i (-1:Int))],[],[],0⟩ trivial ?_;have hret:=Option.some.inj h;subst hret;refine AWp.le (Le.mk (s':=⟨19,[(4,.i (-1:Int))],[],[],0⟩) rfl rfl ⟨.refl _,trivial⟩ trivial) ?_;refine AWp.ret ?_;exact bR _ rfl ⟨rfl,rfl⟩ rfl
def f57 (x1:List Int):Option Bool:=
 (f89 x1).bind fun(r2:Int)=>
 some (decide (r2≥(0:Int)))
theorem f57_ok (x1:List Int) (r:Bool) (h:f57 x1=some r):aF Tryd.prog 57 [] [] [] [vL 1 eI 0 x1,.fn (.func 90) []] (.bool r) []:=by
 unfold f57 at h;refine aF.body 0 _ _ Tryd.func57 rfl Tryd.ntmps57 rfl rfl ?_;refine aM [] [] ⟨9,[(0,aX x1),(1,.fn (.func 90) [])],[],[],0⟩ trivial ?_;refine AWp.seq ?_;obtain⟨r2,hr2,h⟩:=bind_ok h;refine aR [] [(2,⟨[aX x1,.fn (.func 90) []],[],[],[],.i r2,[],[],[]⟩)] ⟨9,[(4,.bool (decide (r2≥(0:Int))))],[],[],0⟩ (an1 (cpT (f89_ok _ _ hr2))) ?_;refine tN ?_;have hret:=Option.some.inj h;subst hret;refine AWp.le (Le.mk (s':=⟨9,[(4,.bool (decide (r2≥(0:Int))))],[],[],0⟩) rfl rfl ⟨.refl _,trivial⟩ trivial) ?_;refine AWp.ret ?_;exact bR _ rfl ⟨rfl,rfl⟩ rfl
abbrev f91z0 (x1:Int):=(decide (x1<(0:Int)))
def f91 (x1 x2:Int):Option (Bool×Int):=
 some (((decide (x1<(0:Int)))||(decide (x1≥x2))),x2)
theorem f91_ok (x1 x2:Int) (r:Bool×Int) (h:f91 x1 x2=some r):aF Tryd.prog 91 [] [2000] [(2000,.cells 3 [.int .i64 x2])] [.int .i64 x1,.ptr 2000 0] (.bool r.1) [(2000,.cells 3 [.int .i64 r.2])]:=by
 unfold f91 at h;refine aF.body 0 _ _ Tryd.func91 rfl Tryd.ntmps91 rfl rfl ?_;refine aM [] [] ⟨11,[(0,.i x1),(1,.ptr 2000 0)],[(2000,.cells 3 [.i x2])],[2000],0⟩ trivial ?_;refine AWp.seq ?_;have ob0:=idA (((f91z0 x1)==false)=true);have ob1:=idA (((f91z0 x1)==false)=true);have ob2:=bqA (f91z0 x1) false;refine aR [] [] ⟨11,[(3,.bool ((f91z0 x1)||(decide (x1≥x2))))],[(2000,.cells 3 [.i x2])],[2000],0⟩ (an2 (an2 ob0 ob1) ob2) ?_;refine tN ?_;have hret:=Option.some.inj h;subst hret;refine AWp.le (Le.mk (s':=⟨11,[(3,.bool ((f91z0 x1)||(decide (x1≥x2))))],[(2000,.cells 3 [.i x2])],[2000],0⟩) rfl rfl ⟨.refl _,trivial⟩ ⟨⟨_,rfl,.refl _⟩,trivial⟩) ?_;refine AWp.ret ?_;exact bR _ rfl ⟨rfl,rfl⟩ rfl
def gL (x1:List Int) (K1:Int→Option (Int×Int)):Nat→(Nat×Int)→Option (Int×Int)
 |0,_=>none
 |k+1,(n3,i4)=>
  if(decide ((n3:Int)<(((x1).length:Nat):Int)))then(
  (f91 (x1.getD n3 0) i4).bind fun(r5:Bool×Int)=>
  chk ((n3:Int)<(((x1).length:Nat):Int))<|
  if r5.1 then(
  some ((n3:Int),r5.2)
  )else(
  chk (((n3:Int)+(1:Int))≤9223372036854775807)<|
  (gL x1 K1 k) ((n3+1),r5.2)
  )
  )else(
  K1 i4
  )
abbrev sY (r5:Bool×Int):aG:=[(2000,.cells 3 [.int .i64 r5.2])]
def f89a (x1:List Int) (x2:Int):Option (Int×Int):=
 jn (fun(i6:Int)=>
 some ((-1:Int),i6)
 ) fun(K1:Int→Option (Int×Int))=>
 gL x1 K1 bG (0,x2)
theorem f89a_ok (x1:List Int) (x2:Int) (r:Int×Int) (h:f89a x1 x2=some r):aF Tryd.prog 89 [] [2000] [(2000,.cells 3 [.int .i64 x2])] [vL 1 eI 0 x1,.fn (.func 91) [.ptr 2000 0]] (.int .i64 r.1) [(2000,.cells 3 [.int .i64 r.2])]:=by
 unfold f89a at h;refine aF.body 0 _ _ Tryd.func89 rfl Tryd.ntmps89 rfl rfl ?_;refine aM [] [] ⟨19,[(0,aX x1),(1,.fn (.func 91) [.ptr 2000 0])],[(2000,.cells 3 [.i x2])],[2000],0⟩ trivial ?_;obtain⟨K1,hK1,h⟩:=aU h;refine AWp.join (α:=Int) (fun(i6:Int)=>⟨19,[],[(2000,.cells 3 [.i i6])],[2000],0⟩) (fun x=>K1 x=some r) ?_ ?_
 ·
  refine aM [] [] ⟨19,[(0,aX x1),(1,.fn (.func 91) [.ptr 2000 0]),(7,.i (lZ x1)),(8,.i (0:Int))],[(2000,.cells 3 [.i x2])],[2000],0⟩ trivial ?_;refine AWp.block ?_;refine AWp.loopL (α:=Nat×(Nat×Int)) (fun x=>match x with|(_,n3,i4)=>⟨19,[(0,aX x1),(1,.fn (.func 91) [.ptr 2000 0]),(7,.i (lZ x1)),(8,.i (n3:Int))],[(2000,.cells 3 [.i i4])],[2000],0⟩) (fun x=>gL x1 K1 x.1 x.2=some r) (fun x=>x.1) (bG,0,x2) (Le.mk (s':=⟨19,[(0,aX x1),(1,.fn (.func 91) [.ptr 2000 0]),(7,.i (lZ x1)),(8,.i (0:Int))],[(2000,.cells 3 [.i x2])],[2000],0⟩) rfl rfl ⟨.refl _,.refl _,.refl _,.refl _,trivial⟩ ⟨⟨_,rfl,.refl _⟩,trivial⟩) h ?_
  rintro⟨k0,n3,i4⟩ h
  cases k0 with
  |zero=>exact nomatch (show(none:Option (Int×Int))=some r from h)
  |succ k0=>
  obtain⟨C0,hC0⟩:∃C,C=gL x1 K1 k0:=⟨_,rfl⟩;replace h:=(gL.eq_2 ..).symm.trans h
  try rw[←hC0]at h
  refine aM [] [] ⟨19,[(0,aX x1),(1,.fn (.func 91) [.ptr 2000 0]),(7,.i (lZ x1)),(8,.i (n3:Int)),(9,.bool (decide ((n3:Int)<(lZ x1))))],[(2000,.cells 3 [.i i4])],[2000],0⟩ trivial ?_;refine AWp.seq ?_;refine AWp.cond (b:=(decide ((n3:Int)<(lZ x1)))) (by kernel_rfl) (fun hc1=> ?_) (fun hc1=> ?_)
  ·
   replace h:=aK hc1 h;refine AWp.skip (tN (AWp.seq (AWp.block ?_)));refine aM [] [] ⟨19,[(0,aX x1),(1,.fn (.func 91) [.ptr 2000 0]),(5,.i (n3:Int)),(7,.i (lZ x1)),(8,.i (n3:Int))],[(2000,.cells 3 [.i i4])],[2000],0⟩ trivial ?_;refine AWp.seq ?_;obtain⟨r5,hr5,h⟩:=bind_ok h;obtain⟨ob0p,h⟩:=aB h;have ob0:0≤(n3:Int)∧(n3:Int)<(((x1).length:Nat):Int):=⟨by omega,ob0p⟩;refine aR [] [(5,⟨[.i (x1.getD n3 0),.ptr 2000 0],[2000],[2000],(sY r5),.bool r5.1,[],[],[]⟩)] ⟨19,[(0,aX x1),(1,.fn (.func 91) [.ptr 2000 0]),(5,.i (n3:Int)),(7,.i (lZ x1)),(8,.i (n3:Int)),(16,.bool r5.1)],(sY r5),[2000],0⟩ (an2 ob0 (cpT (f91_ok _ _ _ hr5))) ?_;refine tN ?_;refine AWp.cond (b:=r5.1) (by kernel_rfl) (fun hc2=> ?_) (fun hc2=> ?_)
   ·
    replace h:=aK hc2 h;refine aM [] [] ⟨19,[(4,.i (n3:Int))],(sY r5),[2000],0⟩ trivial ?_;have hret:=Option.some.inj h;subst hret;refine AWp.le (Le.mk (s':=⟨19,[(4,.i (n3:Int))],(sY r5),[2000],0⟩) rfl rfl ⟨.refl _,trivial⟩ ⟨⟨_,rfl,.refl _⟩,trivial⟩) ?_;refine AWp.ret (kR (tR (tR (kR (aV ?_)))));exact bR _ rfl ⟨rfl,rfl⟩ rfl
   ·
    replace h:=aL hc2 h;refine AWp.skip (kN (tN ?_));obtain⟨ob1p,h⟩:=aB h;have ob1: -9223372036854775808≤((n3:Int)+(1:Int))∧((n3:Int)+(1:Int))≤9223372036854775807:=⟨by omega,ob1p⟩;refine aR [] [] ⟨19,[(0,aX x1),(1,.fn (.func 91) [.ptr 2000 0]),(7,.i (lZ x1)),(8,.i (((n3+1):Nat):Int))],(sY r5),[2000],0⟩ (an1 ob1) ?_;rw[hC0]at h;exact lN (_,(n3+1),r5.2) (Le.mk rfl rfl ⟨.refl _,.refl _,.refl _,.refl _,trivial⟩ ⟨⟨_,rfl,.refl _⟩,trivial⟩) h (Nat.lt_succ_self _)
  ·
   replace h:=aL hc1 h;refine AWp.exit (tE (tE (kS ?_)));exact jN (i4) (Le.mk rfl rfl trivial ⟨⟨_,rfl,.refl _⟩,trivial⟩) h
 ·
  rintro i6 h;replace h:=(congrFun hK1 _).symm.trans h;refine aM [] [] ⟨19,[(4,.i (-1:Int))],[(2000,.cells 3 [.i i6])],[2000],0⟩ trivial ?_;have hret:=Option.some.inj h;subst hret;refine AWp.le (Le.mk (s':=⟨19,[(4,.i (-1:Int))],[(2000,.cells 3 [.i i6])],[2000],0⟩) rfl rfl ⟨.refl _,trivial⟩ ⟨⟨_,rfl,.refl _⟩,trivial⟩) ?_;refine AWp.ret ?_;exact bR _ rfl ⟨rfl,rfl⟩ rfl
def f57a (x1:List Int) (x2:Int):Option (Bool×Int):=
 (f89a x1 x2).bind fun(r3:Int×Int)=>
 some ((decide (r3.1≥(0:Int))),r3.2)
theorem f57a_ok (x1:List Int) (x2:Int) (r:Bool×Int) (h:f57a x1 x2=some r):aF Tryd.prog 57 [] [2000] [(2000,.cells 3 [.int .i64 x2])] [vL 1 eI 0 x1,.fn (.func 91) [.ptr 2000 0]] (.bool r.1) [(2000,.cells 3 [.int .i64 r.2])]:=by
 unfold f57a at h;refine aF.body 0 _ _ Tryd.func57 rfl Tryd.ntmps57 rfl rfl ?_;refine aM [] [] ⟨9,[(0,aX x1),(1,.fn (.func 91) [.ptr 2000 0])],[(2000,.cells 3 [.i x2])],[2000],0⟩ trivial ?_;refine AWp.seq ?_;obtain⟨r3,hr3,h⟩:=bind_ok h;refine aR [] [(2,⟨[aX x1,.fn (.func 91) [.ptr 2000 0]],[2000],[2000],[(2000,.cells 3 [.i r3.2])],.i r3.1,[],[],[]⟩)] ⟨9,[(4,.bool (decide (r3.1≥(0:Int))))],[(2000,.cells 3 [.i r3.2])],[2000],0⟩ (an1 (cpT (f89a_ok _ _ _ hr3))) ?_;refine tN ?_;have hret:=Option.some.inj h;subst hret;refine AWp.le (Le.mk (s':=⟨9,[(4,.bool (decide (r3.1≥(0:Int))))],[(2000,.cells 3 [.i r3.2])],[2000],0⟩) rfl rfl ⟨.refl _,trivial⟩ ⟨⟨_,rfl,.refl _⟩,trivial⟩) ?_;refine AWp.ret ?_;exact bR _ rfl ⟨rfl,rfl⟩ rfl
abbrev f70z0 (x2 x3:Int):=(((decide (x2<(0:Int)))||(decide (x2≥(12:Int))))||(decide (x3<(0:Int))))
abbrev oE (x1 x2 x3:Int) (x4 x5:List Int) (x6:Int):aG:=[(2,.cells 67 [.int .i64 x1,.int .i64 x2,.int .i64 x3,vL 1 eI 0 x4,vL 1 eI 0 x5]),(3,.cells 3 [.int .i64 x6])]
abbrev zK (x2 x3:Int):=((f70z0 x2 x3)||(decide (x3>(100000:Int))))
abbrev f70z3 (x2:Int):=((decide (x2<(0:Int)))||(decide (x2≥(12:Int))))
abbrev zJ :List (Nat×V):=[(4,.int .i64 (1:Int))]
abbrev f70z5 (x3:Int):=((x3 !=(0:Int))==false)
abbrev f70z6 (x2:Int):=((decide (x2<(0:Int)))==false)
def f70 (x1 x2 x3:Int) (x4 x5:List Int) (x6:Int):Option Int:=
 jn (fun(_:Unit)=>
 rI (((((decide (x2<(0:Int)))||(decide (x2≥(12:Int))))||(decide (x3<(0:Int))))||(decide (x3>(100000:Int))))==false) (f57 x4) fun(r7:Bool)=>
 if(((((decide (x2<(0:Int)))||(decide (x2≥(12:Int))))||(decide (x3<(0:Int))))||(decide (x3>(100000:Int))))||r7)then(
 some (7:Int)
 )else(
 if((decide ((((x4).length:Nat):Int)>(0:Int)))&&((((x4).length:Nat):Int) !=(((x5).length:Nat):Int)))then(
 some (6:Int)
 )else(
 (f57a x5 x6).bind fun(r8:Bool×Int)=>
 if r8.1 then(
 some (4:Int)
 )else(
 some (0:Int)
 )
 )
 )
 ) fun(K1:Unit→Option Int)=>
 if(x1==(1:Int))then(
 if(((x3 !=(0:Int))||(decide ((((x4).length:Nat):Int)>(0:Int))))||(decide ((((x5).length:Nat):Int)>(0:Int))))then(
 some (1:Int)
 )else(
 K1 ()
 )
 )else(
 if(x1==(2:Int))then(
 if(x2 !=(0:Int))then(
 some (1:Int)
 )else(
 K1 ()
 )
 )else(
 some (1:Int)
 )
 )
theorem f70_ok (x1 x2 x3:Int) (x4 x5:List Int) (x6 r:Int) (h:f70 x1 x2 x3 x4 x5 x6=some r):aF Tryd.prog 70 [] [] [] [.agg [.int .i64 x1,.int .i64 x2,.int .i64 x3,vL 1 eI 0 x4,vL 1 eI 0 x5],.int .i64 x6] (.int .i64 r) []:=by
 unfold f70 at h;refine aF.body 0 _ _ Tryd.func70 rfl Tryd.ntmps70 rfl rfl ?_;refine aM [] [] ⟨76,[(2,.ptr 2 0),(3,.ptr 3 0)],(oE x1 x2 x3 x4 x5 x6),[],0⟩ trivial ?_;obtain⟨K1,hK1,h⟩:=aU h;refine AWp.join (α:=Unit) (fun(x:Unit)=>match x with|()=>⟨76,[(2,.ptr 2 0),(3,.ptr 3 0)],(oE x1 x2 x3 x4 x5 x6),[],0⟩) (fun x=>K1 x=some r) ?_ ?_
 ·
  refine aM [] [] ⟨76,[(2,.ptr 2 0),(3,.ptr 3 0),(8,.i x1)],(oE x1 x2 x3 x4 x5 x6),[],0⟩ trivial ?_;refine AWp.block ?_;refine aM [] [] ⟨76,[(2,.ptr 2 0),(3,.ptr 3 0),(8,.i x1),(9,.bool (x1==(1:Int)))],(oE x1 x2 x3 x4 x5 x6),[],0⟩ trivial ?_;refine AWp.cond (b:=(x1==(1:Int))) (by kernel_rfl) (fun hc1=> ?_) (fun hc1=> ?_)
  ·
   replace h:=aK hc1 h;refine AWp.seq ?_;have ob0:=idA ((f70z5 x3)=true);have ob1:=idA ((f70z5 x3)=true);have ob2:=idA ((f70z5 x3)=true);have ob3:true=true→(x3 !=(0:Int))=false→(f70z5 x3)=true:=fun _ h=>beq_iff_eq.2 h;have ob4:=idA ((((x3 !=(0:Int))||(decide ((lZ x4)>(0:Int))))==false)=true);have ob5:=idA ((((x3 !=(0:Int))||(decide ((lZ x4)>(0:Int))))==false)=true);have ob6:=idA ((((x3 !=(0:Int))||(decide ((lZ x4)>(0:Int))))==false)=true);have ob7:=bqA ((x3 !=(0:Int))||(decide ((lZ x4)>(0:Int)))) false;refine aR [] [] ⟨76,[(2,.ptr 2 0),(3,.ptr 3 0),(25,.bool (((x3 !=(0:Int))||(decide ((lZ x4)>(0:Int))))||(decide ((lZ x5)>(0:Int)))))],(oE x1 x2 x3 x4 x5 x6),[],0⟩ (ac6 (an1 ob0) (an1 ob1) (an1 ob2) ob3 (an1 ob4) (an1 ob5) (an2 (an1 ob6) ob7)) ?_;refine tN ?_;refine AWp.cond (b:=(((x3 !=(0:Int))||(decide ((lZ x4)>(0:Int))))||(decide ((lZ x5)>(0:Int))))) (by kernel_rfl) (fun hc2=> ?_) (fun hc2=> ?_)
   ·
    replace h:=aK hc2 h;refine aM [] [] ⟨76,(zJ),[],[],0⟩ trivial ?_;have hret:=Option.some.inj h;subst hret;refine AWp.le (Le.mk (s':=⟨76,(zJ),[],[],0⟩) rfl rfl ⟨.refl _,trivial⟩ trivial) ?_;refine AWp.ret (kR (aV ?_));exact bR _ rfl ⟨rfl,rfl⟩ rfl
   ·
    replace h:=aL hc2 h;refine AWp.skip (kN ?_);exact jN () (Le.mk rfl rfl ⟨.refl _,.refl _,trivial⟩ ⟨⟨_,rfl,.refl _⟩,⟨_,rfl,.refl _⟩,trivial⟩) h
  ·
   replace h:=aL hc1 h;refine aM [] [] ⟨76,[(2,.ptr 2 0),(3,.ptr 3 0),(26,.bool (x1==(2:Int)))],(oE x1 x2 x3 x4 x5 x6),[],0⟩ trivial ?_;refine AWp.cond (b:=(x1==(2:Int))) (by kernel_rfl) (fun hc3=> ?_) (fun hc3=> ?_)
   ·
    replace h:=aK hc3 h;refine aM [] [] ⟨76,[(2,.ptr 2 0),(3,.ptr 3 0),(30,.bool (x2 !=(0:Int)))],(oE x1 x2 x3 x4 x5 x6),[],0⟩ trivial ?_;refine AWp.cond (b:=(x2 !=(0:Int))) (by kernel_rfl) (fun hc4=> ?_) (fun hc4=> ?_)
    ·
     replace h:=aK hc4 h;refine aM [] [] ⟨76,(zJ),[],[],0⟩ trivial ?_;have hret:=Option.some.inj h;subst hret;refine AWp.le (Le.mk (s':=⟨76,(zJ),[],[],0⟩) rfl rfl ⟨.refl _,trivial⟩ trivial) ?_;refine AWp.ret (kR (aV ?_));exact bR _ rfl ⟨rfl,rfl⟩ rfl
    ·
     replace h:=aL hc4 h;refine AWp.skip (kN ?_);exact jN () (Le.mk rfl rfl ⟨.refl _,.refl _,trivial⟩ ⟨⟨_,rfl,.refl _⟩,⟨_,rfl,.refl _⟩,trivial⟩) h
   ·
    replace h:=aL hc3 h;refine aM [] [] ⟨76,(zJ),[],[],0⟩ trivial ?_;have hret:=Option.some.inj h;subst hret;refine AWp.le (Le.mk (s':=⟨76,(zJ),[],[],0⟩) rfl rfl ⟨.refl _,trivial⟩ trivial) ?_;refine AWp.ret (kR (aV ?_));exact bR _ rfl ⟨rfl,rfl⟩ rfl
 ·
  rintro⟨⟩ h;replace h:=(congrFun hK1 _).symm.trans h;refine aM [] [] ⟨76,[(2,.ptr 2 0),(3,.ptr 3 0),(5,.fn (.func 90) [])],(oE x1 x2 x3 x4 x5 x6),[],0⟩ trivial ?_;refine aM [] [] ⟨76,[(2,.ptr 2 0),(5,.fn (.func 90) []),(6,.fn (.func 91) [.ptr 3 0])],(oE x1 x2 x3 x4 x5 x6),[],0⟩ trivial ?_;refine AWp.seq (AWp.block (AWp.seq ?_));obtain⟨r7,hr7,h⟩:=cP h;have ob8:=idA ((f70z6 x2)=true);have ob9:=idA ((f70z6 x2)=true);have ob10:true=true→(decide (x2<(0:Int)))=false→(f70z6 x2)=true:=fun _ h=>beq_iff_eq.2 h;have ob11:=idA (((f70z3 x2)==false)=true);have ob12:=idA (((f70z3 x2)==false)=true);have ob13:=bqA (f70z3 x2) false;have ob14:=idA (((f70z0 x2 x3)==false)=true);have ob15:=idA (((f70z0 x2 x3)==false)=true);have ob16:=bqA (f70z0 x2 x3) false;have ob17:=idA (((zK x2 x3)==false)=true);have ob18:=idA (((zK x2 x3)==false)=true);have ob19:=idA (((zK x2 x3)==false)=true);have ob20:=bqA (zK x2 x3) false;refine aR [] [(22,⟨[aX x4,.fn (.func 90) []],[],[],[],.bool r7,[],[],[]⟩)] ⟨76,[(2,.ptr 2 0),(6,.fn (.func 91) [.ptr 3 0]),(32,.bool ((zK x2 x3)||r7))],(oE x1 x2 x3 x4 x5 x6),[],0⟩ (ac6 (an1 ob8) (an1 ob9) ob10 (an1 ob11) (an1 ob12) ob13 (an6 (an1 ob14) (an1 ob15) ob16 (an1 ob17) (And.intro (cpC fun hc=>(f57_ok _ _ (hr7 hc))) (an2 ob18 ob19)) ob20)) ?_;refine tN ?_;refine AWp.cond (b:=((zK x2 x3)||r7)) (by kernel_rfl) (fun hc5=> ?_) (fun hc5=> ?_)
  ·
   replace h:=aK hc5 h;refine aM [] [] ⟨76,[(4,.i (7:Int))],[],[],0⟩ trivial ?_;have hret:=Option.some.inj h;subst hret;refine AWp.le (Le.mk (s':=⟨76,[(4,.i (7:Int))],[],[],0⟩) rfl rfl ⟨.refl _,trivial⟩ trivial) ?_;refine AWp.ret (kR (tR ?_));exact bR _ rfl ⟨rfl,rfl⟩ rfl
  ·
   replace h:=aL hc5 h;refine AWp.seq ?_;have ob21:=idA (((decide ((lZ x4)>(0:Int)))==true)=true);have ob22:=idA (((decide ((lZ x4)>(0:Int)))==true)=true);have ob23:=idA (((decide ((lZ x4)>(0:Int)))==true)=true);have ob24:=idA (((decide ((lZ x4)>(0:Int)))==true)=true);have ob25:=idA (((decide ((lZ x4)>(0:Int)))==true)=true);have ob26:=idA (((decide ((lZ x4)>(0:Int)))==true)=true);have ob27:=bqA (decide ((lZ x4)>(0:Int))) true;refine aR [] [] ⟨76,[(2,.ptr 2 0),(6,.fn (.func 91) [.ptr 3 0]),(57,.bool ((decide ((lZ x4)>(0:Int)))&&((lZ x4) !=(lZ x5))))],(oE x1 x2 x3 x4 x5 x6),[],0⟩ (an6 (an1 ob21) (an1 ob22) (an1 ob23) (an1 ob24) (an2 ob25 ob26) ob27) ?_;refine tN ?_;refine AWp.cond (b:=((decide ((lZ x4)>(0:Int)))&&((lZ x4) !=(lZ x5)))) (by kernel_rfl) (fun hc6=> ?_) (fun hc6=> ?_)
   ·
    replace h:=aK hc6 h;refine aM [] [] ⟨76,[(4,.i (6:Int))],[],[],0⟩ trivial ?_;have hret:=Option.some.inj h;subst hret;refine AWp.le (Le.mk (s':=⟨76,[(4,.i (6:Int))],[],[],0⟩) rfl rfl ⟨.refl _,trivial⟩ trivial) ?_;refine AWp.ret (kR (tR ?_));exact bR _ rfl ⟨rfl,rfl⟩ rfl
   ·
    replace h:=aL hc6 h;refine AWp.seq ?_;obtain⟨r8,hr8,h⟩:=bind_ok h;refine aR [] [(3,⟨[aX x5,.fn (.func 91) [.ptr 3 0]],[3],[3],[(3,.cells 3 [.i r8.2])],.bool r8.1,[],[],[]⟩)] ⟨76,[(71,.bool r8.1)],[],[],0⟩ (an1 (cpT (aF.ren (aW 2000 3) (aE 2000 3) rfl (f57a_ok _ _ _ hr8)))) ?_;refine tN ?_;refine AWp.cond (b:=r8.1) (by kernel_rfl) (fun hc7=> ?_) (fun hc7=> ?_)
    ·
     replace h:=aK hc7 h;refine aM [] [] ⟨76,[(4,.i (4:Int))],[],[],0⟩ trivial ?_;have hret:=Option.some.inj h;subst hret;refine AWp.le (Le.mk (s':=⟨76,[(4,.i (4:Int))],[],[],0⟩) rfl rfl ⟨.refl _,trivial⟩ trivial) ?_;refine AWp.ret (kR (tR ?_));exact bR _ rfl ⟨rfl,rfl⟩ rfl
    ·
     replace h:=aL hc7 h;refine AWp.skip (kN (tN ?_));refine aM [] [] ⟨76,[(4,.i (0:Int))],[],[],0⟩ trivial ?_;have hret:=Option.some.inj h;subst hret;refine AWp.le (Le.mk (s':=⟨76,[(4,.i (0:Int))],[],[],0⟩) rfl rfl ⟨.refl _,trivial⟩ trivial) ?_;refine AWp.ret ?_;exact bR _ rfl ⟨rfl,rfl⟩ rfl
def lO (x1:List Ty0) (K1:Unit→Option Int):Nat→Nat→Option Int
 |0,_=>none
 |k+1,n3=>
  if(decide ((n3:Int)<(((x1).length:Nat):Int)))then(
  chk ((n3:Int)<(((x1).length:Nat):Int))<|
  (f70 ((x1.getD n3 (default:Int×Int×Int×List Int×List Int)).1) ((x1.getD n3 (default:Int×Int×Int×List Int×List Int)).2.1) ((x1.getD n3 (default:Int×Int×Int×List Int×List Int)).2.2.1) ((x1.getD n3 (default:Int×Int×Int×List Int×List Int)).2.2.2.1) ((x1.getD n3 (default:Int×Int×Int×List Int×List Int)).2.2.2.2) (n3:Int)).bind fun(r4:Int)=>
  if(r4 !=(0:Int))then(
  some r4
  )else(
  chk (((n3:Int)+(1:Int))≤9223372036854775807)<|
  (lO x1 K1 k) (n3+1)
  )
  )else(
  K1 ()
  )
abbrev oH (x1:List Ty0) (x2:Int):aG:=[(1,.cells 28 [vL 5 bY (default:Int×Int×Int×List Int×List Int) x1,.int .i64 x2])]
abbrev oU (x1:List Ty0) (n3:Nat):=(x1.getD n3 (default:Int×Int×Int×List Int×List Int))
abbrev zP (x2:Int):=((decide (x2<(0:Int)))==false)
def f27 (x1:List Ty0) (x2:Int):Option Int:=
 if((((x1).length:Nat):Int)==(0:Int))then(
 some (9:Int)
 )else(
 if(decide ((((x1).length:Nat):Int)>(60:Int)))then(
 some (3:Int)
 )else(
 jn (fun(_:Unit)=>
 if((decide (x2<(0:Int)))||(decide (x2≥(((x1).length:Nat):Int))))then(
 some (4:Int)
 )else(
 some (0:Int)
 )
 ) fun(K1:Unit→Option Int)=>
 lO x1 K1 bG 0
 )
 )
theorem xT (x1:List Ty0) (x2 r:Int) (h:f27 x1 x2=some r):aF Tryd.prog 27 [] [] [] [.agg [vL 5 bY (default:Int×Int×Int×List Int×List Int) x1,.int .i64 x2]] (.int .i64 r) []:=by
 unfold f27 at h;refine aF.body 0 _ _ Tryd.func27 rfl Tryd.ntmps27 rfl rfl ?_;refine aM [] [] ⟨40,[(1,.ptr 1 0)],(oH x1 x2),[],0⟩ trivial ?_;refine AWp.seq ?_;refine aM [] [] ⟨40,[(1,.ptr 1 0),(9,.bool ((lZ x1)==(0:Int)))],(oH x1 x2),[],0⟩ trivial ?_;refine AWp.cond (b:=((lZ x1)==(0:Int))) (by kernel_rfl) (fun hc1=> ?_) (fun hc1=> ?_)
 ·
  replace h:=aK hc1 h;refine aM [] [] ⟨40,[(2,.i (9:Int))],[],[],0⟩ trivial ?_;have hret:=Option.some.inj h;subst hret;refine AWp.le (Le.mk (s':=⟨40,[(2,.i (9:Int))],[],[],0⟩) rfl rfl ⟨.refl _,trivial⟩ trivial) ?_;refine AWp.ret (tR ?_);exact bR _ rfl ⟨rfl,rfl⟩ rfl
 ·
  replace h:=aL hc1 h;refine AWp.skip (tN (AWp.seq ?_));refine aM [] [] ⟨40,[(1,.ptr 1 0),(13,.bool (decide ((lZ x1)>(60:Int))))],(oH x1 x2),[],0⟩ trivial ?_;refine AWp.cond (b:=(decide ((lZ x1)>(60:Int)))) (by kernel_rfl) (fun hc2=> ?_) (fun hc2=> ?_)
  ·
   replace h:=aK hc2 h;refine aM [] [] ⟨40,[(2,.i (3:Int))],[],[],0⟩ trivial ?_;have hret:=Option.some.inj h;subst hret;refine AWp.le (Le.mk (s':=⟨40,[(2,.i (3:Int))],[],[],0⟩) rfl rfl ⟨.refl _,trivial⟩ trivial) ?_;refine AWp.ret (tR ?_);exact bR _ rfl ⟨rfl,rfl⟩ rfl
  ·
   replace h:=aL hc2 h;refine AWp.skip (tN ?_);obtain⟨K1,hK1,h⟩:=aU h;refine AWp.join (α:=Unit) (fun(x:Unit)=>match x with|()=>⟨40,[(1,.ptr 1 0)],(oH x1 x2),[],0⟩) (fun x=>K1 x=some r) ?_ ?_
   ·
    refine aM [] [] ⟨40,[(1,.ptr 1 0),(15,aO x1),(16,.i (lZ x1)),(17,.i (0:Int))],(oH x1 x2),[],0⟩ trivial ?_;refine AWp.block ?_;refine AWp.loopL (α:=Nat×Nat) (fun x=>match x with|(_,n3)=>⟨40,[(1,.ptr 1 0),(15,aO x1),(16,.i (lZ x1)),(17,.i (n3:Int))],(oH x1 x2),[],0⟩) (fun x=>lO x1 K1 x.1 x.2=some r) (fun x=>x.1) (bG,0) (Le.mk (s':=⟨40,[(1,.ptr 1 0),(15,aO x1),(16,.i (lZ x1)),(17,.i (0:Int))],(oH x1 x2),[],0⟩) rfl rfl ⟨.refl _,.refl _,.refl _,.refl _,trivial⟩ ⟨⟨_,rfl,.refl _⟩,trivial⟩) h ?_
    rintro⟨k0,n3⟩ h
    cases k0 with
    |zero=>exact nomatch (show(none:Option Int)=some r from h)
    |succ k0=>
    obtain⟨C0,hC0⟩:∃C,C=lO x1 K1 k0:=⟨_,rfl⟩;replace h:=(lO.eq_2 ..).symm.trans h
    try rw[←hC0]at h
    refine aM [] [] ⟨40,[(1,.ptr 1 0),(15,aO x1),(16,.i (lZ x1)),(17,.i (n3:Int)),(18,.bool (decide ((n3:Int)<(lZ x1))))],(oH x1 x2),[],0⟩ trivial ?_;refine AWp.seq ?_;refine AWp.cond (b:=(decide ((n3:Int)<(lZ x1)))) (by kernel_rfl) (fun hc3=> ?_) (fun hc3=> ?_)
    ·
     replace h:=aK hc3 h;refine AWp.skip (tN (AWp.seq (AWp.block (AWp.seq ?_))));obtain⟨ob0p,h⟩:=aB h;have ob0:0≤(n3:Int)∧(n3:Int)<(((x1).length:Nat):Int):=⟨by omega,ob0p⟩;refine aR [] [] ⟨40,[(1,.ptr 1 0),(3,.i (n3:Int)),(4,.ptr 4 0),(15,aO x1),(16,.i (lZ x1)),(17,.i (n3:Int))],[(1,.cells 28 [aO x1,.i x2]),(4,.cells 67 [.i (oU x1 n3).1,.i (oU x1 n3).2.1,.i (oU x1 n3).2.2.1,aX (oU x1 n3).2.2.2.1,aX (oU x1 n3).2.2.2.2])],[],0⟩ (an2 ob0 trivial) ?_;refine tN (AWp.seq ?_);obtain⟨r4,hr4,h⟩:=bind_ok h;refine aR [] [(2,⟨[.agg [.i (oU x1 n3).1,.i (oU x1 n3).2.1,.i (oU x1 n3).2.2.1,aX (oU x1 n3).2.2.2.1,aX (oU x1 n3).2.2.2.2],.i (n3:Int)],[],[],[],.i r4,[],[],[]⟩)] ⟨40,[(1,.ptr 1 0),(5,.i r4),(15,aO x1),(16,.i (lZ x1)),(17,.i (n3:Int))],(oH x1 x2),[],0⟩ (an1 (cpT (f70_ok _ _ _ _ _ _ _ hr4))) ?_;refine tN ?_;refine aM [] [] ⟨40,[(1,.ptr 1 0),(5,.i r4),(15,aO x1),(16,.i (lZ x1)),(17,.i (n3:Int)),(26,.bool (r4 !=(0:Int)))],(oH x1 x2),[],0⟩ trivial ?_;refine AWp.cond (b:=(r4 !=(0:Int))) (by kernel_rfl) (fun hc4=> ?_) (fun hc4=> ?_)
     ·
      replace h:=aK hc4 h;refine aM [] [] ⟨40,[(2,.i r4)],[],[],0⟩ trivial ?_;have hret:=Option.some.inj h;subst hret;refine AWp.le (Le.mk (s':=⟨40,[(2,.i r4)],[],[],0⟩) rfl rfl ⟨.refl _,trivial⟩ trivial) ?_;refine AWp.ret (kR (tR (tR (kR (aV ?_)))));exact bR _ rfl ⟨rfl,rfl⟩ rfl
     ·
      replace h:=aL hc4 h;refine AWp.skip (kN (tN ?_));obtain⟨ob1p,h⟩:=aB h;have ob1: -9223372036854775808≤((n3:Int)+(1:Int))∧((n3:Int)+(1:Int))≤9223372036854775807:=⟨by omega,ob1p⟩;refine aR [] [] ⟨40,[(1,.ptr 1 0),(15,aO x1),(16,.i (lZ x1)),(17,.i (((n3+1):Nat):Int))],(oH x1 x2),[],0⟩ (an1 ob1) ?_;rw[hC0]at h;exact lN (_,(n3+1)) (Le.mk rfl rfl ⟨.refl _,.refl _,.refl _,.refl _,trivial⟩ ⟨⟨_,rfl,.refl _⟩,trivial⟩) h (Nat.lt_succ_self _)
    ·
     replace h:=aL hc3 h;refine AWp.exit (tE (tE (kS ?_)));exact jN () (Le.mk rfl rfl ⟨.refl _,trivial⟩ ⟨⟨_,rfl,.refl _⟩,trivial⟩) h
   ·
    rintro⟨⟩ h;replace h:=(congrFun hK1 _).symm.trans h;refine AWp.seq (AWp.seq ?_);have ob2:=idA ((zP x2)=true);have ob3:=idA ((zP x2)=true);have ob4:=idA ((zP x2)=true);have ob5:=idA ((zP x2)=true);have ob6:=idA ((zP x2)=true);have ob7:true=true→(decide (x2<(0:Int)))=false→(zP x2)=true:=fun _ h=>beq_iff_eq.2 h;refine aR [] [] ⟨40,[(39,.bool ((decide (x2<(0:Int)))||(decide (x2≥(lZ x1)))))],[],[],0⟩ (an5 (an1 ob2) (an1 ob3) (an1 ob4) (an2 ob5 ob6) ob7) ?_;refine tN ?_;refine AWp.cond (b:=((decide (x2<(0:Int)))||(decide (x2≥(lZ x1))))) (by kernel_rfl) (fun hc5=> ?_) (fun hc5=> ?_)
    ·
     replace h:=aK hc5 h;refine aM [] [] ⟨40,[(2,.i (4:Int))],[],[],0⟩ trivial ?_;have hret:=Option.some.inj h;subst hret;refine AWp.le (Le.mk (s':=⟨40,[(2,.i (4:Int))],[],[],0⟩) rfl rfl ⟨.refl _,trivial⟩ trivial) ?_;refine AWp.ret (tR ?_);exact bR _ rfl ⟨rfl,rfl⟩ rfl
    ·
     replace h:=aL hc5 h;refine AWp.skip (tN ?_);refine aM [] [] ⟨40,[(2,.i (0:Int))],[],[],0⟩ trivial ?_;have hret:=Option.some.inj h;subst hret;refine AWp.le (Le.mk (s':=⟨40,[(2,.i (0:Int))],[],[],0⟩) rfl rfl ⟨.refl _,trivial⟩ trivial) ?_;refine AWp.ret ?_;exact bR _ rfl ⟨rfl,rfl⟩ rfl
def lM (x1:List Ty0) (K1:(BitVec 16)→Option (BitVec 16)):Nat→(BitVec 16×Nat)→Option (BitVec 16)
 |0,_=>none
 |k+1,(w3,n4)=>
  if(decide ((n4:Int)<(((x1).length:Nat):Int)))then(
  jn (fun(w5:BitVec 16)=>
  chk (((n4:Int)+(1:Int))≤9223372036854775807)<|
  (lM x1 K1 k) (w5,(n4+1))
  ) fun(K2:(BitVec 16)→Option (BitVec 16))=>
  chk ((n4:Int)<(((x1).length:Nat):Int))<|
  if((x1.getD n4 (default:Int×Int×Int×List Int×List Int)).1==(1:Int))then(
  chk (0≤(x1.getD n4 (default:Int×Int×Int×List Int×List Int)).2.1)<|
  K2 (w3|||((BitVec.ofInt 16 1)<<<(((x1.getD n4 (default:Int×Int×Int×List Int×List Int)).2.1).toNat)))
  )else(
  K2 w3
  )
  )else(
  K1 w3
  )
abbrev jT (x1:List Ty0) (n4:Nat):=(x1.getD n4 (default:Int×Int×Int×List Int×List Int))
def f29 (x1:List Ty0) (x2:Int):Option (BitVec 16):=
 jn (fun(w6:BitVec 16)=>
 some w6
 ) fun(K1:(BitVec 16)→Option (BitVec 16))=>
 lM x1 K1 bG ((BitVec.ofInt 16 0),0)
theorem f29_ok (x1:List Ty0) (x2:Int) (r:BitVec 16) (h:f29 x1 x2=some r):aF Tryd.prog 29 [] [] [] [.agg [vL 5 bY (default:Int×Int×Int×List Int×List Int) x1,.int .i64 x2]] (.b16 r) []:=by
 unfold f29 at h;refine aF.body 0 _ _ Tryd.func29 rfl Tryd.ntmps29 rfl rfl ?_;refine aM [] [] ⟨23,[(1,.ptr 1 0)],[(1,.cells 28 [aO x1,.i x2])],[],0⟩ trivial ?_;refine aM [] [] ⟨23,[(1,.ptr 1 0),(3,.b16 (bD 0))],[(1,.cells 28 [aO x1,.i x2])],[],0⟩ trivial ?_;obtain⟨K1,hK1,h⟩:=aU h;refine AWp.join (α:=BitVec 16) (fun(w6:BitVec 16)=>⟨23,[(3,.b16 w6)],[],[],0⟩) (fun x=>K1 x=some r) ?_ ?_
 ·
  refine aM [] [] ⟨23,[(3,.b16 (bD 0)),(7,aO x1),(8,.i (lZ x1)),(9,.i (0:Int))],[],[],0⟩ trivial ?_;refine AWp.block ?_;refine AWp.loopL (α:=Nat×(BitVec 16×Nat)) (fun x=>match x with|(_,w3,n4)=>⟨23,[(3,.b16 w3),(7,aO x1),(8,.i (lZ x1)),(9,.i (n4:Int))],[],[],0⟩) (fun x=>lM x1 K1 x.1 x.2=some r) (fun x=>x.1) (bG,(bD 0),0) (Le.mk (s':=⟨23,[(3,.b16 (bD 0)),(7,aO x1),(8,.i (lZ x1)),(9,.i (0:Int))],[],[],0⟩) rfl rfl ⟨.refl _,.refl _,.refl _,.refl _,trivial⟩ trivial) h ?_
  rintro⟨k0,w3,n4⟩ h
  cases k0 with
  |zero=>exact nomatch (show(none:Option (BitVec 16))=some r from h)
  |succ k0=>
  obtain⟨C0,hC0⟩:∃C,C=lM x1 K1 k0:=⟨_,rfl⟩;replace h:=(lM.eq_2 ..).symm.trans h
  try rw[←hC0]at h
  refine aM [] [] ⟨23,[(3,.b16 w3),(7,aO x1),(8,.i (lZ x1)),(9,.i (n4:Int)),(10,.bool (decide ((n4:Int)<(lZ x1))))],[],[],0⟩ trivial ?_;refine AWp.seq ?_;refine AWp.cond (b:=(decide ((n4:Int)<(lZ x1)))) (by kernel_rfl) (fun hc1=> ?_) (fun hc1=> ?_)
  ·
   replace h:=aK hc1 h;refine AWp.skip (tN ?_);obtain⟨K2,hK2,h⟩:=aU h;refine AWp.join (α:=BitVec 16) (fun(w5:BitVec 16)=>⟨23,[(3,.b16 w5),(7,aO x1),(8,.i (lZ x1)),(9,.i (n4:Int))],[],[],0⟩) (fun x=>K2 x=some r) ?_ ?_
   ·
    refine AWp.block (AWp.seq ?_);obtain⟨ob0p,h⟩:=aB h;have ob0:0≤(n4:Int)∧(n4:Int)<(((x1).length:Nat):Int):=⟨by omega,ob0p⟩;refine aR [] [] ⟨23,[(3,.b16 w3),(5,.ptr 5 0),(7,aO x1),(8,.i (lZ x1)),(9,.i (n4:Int))],[(5,.cells 67 [.i (jT x1 n4).1,.i (jT x1 n4).2.1,.i (jT x1 n4).2.2.1,aX (jT x1 n4).2.2.2.1,aX (jT x1 n4).2.2.2.2])],[],0⟩ (an2 ob0 trivial) ?_;refine tN ?_;refine aM [] [] ⟨23,[(3,.b16 w3),(5,.ptr 5 0),(7,aO x1),(8,.i (lZ x1)),(9,.i (n4:Int)),(15,.bool ((jT x1 n4).1==(1:Int)))],[(5,.cells 67 [.i (jT x1 n4).1,.i (jT x1 n4).2.1,.i (jT x1 n4).2.2.1,aX (jT x1 n4).2.2.2.1,aX (jT x1 n4).2.2.2.2])],[],0⟩ trivial ?_;refine AWp.cond (b:=((jT x1 n4).1==(1:Int))) (by kernel_rfl) (fun hc2=> ?_) (fun hc2=> ?_)
    ·
     replace h:=aK hc2 h;obtain⟨ob1,h⟩:=aB h;refine aR [] [] ⟨23,[(3,.b16 (w3|||((bD 1)<<<(((jT x1 n4).2.1).toNat)))),(7,aO x1),(8,.i (lZ x1)),(9,.i (n4:Int))],[],[],0⟩ (an1 ob1) ?_;refine kN ?_;exact jN ((w3|||((bD 1)<<<(((jT x1 n4).2.1).toNat)))) (Le.mk rfl rfl ⟨.refl _,.refl _,.refl _,.refl _,trivial⟩ trivial) h
    ·
     replace h:=aL hc2 h;refine AWp.skip (kN ?_);exact jN (w3) (Le.mk rfl rfl ⟨.refl _,.refl _,.refl _,.refl _,trivial⟩ trivial) h
   ·
    rintro w5 h;replace h:=(congrFun hK2 _).symm.trans h;obtain⟨ob2p,h⟩:=aB h;have ob2: -9223372036854775808≤((n4:Int)+(1:Int))∧((n4:Int)+(1:Int))≤9223372036854775807:=⟨by omega,ob2p⟩;refine aR [] [] ⟨23,[(3,.b16 w5),(7,aO x1),(8,.i (lZ x1)),(9,.i (((n4+1):Nat):Int))],[],[],0⟩ (an1 ob2) ?_;rw[hC0]at h;exact lN (_,w5,(n4+1)) (Le.mk rfl rfl ⟨.refl _,.refl _,.refl _,.refl _,trivial⟩ trivial) h (Nat.lt_succ_self _)
  ·
   replace h:=aL hc1 h;refine AWp.exit (tE (tE (kS ?_)));exact jN (w3) (Le.mk rfl rfl ⟨.refl _,trivial⟩ trivial) h
 ·
  rintro w6 h;replace h:=(congrFun hK1 _).symm.trans h;refine aM [] [] ⟨23,[(2,.b16 w6)],[],[],0⟩ trivial ?_;have hret:=Option.some.inj h;subst hret;refine AWp.le (Le.mk (s':=⟨23,[(2,.b16 w6)],[],[],0⟩) rfl rfl ⟨.refl _,trivial⟩ trivial) ?_;refine AWp.ret ?_;exact bR _ rfl ⟨rfl,rfl⟩ rfl
def f28 (x1:BitVec 16):Option (BitVec 16):=
 some x1
theorem f28_ok (x1 r:BitVec 16) (h:f28 x1=some r):aF Tryd.prog 28 [] [] [] [.b16 x1] (.fn (.func 71) [.ptr 3500 0]) [(3500,.cells 49 [.b16 r])]:=by
 unfold f28 at h;refine aF.body 0 _ _ Tryd.func28 rfl Tryd.ntmps28 rfl rfl ?_;refine aM [] [] ⟨4,[(1,.ptr 1 0)],[(1,.cells 49 [.b16 x1])],[],0⟩ trivial ?_;refine aM [] [] ⟨4,[(2,.fn (.func 71) [.ptr 1 0])],[(1,.cells 49 [.b16 x1])],[],0⟩ trivial ?_;refine AWp.le (Le.trans (Le.ren (aW 1 3500) (aE 1 3500) rfl) (Le.mk (s':=⟨4,[(2,.fn (.func 71) [.ptr 3500 0])],[(3500,.cells 49 [.b16 x1])],[],0⟩) rfl rfl ⟨.refl _,trivial⟩ ⟨⟨_,rfl,.refl _⟩,trivial⟩)) ?_;have hret:=Option.some.inj h;subst hret;refine AWp.le (Le.mk (s':=⟨4,[(2,.fn (.func 71) [.ptr 3500 0])],[(3500,.cells 49 [.b16 x1])],[],0⟩) rfl rfl ⟨.refl _,trivial⟩ ⟨⟨_,rfl,.refl _⟩,trivial⟩) ?_;refine AWp.ret ?_;exact bR _ rfl ⟨rfl,rfl⟩ rfl
def f36 (x1 x2 x3:Int) (x4 x5:List Int) (x6:Int):Option Int:=
 if((((x4).length:Nat):Int)==(0:Int))then(
 some (1:Int)
 )else(
 chk (0≤x6∧x6<(((x4).length:Nat):Int))<|
 some (x4.getD ((x6).toNat) 0)
 )
theorem f36_ok (x1 x2 x3:Int) (x4 x5:List Int) (x6 r:Int) (h:f36 x1 x2 x3 x4 x5 x6=some r):aF Tryd.prog 36 [] [] [] [.agg [.int .i64 x1,.int .i64 x2,.int .i64 x3,vL 1 eI 0 x4,vL 1 eI 0 x5],.int .i64 x6] (.int .i64 r) []:=by
 unfold f36 at h;refine aF.body 0 _ _ Tryd.func36 rfl Tryd.ntmps36 rfl rfl ?_;refine aM [] [] ⟨14,[(1,.i x6),(2,.ptr 2 0)],[(2,.cells 67 [.i x1,.i x2,.i x3,aX x4,aX x5])],[],0⟩ trivial ?_;refine AWp.seq ?_;refine aM [] [] ⟨14,[(1,.i x6),(2,.ptr 2 0),(8,.bool ((lZ x4)==(0:Int)))],[(2,.cells 67 [.i x1,.i x2,.i x3,aX x4,aX x5])],[],0⟩ trivial ?_;refine AWp.cond (b:=((lZ x4)==(0:Int))) (by kernel_rfl) (fun hc1=> ?_) (fun hc1=> ?_)
 ·
  replace h:=aK hc1 h;refine aM [] [] ⟨14,[(4,.i (1:Int))],[],[],0⟩ trivial ?_;have hret:=Option.some.inj h;subst hret;refine AWp.le (Le.mk (s':=⟨14,[(4,.i (1:Int))],[],[],0⟩) rfl rfl ⟨.refl _,trivial⟩ trivial) ?_;refine AWp.ret (tR ?_);exact bR _ rfl ⟨rfl,rfl⟩ rfl
 ·
  replace h:=aL hc1 h;refine AWp.skip (tN (AWp.seq ?_));obtain⟨ob0,h⟩:=aB h;refine aR [] [] ⟨14,[(4,.i (x4.getD ((x6).toNat) 0))],[],[],0⟩ (an1 ob0) ?_;refine tN ?_;have hret:=Option.some.inj h;subst hret;refine AWp.le (Le.mk (s':=⟨14,[(4,.i (x4.getD ((x6).toNat) 0))],[],[],0⟩) rfl rfl ⟨.refl _,trivial⟩ trivial) ?_;refine AWp.ret ?_;exact bR _ rfl ⟨rfl,rfl⟩ rfl
def lK (x1:List Ty0) (x2:Int) (n4:Nat) (l5:List Bool) (K3:Int→Option Bool):Nat→(Int×Nat)→Option Bool
 |0,_=>none
 |k+1,(i7,n8)=>
  if(decide ((n8:Int)<(((((x1.take (((x2+(1:Int))).toNat)).getD n4 (default:Int×Int×Int×List Int×List Int)).2.2.2.2).length:Nat):Int)))then(
  jn (fun(i10:Int)=>
  chk (((n8:Int)+(1:Int))≤9223372036854775807)<|
  (lK x1 x2 n4 l5 K3 k) (i10,(n8+1))
  ) fun(K4:Int→Option Bool)=>
  chk ((n8:Int)<(((((x1.take (((x2+(1:Int))).toNat)).getD n4 (default:Int×Int×Int×List Int×List Int)).2.2.2.2).length:Nat):Int))<|
  chk (0≤((((x1.take (((x2+(1:Int))).toNat)).getD n4 (default:Int×Int×Int×List Int×List Int)).2.2.2.2).getD n8 0)∧((((x1.take (((x2+(1:Int))).toNat)).getD n4 (default:Int×Int×Int×List Int×List Int)).2.2.2.2).getD n8 0)<60)<|
  chk ((((((x1.take (((x2+(1:Int))).toNat)).getD n4 (default:Int×Int×Int×List Int×List Int)).2.2.2.2).getD n8 0)).toNat<60)<|
  if(l5.getD ((((((x1.take (((x2+(1:Int))).toNat)).getD n4 (default:Int×Int×Int×List Int×List Int)).2.2.2.2).getD n8 0)).toNat) false)then(
  (f36 (((x1.take (((x2+(1:Int))).toNat)).getD n4 (default:Int×Int×Int×List Int×List Int)).1) (((x1.take (((x2+(1:Int))).toNat)).getD n4 (default:Int×Int×Int×List Int×List Int)).2.1) (((x1.take (((x2+(1:Int))).toNat)).getD n4 (default:Int×Int×Int×List Int×List Int)).2.2.1) (((x1.take (((x2+(1:Int))).toNat)).getD n4 (default:Int×Int×Int×List Int×List Int)).2.2.2.1) (((x1.take (((x2+(1:Int))).toNat)).getD n4 (default:Int×Int×Int×List Int×List Int)).2.2.2.2) (n8:Int)).bind fun(r9:Int)=>
  chk (-9223372036854775808≤(i7+r9)∧(i7+r9)≤9223372036854775807)<|
  K4 (i7+r9)
  )else(
  K4 i7
  )
  )else(
  K3 i7
  )
def lL (x1:List Ty0) (x2:Int) (x3:BitVec 16) (K1:(List Bool)→Option Bool):Nat→(Nat×List Bool)→Option Bool
 |0,_=>none
 |k+1,(n4,l5)=>
  if(decide ((n4:Int)<(((((x2+(1:Int))).toNat):Nat):Int)))then(
  jn (fun(l6:List Bool)=>
  chk (((n4:Int)+(1:Int))≤9223372036854775807)<|
  (lL x1 x2 x3 K1 k) ((n4+1),l6)
  ) fun(K2:(List Bool)→Option Bool)=>
  chk ((n4:Int)<((((x1.take (((x2+(1:Int))).toNat))).length:Nat):Int))<|
  if(((x1.take (((x2+(1:Int))).toNat)).getD n4 (default:Int×Int×Int×List Int×List Int)).1==(1:Int))then(
  chk (n4<60)<|
  chk (n4<60∧n4<l5.length)<|
  chk (0≤((x1.take (((x2+(1:Int))).toNat)).getD n4 (default:Int×Int×Int×List Int×List Int)).2.1)<|
  K2 (l5.set n4 (((x3>>>((((x1.take (((x2+(1:Int))).toNat)).getD n4 (default:Int×Int×Int×List Int×List Int)).2.1).toNat))&&&(BitVec.ofInt 16 1))==(BitVec.ofInt 16 1)))
  )else(
  jn (fun(i11:Int)=>
  chk (n4<60)<|
  chk (n4<60∧n4<l5.length)<|
  K2 (l5.set n4 (decide (i11≥((x1.take (((x2+(1:Int))).toNat)).getD n4 (default:Int×Int×Int×List Int×List Int)).2.2.1)))
  ) fun(K3:Int→Option Bool)=>
  lK x1 x2 n4 l5 K3 bG ((0:Int),0)
  )
  )else(
  K1 l5
  )
abbrev jS (x1:List Ty0) (x2:Int) (n4:Nat):List V:=[.int .i64 ((x1.take (((x2+(1:Int))).toNat)).getD n4 (default:Int×Int×Int×List Int×List Int)).1,.int .i64 ((x1.take (((x2+(1:Int))).toNat)).getD n4 (default:Int×Int×Int×List Int×List Int)).2.1,.int .i64 ((x1.take (((x2+(1:Int))).toNat)).getD n4 (default:Int×Int×Int×List Int×List Int)).2.2.1,vL 1 eI 0 ((x1.take (((x2+(1:Int))).toNat)).getD n4 (default:Int×Int×Int×List Int×List Int)).2.2.2.1,vL 1 eI 0 ((x1.take (((x2+(1:Int))).toNat)).getD n4 (default:Int×Int×Int×List Int×List Int)).2.2.2.2]
abbrev dT (x1:List Ty0) (x2:Int):List V:=[vL 5 bY (default:Int×Int×Int×List Int×List Int) x1,.int .i64 x2]
abbrev f30z2 (x3:BitVec 16) (x1:List Ty0) (x2:Int) (n4:Nat):List (Nat×V):=[(1,.b16 x3),(2,.ptr 2 0),(5,.ptr 5 0),(16,vL 5 bY (default:Int×Int×Int×List Int×List Int) (x1.take (((x2+(1:Int))).toNat))),(17,.int .i64 (((((x2+(1:Int))).toNat):Nat):Int)),(18,.int .i64 (n4:Int))]
def f30 (x1:List Ty0) (x2:Int) (x3:BitVec 16):Option Bool:=
 jn (fun(l12:List Bool)=>
 chk (0≤x2∧x2<60)<|
 chk ((x2).toNat<60)<|
 some (l12.getD ((x2).toNat) false)
 ) fun(K1:(List Bool)→Option Bool)=>
 chk (-9223372036854775808≤(x2+(1:Int))∧(x2+(1:Int))≤9223372036854775807)<|
 chk (0≤(x2+(1:Int))∧(x2+(1:Int))≤(((x1).length:Nat):Int))<|
 lL x1 x2 x3 K1 bG (0,(List.replicate 60 (false:Bool)))
theorem f30_ok (x1:List Ty0) (x2:Int) (x3:BitVec 16) (r:Bool) (h:f30 x1 x2 x3=some r):aF Tryd.prog 30 [] [] [] [.agg [vL 5 bY (default:Int×Int×Int×List Int×List Int) x1,.int .i64 x2],.b16 x3] (.bool r) []:=by
 unfold f30 at h;refine aF.body 0 _ _ Tryd.func30 rfl Tryd.ntmps30 rfl rfl ?_;refine aM [] [] ⟨62,[(1,.b16 x3),(2,.ptr 2 0)],[(2,.cells 28 (dT x1 x2))],[],0⟩ trivial ?_;refine aM [] [(0,⟨[],[],[],[(5,bA 112 V.bool false 60 (List.replicate 60 (false:Bool)))],.ptr 5 0,[5],[],[]⟩)] ⟨62,[(1,.b16 x3),(2,.ptr 2 0),(5,.ptr 5 0)],[(2,.cells 28 (dT x1 x2)),(5,bA 112 V.bool false 60 (List.replicate 60 (false:Bool)))],[],0⟩ (an1 (And.intro (wC (P:=Tryd.prog) (t:=112) V.bool (fun _=>rfl) (fun _ _=>rfl) false 60 (List.replicate 60 (false:Bool)) (by kernel_rfl) 0 5) (eQ.same []))) ?_;obtain⟨K1,hK1,h⟩:=aU h;refine AWp.join (α:=List Bool) (fun(l12:List Bool)=>⟨62,[(2,.ptr 2 0),(5,.ptr 5 0)],[(2,.cells 28 (dT x1 x2)),(5,bA 112 V.bool false 60 l12)],[],0⟩) (fun x=>K1 x=some r) ?_ ?_
 ·
  refine AWp.seq ?_;obtain⟨ob0,ob1,h⟩:=ck2 h;refine aR [] [] ⟨62,[(1,.b16 x3),(2,.ptr 2 0),(5,.ptr 5 0),(16,.arr 5 (((x2+(1:Int))).toNat) (cM bY bB x1)),(17,.i (((((x2+(1:Int))).toNat):Nat):Int)),(18,.i (0:Int))],[(2,.cells 28 (dT x1 x2)),(5,bA 112 V.bool false 60 (List.replicate 60 (false:Bool)))],[],0⟩ (an2 ob0 ob1) ?_;refine tN ?_;refine AWp.le (Le.mk (s':=⟨62,[(1,.b16 x3),(2,.ptr 2 0),(5,.ptr 5 0),(16,aO (x1.take (((x2+(1:Int))).toNat))),(17,.i (((((x2+(1:Int))).toNat):Nat):Int)),(18,.i (0:Int))],[(2,.cells 28 (dT x1 x2)),(5,bA 112 V.bool false 60 (List.replicate 60 (false:Bool)))],[],0⟩) rfl rfl ⟨.refl _,.refl _,.refl _,(VLe.takeL (by first|omega|(simp only[List.length_append,List.length_cons,List.length_nil,List.length_take,List.length_drop]at *;omega)|(simp;done)|(simp_all;done)|(simp_all;omega)|rfl)),.refl _,.refl _,trivial⟩ ⟨⟨_,rfl,.refl _⟩,⟨_,rfl,.refl _⟩,trivial⟩) ?_;refine AWp.block ?_;refine AWp.loopL (α:=Nat×(Nat×List Bool)) (fun x=>match x with|(_,n4,l5)=>⟨62,(f30z2 x3 x1 x2 n4),[(2,.cells 28 (dT x1 x2)),(5,bA 112 V.bool false 60 l5)],[],0⟩) (fun x=>lL x1 x2 x3 K1 x.1 x.2=some r) (fun x=>x.1) (bG,0,(List.replicate 60 (false:Bool))) (Le.mk (s':=⟨62,[(1,.b16 x3),(2,.ptr 2 0),(5,.ptr 5 0),(16,aO (x1.take (((x2+(1:Int))).toNat))),(17,.i (((((x2+(1:Int))).toNat):Nat):Int)),(18,.i (0:Int))],[(2,.cells 28 (dT x1 x2)),(5,bA 112 V.bool false 60 (List.replicate 60 (false:Bool)))],[],0⟩) rfl rfl ⟨.refl _,.refl _,.refl _,.refl _,.refl _,.refl _,trivial⟩ ⟨⟨_,rfl,.refl _⟩,⟨_,rfl,.refl _⟩,trivial⟩) h ?_
  rintro⟨k0,n4,l5⟩ h
  cases k0 with
  |zero=>exact nomatch (show(none:Option Bool)=some r from h)
  |succ k0=>
  obtain⟨C0,hC0⟩:∃C,C=lL x1 x2 x3 K1 k0:=⟨_,rfl⟩;replace h:=(lL.eq_2 ..).symm.trans h
  try rw[←hC0]at h
  refine aM [] [] ⟨62,[(1,.b16 x3),(2,.ptr 2 0),(5,.ptr 5 0),(16,aO (x1.take (((x2+(1:Int))).toNat))),(17,.i (((((x2+(1:Int))).toNat):Nat):Int)),(18,.i (n4:Int)),(19,.bool (decide ((n4:Int)<(((((x2+(1:Int))).toNat):Nat):Int))))],[(2,.cells 28 (dT x1 x2)),(5,bA 112 V.bool false 60 l5)],[],0⟩ trivial ?_;refine AWp.seq ?_;refine AWp.cond (b:=(decide ((n4:Int)<(((((x2+(1:Int))).toNat):Nat):Int)))) (by kernel_rfl) (fun hc1=> ?_) (fun hc1=> ?_)
  ·
   replace h:=aK hc1 h;refine AWp.skip (tN ?_);obtain⟨K2,hK2,h⟩:=aU h;refine AWp.join (α:=List Bool) (fun(l6:List Bool)=>⟨62,(f30z2 x3 x1 x2 n4),[(2,.cells 28 (dT x1 x2)),(5,bA 112 V.bool false 60 l6)],[],0⟩) (fun x=>K2 x=some r) ?_ ?_
   ·
    refine AWp.block (AWp.seq ?_);obtain⟨ob2p,h⟩:=aB h;have ob2:0≤(n4:Int)∧(n4:Int)<((((x1.take (((x2+(1:Int))).toNat))).length:Nat):Int):=⟨by omega,ob2p⟩;refine aR [] [] ⟨62,[(1,.b16 x3),(2,.ptr 2 0),(5,.ptr 5 0),(6,.i (n4:Int)),(7,.ptr 7 0),(16,aO (x1.take (((x2+(1:Int))).toNat))),(17,.i (((((x2+(1:Int))).toNat):Nat):Int)),(18,.i (n4:Int))],[(2,.cells 28 (dT x1 x2)),(5,bA 112 V.bool false 60 l5),(7,.cells 67 (jS x1 x2 n4))],[],0⟩ (an2 ob2 trivial) ?_;refine tN (AWp.seq ?_);refine aM [] [] ⟨62,[(1,.b16 x3),(2,.ptr 2 0),(5,.ptr 5 0),(6,.i (n4:Int)),(7,.ptr 7 0),(16,aO (x1.take (((x2+(1:Int))).toNat))),(17,.i (((((x2+(1:Int))).toNat):Nat):Int)),(18,.i (n4:Int)),(25,.bool (((x1.take (((x2+(1:Int))).toNat)).getD n4 bB).1==(1:Int)))],[(2,.cells 28 (dT x1 x2)),(5,bA 112 V.bool false 60 l5),(7,.cells 67 (jS x1 x2 n4))],[],0⟩ trivial ?_;refine AWp.cond (b:=(((x1.take (((x2+(1:Int))).toNat)).getD n4 bB).1==(1:Int))) (by kernel_rfl) (fun hc2=> ?_) (fun hc2=> ?_)
    ·
     replace h:=aK hc2 h;refine AWp.seq ?_;obtain⟨ob3,ob4,ob5,h⟩:=ck3 h;refine aR [] [(7,⟨[.ptr 5 0,.i (n4:Int)],[5],[5],[(5,bA 112 V.bool false 60 l5)],.ptr 5 n4,[],[],[]⟩),(8,⟨[.ptr 5 n4,.bool (((x3>>>((((x1.take (((x2+(1:Int))).toNat)).getD n4 bB).2.1).toNat))&&&(bD 1))==(bD 1))],[5],[5],[(5,bA 112 V.bool false 60 (l5.set n4 (((x3>>>((((x1.take (((x2+(1:Int))).toNat)).getD n4 bB).2.1).toNat))&&&(bD 1))==(bD 1))))],.any,[],[],[]⟩)] ⟨62,(f30z2 x3 x1 x2 n4),[(2,.cells 28 (dT x1 x2)),(5,bA 112 V.bool false 60 (l5.set n4 (((x3>>>((((x1.take (((x2+(1:Int))).toNat)).getD n4 bB).2.1).toNat))&&&(bD 1))==(bD 1))))],[],0⟩ (an3 ob5 (And.intro (iS (kx:= .i64) (P:=Tryd.prog) Tryd.underlying112 (by kernel_rfl) (.tmp 5) (.tmp 26) 0 5 (bA 112 V.bool false 60 l5) n4 ob3) (eQ.same [.ptr 5 0,.i (n4:Int)])) (And.intro (nB (P:=Tryd.prog) (t:=4) (by kernel_rfl) (.tmp 33) (.tmp 32) 0 5 112 V.bool (fun _=>rfl) false 60 l5 n4 (((x3>>>((((x1.take (((x2+(1:Int))).toNat)).getD n4 bB).2.1).toNat))&&&(bD 1))==(bD 1)) ob4) (eQ.same [.ptr 5 n4,.bool (((x3>>>((((x1.take (((x2+(1:Int))).toNat)).getD n4 bB).2.1).toNat))&&&(bD 1))==(bD 1))]))) ?_;refine tN (AWp.exit (tE (kS ?_)));exact jN ((l5.set n4 (((x3>>>((((x1.take (((x2+(1:Int))).toNat)).getD n4 bB).2.1).toNat))&&&(bD 1))==(bD 1)))) (Le.mk rfl rfl ⟨.refl _,.refl _,.refl _,.refl _,.refl _,.refl _,trivial⟩ ⟨⟨_,rfl,.refl _⟩,⟨_,rfl,.refl _⟩,trivial⟩) h
    ·
     replace h:=aL hc2 h;refine AWp.skip (tN ?_);refine aM [] [] ⟨62,[(1,.b16 x3),(2,.ptr 2 0),(5,.ptr 5 0),(6,.i (n4:Int)),(7,.ptr 7 0),(8,.i (0:Int)),(16,aO (x1.take (((x2+(1:Int))).toNat))),(17,.i (((((x2+(1:Int))).toNat):Nat):Int)),(18,.i (n4:Int))],[(2,.cells 28 (dT x1 x2)),(5,bA 112 V.bool false 60 l5),(7,.cells 67 (jS x1 x2 n4))],[],0⟩ trivial ?_;obtain⟨K3,hK3,h⟩:=aU h;refine AWp.join (α:=Int) (fun(i11:Int)=>⟨62,[(1,.b16 x3),(2,.ptr 2 0),(5,.ptr 5 0),(6,.i (n4:Int)),(7,.ptr 7 0),(8,.i i11),(16,aO (x1.take (((x2+(1:Int))).toNat))),(17,.i (((((x2+(1:Int))).toNat):Nat):Int)),(18,.i (n4:Int))],[(2,.cells 28 (dT x1 x2)),(5,bA 112 V.bool false 60 l5),(7,.cells 67 (jS x1 x2 n4))],[],0⟩) (fun x=>K3 x=some r) ?_ ?_
     ·
      refine aM [] [] ⟨62,[(1,.b16 x3),(2,.ptr 2 0),(5,.ptr 5 0),(6,.i (n4:Int)),(7,.ptr 7 0),(8,.i (0:Int)),(16,aO (x1.take (((x2+(1:Int))).toNat))),(17,.i (((((x2+(1:Int))).toNat):Nat):Int)),(18,.i (n4:Int)),(35,aX ((x1.take (((x2+(1:Int))).toNat)).getD n4 bB).2.2.2.2),(36,.i (((((x1.take (((x2+(1:Int))).toNat)).getD n4 bB).2.2.2.2).length:Nat):Int)),(37,.i (0:Int))],[(2,.cells 28 (dT x1 x2)),(5,bA 112 V.bool false 60 l5),(7,.cells 67 (jS x1 x2 n4))],[],0⟩ trivial ?_;refine AWp.block ?_;refine AWp.loopL (α:=Nat×(Int×Nat)) (fun x=>match x with|(_,i7,n8)=>⟨62,[(1,.b16 x3),(2,.ptr 2 0),(5,.ptr 5 0),(6,.i (n4:Int)),(7,.ptr 7 0),(8,.i i7),(16,aO (x1.take (((x2+(1:Int))).toNat))),(17,.i (((((x2+(1:Int))).toNat):Nat):Int)),(18,.i (n4:Int)),(35,aX ((x1.take (((x2+(1:Int))).toNat)).getD n4 bB).2.2.2.2),(36,.i (((((x1.take (((x2+(1:Int))).toNat)).getD n4 bB).2.2.2.2).length:Nat):Int)),(37,.i (n8:Int))],[(2,.cells 28 (dT x1 x2)),(5,bA 112 V.bool false 60 l5),(7,.cells 67 (jS x1 x2 n4))],[],0⟩) (fun x=>lK x1 x2 n4 l5 K3 x.1 x.2=some r) (fun x=>x.1) (bG,(0:Int),0) (Le.mk (s':=⟨62,[(1,.b16 x3),(2,.ptr 2 0),(5,.ptr 5 0),(6,.i (n4:Int)),(7,.ptr 7 0),(8,.i (0:Int)),(16,aO (x1.take (((x2+(1:Int))).toNat))),(17,.i (((((x2+(1:Int))).toNat):Nat):Int)),(18,.i (n4:Int)),(35,aX ((x1.take (((x2+(1:Int))).toNat)).getD n4 bB).2.2.2.2),(36,.i (((((x1.take (((x2+(1:Int))).toNat)).getD n4 bB).2.2.2.2).length:Nat):Int)),(37,.i (0:Int))],[(2,.cells 28 (dT x1 x2)),(5,bA 112 V.bool false 60 l5),(7,.cells 67 (jS x1 x2 n4))],[],0⟩) rfl rfl ⟨.refl _,.refl _,.refl _,.refl _,.refl _,.refl _,.refl _,.refl _,.refl _,.refl _,.refl _,.refl _,trivial⟩ ⟨⟨_,rfl,.refl _⟩,⟨_,rfl,.refl _⟩,⟨_,rfl,.refl _⟩,trivial⟩) h ?_
      rintro⟨k1,i7,n8⟩ h
      cases k1 with
      |zero=>exact nomatch (show(none:Option Bool)=some r from h)
      |succ k1=>
      obtain⟨C1,hC1⟩:∃C,C=lK x1 x2 n4 l5 K3 k1:=⟨_,rfl⟩;replace h:=(lK.eq_2 ..).symm.trans h
      try rw[←hC1]at h
      refine aM [] [] ⟨62,[(1,.b16 x3),(2,.ptr 2 0),(5,.ptr 5 0),(6,.i (n4:Int)),(7,.ptr 7 0),(8,.i i7),(16,aO (x1.take (((x2+(1:Int))).toNat))),(17,.i (((((x2+(1:Int))).toNat):Nat):Int)),(18,.i (n4:Int)),(35,aX ((x1.take (((x2+(1:Int))).toNat)).getD n4 bB).2.2.2.2),(36,.i (((((x1.take (((x2+(1:Int))).toNat)).getD n4 bB).2.2.2.2).length:Nat):Int)),(37,.i (n8:Int)),(38,.bool (decide ((n8:Int)<(((((x1.take (((x2+(1:Int))).toNat)).getD n4 bB).2.2.2.2).length:Nat):Int))))],[(2,.cells 28 (dT x1 x2)),(5,bA 112 V.bool false 60 l5),(7,.cells 67 (jS x1 x2 n4))],[],0⟩ trivial ?_;refine AWp.seq ?_;refine AWp.cond (b:=(decide ((n8:Int)<(((((x1.take (((x2+(1:Int))).toNat)).getD n4 bB).2.2.2.2).length:Nat):Int)))) (by kernel_rfl) (fun hc3=> ?_) (fun hc3=> ?_)
      ·
       replace h:=aK hc3 h;refine AWp.skip (tN ?_);obtain⟨K4,hK4,h⟩:=aU h;refine AWp.join (α:=Int) (fun(i10:Int)=>⟨62,[(1,.b16 x3),(2,.ptr 2 0),(5,.ptr 5 0),(6,.i (n4:Int)),(7,.ptr 7 0),(8,.i i10),(16,aO (x1.take (((x2+(1:Int))).toNat))),(17,.i (((((x2+(1:Int))).toNat):Nat):Int)),(18,.i (n4:Int)),(35,aX ((x1.take (((x2+(1:Int))).toNat)).getD n4 bB).2.2.2.2),(36,.i (((((x1.take (((x2+(1:Int))).toNat)).getD n4 bB).2.2.2.2).length:Nat):Int)),(37,.i (n8:Int))],[(2,.cells 28 (dT x1 x2)),(5,bA 112 V.bool false 60 l5),(7,.cells 67 (jS x1 x2 n4))],[],0⟩) (fun x=>K4 x=some r) ?_ ?_
       ·
        refine AWp.block (AWp.seq ?_);obtain⟨ob6p,h⟩:=aB h;have ob6:0≤(n8:Int)∧(n8:Int)<(((((x1.take (((x2+(1:Int))).toNat)).getD n4 bB).2.2.2.2).length:Nat):Int):=⟨by omega,ob6p⟩;refine aR [] [] ⟨62,[(1,.b16 x3),(2,.ptr 2 0),(5,.ptr 5 0),(6,.i (n4:Int)),(7,.ptr 7 0),(8,.i i7),(9,.i (n8:Int)),(10,.i ((((x1.take (((x2+(1:Int))).toNat)).getD n4 bB).2.2.2.2).getD n8 0)),(16,aO (x1.take (((x2+(1:Int))).toNat))),(17,.i (((((x2+(1:Int))).toNat):Nat):Int)),(18,.i (n4:Int)),(35,aX ((x1.take (((x2+(1:Int))).toNat)).getD n4 bB).2.2.2.2),(36,.i (((((x1.take (((x2+(1:Int))).toNat)).getD n4 bB).2.2.2.2).length:Nat):Int)),(37,.i (n8:Int))],[(2,.cells 28 (dT x1 x2)),(5,bA 112 V.bool false 60 l5),(7,.cells 67 (jS x1 x2 n4))],[],0⟩ (an1 ob6) ?_;refine tN (AWp.seq ?_);obtain⟨ob7,ob8,h⟩:=ck2 h;refine aR [] [(1,⟨[.ptr 5 0,.i ((((x1.take (((x2+(1:Int))).toNat)).getD n4 bB).2.2.2.2).getD n8 0)],[5],[5],[(5,bA 112 V.bool false 60 l5)],.ptr 5 ((((((x1.take (((x2+(1:Int))).toNat)).getD n4 bB).2.2.2.2).getD n8 0)).toNat),[],[],[]⟩),(2,⟨[.ptr 5 ((((((x1.take (((x2+(1:Int))).toNat)).getD n4 bB).2.2.2.2).getD n8 0)).toNat)],[5],[5],[(5,bA 112 V.bool false 60 l5)],.bool (l5.getD ((((((x1.take (((x2+(1:Int))).toNat)).getD n4 bB).2.2.2.2).getD n8 0)).toNat) false),[],[],[]⟩)] ⟨62,[(1,.b16 x3),(2,.ptr 2 0),(5,.ptr 5 0),(6,.i (n4:Int)),(7,.ptr 7 0),(8,.i i7),(9,.i (n8:Int)),(16,aO (x1.take (((x2+(1:Int))).toNat))),(17,.i (((((x2+(1:Int))).toNat):Nat):Int)),(18,.i (n4:Int)),(35,aX ((x1.take (((x2+(1:Int))).toNat)).getD n4 bB).2.2.2.2),(36,.i (((((x1.take (((x2+(1:Int))).toNat)).getD n4 bB).2.2.2.2).length:Nat):Int)),(37,.i (n8:Int)),(44,.bool (l5.getD ((((((x1.take (((x2+(1:Int))).toNat)).getD n4 bB).2.2.2.2).getD n8 0)).toNat) false))],[(2,.cells 28 (dT x1 x2)),(5,bA 112 V.bool false 60 l5),(7,.cells 67 (jS x1 x2 n4))],[],0⟩ (an2 (And.intro (kZ (kx:= .i64) (P:=Tryd.prog) Tryd.underlying112 (by kernel_rfl) (.tmp 5) (.tmp 42) 0 5 (bA 112 V.bool false 60 l5) ((((x1.take (((x2+(1:Int))).toNat)).getD n4 bB).2.2.2.2).getD n8 0) ob7) (eQ.same [.ptr 5 0,.i ((((x1.take (((x2+(1:Int))).toNat)).getD n4 bB).2.2.2.2).getD n8 0)])) (And.intro (pH (P:=Tryd.prog) (t:=4) (by kernel_rfl) (by kernel_rfl) (.tmp 43) 4 5 112 V.bool false 60 l5 ((((((x1.take (((x2+(1:Int))).toNat)).getD n4 bB).2.2.2.2).getD n8 0)).toNat) ob8) (eQ.same [.ptr 5 ((((((x1.take (((x2+(1:Int))).toNat)).getD n4 bB).2.2.2.2).getD n8 0)).toNat)]))) ?_;refine tN ?_;refine AWp.cond (b:=(l5.getD ((((((x1.take (((x2+(1:Int))).toNat)).getD n4 bB).2.2.2.2).getD n8 0)).toNat) false)) (by kernel_rfl) (fun hc4=> ?_) (fun hc4=> ?_)
        ·
         replace h:=aK hc4 h;obtain⟨r9,hr9,h⟩:=bind_ok h;obtain⟨ob9,h⟩:=aB h;refine aR [] [(3,⟨[.agg (jS x1 x2 n4),.i (n8:Int)],[],[],[],.i r9,[],[],[]⟩)] ⟨62,[(1,.b16 x3),(2,.ptr 2 0),(5,.ptr 5 0),(6,.i (n4:Int)),(7,.ptr 7 0),(8,.i (i7+r9)),(16,aO (x1.take (((x2+(1:Int))).toNat))),(17,.i (((((x2+(1:Int))).toNat):Nat):Int)),(18,.i (n4:Int)),(35,aX ((x1.take (((x2+(1:Int))).toNat)).getD n4 bB).2.2.2.2),(36,.i (((((x1.take (((x2+(1:Int))).toNat)).getD n4 bB).2.2.2.2).length:Nat):Int)),(37,.i (n8:Int))],[(2,.cells 28 (dT x1 x2)),(5,bA 112 V.bool false 60 l5),(7,.cells 67 (jS x1 x2 n4))],[],0⟩ (an2 (cpT (f36_ok _ _ _ _ _ _ _ hr9)) ob9) ?_;refine kN ?_;exact jN ((i7+r9)) (Le.mk rfl rfl ⟨.refl _,.refl _,.refl _,.refl _,.refl _,.refl _,.refl _,.refl _,.refl _,.refl _,.refl _,.refl _,trivial⟩ ⟨⟨_,rfl,.refl _⟩,⟨_,rfl,.refl _⟩,⟨_,rfl,.refl _⟩,trivial⟩) h
        ·
         replace h:=aL hc4 h;refine AWp.skip (kN ?_);exact jN (i7) (Le.mk rfl rfl ⟨.refl _,.refl _,.refl _,.refl _,.refl _,.refl _,.refl _,.refl _,.refl _,.refl _,.refl _,.refl _,trivial⟩ ⟨⟨_,rfl,.refl _⟩,⟨_,rfl,.refl _⟩,⟨_,rfl,.refl _⟩,trivial⟩) h
       ·
        rintro i10 h;replace h:=(congrFun hK4 _).symm.trans h;obtain⟨ob10p,h⟩:=aB h;have ob10: -9223372036854775808≤((n8:Int)+(1:Int))∧((n8:Int)+(1:Int))≤9223372036854775807:=⟨by omega,ob10p⟩;refine aR [] [] ⟨62,[(1,.b16 x3),(2,.ptr 2 0),(5,.ptr 5 0),(6,.i (n4:Int)),(7,.ptr 7 0),(8,.i i10),(16,aO (x1.take (((x2+(1:Int))).toNat))),(17,.i (((((x2+(1:Int))).toNat):Nat):Int)),(18,.i (n4:Int)),(35,aX ((x1.take (((x2+(1:Int))).toNat)).getD n4 bB).2.2.2.2),(36,.i (((((x1.take (((x2+(1:Int))).toNat)).getD n4 bB).2.2.2.2).length:Nat):Int)),(37,.i (((n8+1):Nat):Int))],[(2,.cells 28 (dT x1 x2)),(5,bA 112 V.bool false 60 l5),(7,.cells 67 (jS x1 x2 n4))],[],0⟩ (an1 ob10) ?_;rw[hC1]at h;exact lN (_,i10,(n8+1)) (Le.mk rfl rfl ⟨.refl _,.refl _,.refl _,.refl _,.refl _,.refl _,.refl _,.refl _,.refl _,.refl _,.refl _,.refl _,trivial⟩ ⟨⟨_,rfl,.refl _⟩,⟨_,rfl,.refl _⟩,⟨_,rfl,.refl _⟩,trivial⟩) h (Nat.lt_succ_self _)
      ·
       replace h:=aL hc3 h;refine AWp.exit (tE (tE (kS ?_)));exact jN (i7) (Le.mk rfl rfl ⟨.refl _,.refl _,.refl _,.refl _,.refl _,.refl _,.refl _,.refl _,.refl _,trivial⟩ ⟨⟨_,rfl,.refl _⟩,⟨_,rfl,.refl _⟩,⟨_,rfl,.refl _⟩,trivial⟩) h
     ·
      rintro i11 h;replace h:=(congrFun hK3 _).symm.trans h;obtain⟨ob11,ob12,h⟩:=ck2 h;refine aR [] [(5,⟨[.ptr 5 0,.i (n4:Int)],[5],[5],[(5,bA 112 V.bool false 60 l5)],.ptr 5 n4,[],[],[]⟩),(6,⟨[.ptr 5 n4,.bool (decide (i11≥((x1.take (((x2+(1:Int))).toNat)).getD n4 bB).2.2.1))],[5],[5],[(5,bA 112 V.bool false 60 (l5.set n4 (decide (i11≥((x1.take (((x2+(1:Int))).toNat)).getD n4 bB).2.2.1))))],.any,[],[],[]⟩)] ⟨62,(f30z2 x3 x1 x2 n4),[(2,.cells 28 (dT x1 x2)),(5,bA 112 V.bool false 60 (l5.set n4 (decide (i11≥((x1.take (((x2+(1:Int))).toNat)).getD n4 bB).2.2.1))))],[],0⟩ (an2 (And.intro (iS (kx:= .i64) (P:=Tryd.prog) Tryd.underlying112 (by kernel_rfl) (.tmp 5) (.tmp 51) 0 5 (bA 112 V.bool false 60 l5) n4 ob11) (eQ.same [.ptr 5 0,.i (n4:Int)])) (And.intro (nB (P:=Tryd.prog) (t:=4) (by kernel_rfl) (.tmp 56) (.tmp 55) 0 5 112 V.bool (fun _=>rfl) false 60 l5 n4 (decide (i11≥((x1.take (((x2+(1:Int))).toNat)).getD n4 bB).2.2.1)) ob12) (eQ.same [.ptr 5 n4,.bool (decide (i11≥((x1.take (((x2+(1:Int))).toNat)).getD n4 bB).2.2.1))]))) ?_;refine kN ?_;exact jN ((l5.set n4 (decide (i11≥((x1.take (((x2+(1:Int))).toNat)).getD n4 bB).2.2.1)))) (Le.mk rfl rfl ⟨.refl _,.refl _,.refl _,.refl _,.refl _,.refl _,trivial⟩ ⟨⟨_,rfl,.refl _⟩,⟨_,rfl,.refl _⟩,trivial⟩) h
   ·
    rintro l6 h;replace h:=(congrFun hK2 _).symm.trans h;obtain⟨ob13p,h⟩:=aB h;have ob13: -9223372036854775808≤((n4:Int)+(1:Int))∧((n4:Int)+(1:Int))≤9223372036854775807:=⟨by omega,ob13p⟩;refine aR [] [] ⟨62,[(1,.b16 x3),(2,.ptr 2 0),(5,.ptr 5 0),(16,aO (x1.take (((x2+(1:Int))).toNat))),(17,.i (((((x2+(1:Int))).toNat):Nat):Int)),(18,.i (((n4+1):Nat):Int))],[(2,.cells 28 (dT x1 x2)),(5,bA 112 V.bool false 60 l6)],[],0⟩ (an1 ob13) ?_;rw[hC0]at h;exact lN (_,(n4+1),l6) (Le.mk rfl rfl ⟨.refl _,.refl _,.refl _,.refl _,.refl _,.refl _,trivial⟩ ⟨⟨_,rfl,.refl _⟩,⟨_,rfl,.refl _⟩,trivial⟩) h (Nat.lt_succ_self _)
  ·
   replace h:=aL hc1 h;refine AWp.exit (tE (tE (kS ?_)));exact jN (l5) (Le.mk rfl rfl ⟨.refl _,.refl _,trivial⟩ ⟨⟨_,rfl,.refl _⟩,⟨_,rfl,.refl _⟩,trivial⟩) h
 ·
  rintro l12 h;replace h:=(congrFun hK1 _).symm.trans h;refine AWp.seq ?_;obtain⟨ob14,ob15,h⟩:=ck2 h;refine aR [] [(2,⟨[.ptr 5 0,.i x2],[5],[5],[(5,bA 112 V.bool false 60 l12)],.ptr 5 ((x2).toNat),[],[],[]⟩),(3,⟨[.ptr 5 ((x2).toNat)],[5],[5],[(5,bA 112 V.bool false 60 l12)],.bool (l12.getD ((x2).toNat) false),[],[],[]⟩)] ⟨62,[(4,.bool (l12.getD ((x2).toNat) false))],[],[],0⟩ (an2 (And.intro (kZ (kx:= .i64) (P:=Tryd.prog) Tryd.underlying112 (by kernel_rfl) (.tmp 5) (.tmp 59) 0 5 (bA 112 V.bool false 60 l12) x2 ob14) (eQ.same [.ptr 5 0,.i x2])) (And.intro (pH (P:=Tryd.prog) (t:=4) (by kernel_rfl) (by kernel_rfl) (.tmp 60) 4 5 112 V.bool false 60 l12 ((x2).toNat) ob15) (eQ.same [.ptr 5 ((x2).toNat)]))) ?_;refine tN ?_;have hret:=Option.some.inj h;subst hret;refine AWp.le (Le.mk (s':=⟨62,[(4,.bool (l12.getD ((x2).toNat) false))],[],[],0⟩) rfl rfl ⟨.refl _,trivial⟩ trivial) ?_;refine AWp.ret ?_;exact bR _ rfl ⟨rfl,rfl⟩ rfl
def f75 (x1 x2:BitVec 16):Option Bool:=
 some ((x2&&& ~~~x1)==(BitVec.ofInt 16 0))
theorem f75_ok (x1 x2:BitVec 16) (r:Bool) (h:f75 x1 x2=some r):aF Tryd.prog 75 [] [] [] [.b16 x1,.b16 x2] (.bool r) []:=by
 unfold f75 at h;refine aF.body 0 _ _ Tryd.func75 rfl Tryd.ntmps75 rfl rfl ?_;refine aM [] [] ⟨9,[(0,.b16 x1),(1,.b16 x2)],[],[],0⟩ trivial ?_;refine aM [] [] ⟨9,[(4,.bool ((x2&&& ~~~x1)==(bD 0)))],[],[],0⟩ trivial ?_;have hret:=Option.some.inj h;subst hret;refine AWp.le (Le.mk (s':=⟨9,[(4,.bool ((x2&&& ~~~x1)==(bD 0)))],[],[],0⟩) rfl rfl ⟨.refl _,trivial⟩ trivial) ?_;refine AWp.ret ?_;exact bR _ rfl ⟨rfl,rfl⟩ rfl
def f74 (x1 x2:BitVec 16):Option (Bool×BitVec 16):=
 (f75 x2 x1).bind fun(r3:Bool)=>
 some (r3,x2)
theorem f74_ok (x1 x2:BitVec 16) (r:Bool×BitVec 16) (h:f74 x1 x2=some r):aF Tryd.prog 74 [] [2000] [(2000,.cells 49 [.b16 x2])] [.b16 x1,.ptr 2000 0] (.bool r.1) [(2000,.cells 49 [.b16 r.2])]:=by
 unfold f74 at h;refine aF.body 0 _ _ Tryd.func74 rfl Tryd.ntmps74 rfl rfl ?_;refine aM [] [] ⟨7,[(0,.b16 x1),(1,.ptr 2000 0)],[(2000,.cells 49 [.b16 x2])],[2000],0⟩ trivial ?_;refine AWp.seq ?_;obtain⟨r3,hr3,h⟩:=bind_ok h;refine aR [] [(2,⟨[.b16 x2,.b16 x1],[],[],[],.bool r3,[],[],[]⟩)] ⟨7,[(3,.bool r3)],[(2000,.cells 49 [.b16 x2])],[2000],0⟩ (an1 (cpT (f75_ok _ _ _ hr3))) ?_;refine tN ?_;have hret:=Option.some.inj h;subst hret;refine AWp.le (Le.mk (s':=⟨7,[(3,.bool r3)],[(2000,.cells 49 [.b16 x2])],[2000],0⟩) rfl rfl ⟨.refl _,trivial⟩ ⟨⟨_,rfl,.refl _⟩,trivial⟩) ?_;refine AWp.ret ?_;exact bR _ rfl ⟨rfl,rfl⟩ rfl
def jP (x1:List (BitVec 16)) (K1:(BitVec 16)→Option (Int×BitVec 16)):Nat→(Nat×BitVec 16)→Option (Int×BitVec 16)
 |0,_=>none
 |k+1,(n3,w4)=>
  if(decide ((n3:Int)<(((x1).length:Nat):Int)))then(
  (f74 (x1.getD n3 0#16) w4).bind fun(r5:Bool×BitVec 16)=>
  chk ((n3:Int)<(((x1).length:Nat):Int))<|
  if r5.1 then(
  some ((n3:Int),r5.2)
  )else(
  chk (((n3:Int)+(1:Int))≤9223372036854775807)<|
  (jP x1 K1 k) ((n3+1),r5.2)
  )
  )else(
  K1 w4
  )
abbrev f63z0 (r5:Bool×BitVec 16):aG:=[(2000,.cells 49 [.b16 r5.2])]
def f63 (x1:List (BitVec 16)) (x2:BitVec 16):Option (Int×BitVec 16):=
 jn (fun(w6:BitVec 16)=>
 some ((-1:Int),w6)
 ) fun(K1:(BitVec 16)→Option (Int×BitVec 16))=>
 jP x1 K1 bG (0,x2)
theorem f63_ok (x1:List (BitVec 16)) (x2:BitVec 16) (r:Int×BitVec 16) (h:f63 x1 x2=some r):aF Tryd.prog 63 [] [2000] [(2000,.cells 49 [.b16 x2])] [vL 1 eW 0#16 x1,.fn (.func 74) [.ptr 2000 0]] (.int .i64 r.1) [(2000,.cells 49 [.b16 r.2])]:=by
 unfold f63 at h;refine aF.body 0 _ _ Tryd.func63 rfl Tryd.ntmps63 rfl rfl ?_;refine aM [] [] ⟨19,[(0,aZ x1),(1,.fn (.func 74) [.ptr 2000 0])],[(2000,.cells 49 [.b16 x2])],[2000],0⟩ trivial ?_;obtain⟨K1,hK1,h⟩:=aU h;refine AWp.join (α:=BitVec 16) (fun(w6:BitVec 16)=>⟨19,[],[(2000,.cells 49 [.b16 w6])],[2000],0⟩) (fun x=>K1 x=some r) ?_ ?_
 ·
  refine aM [] [] ⟨19,[(0,aZ x1),(1,.fn (.func 74) [.ptr 2000 0]),(7,.i (lZ x1)),(8,.i (0:Int))],[(2000,.cells 49 [.b16 x2])],[2000],0⟩ trivial ?_;refine AWp.block ?_;refine AWp.loopL (α:=Nat×(Nat×BitVec 16)) (fun x=>match x with|(_,n3,w4)=>⟨19,[(0,aZ x1),(1,.fn (.func 74) [.ptr 2000 0]),(7,.i (lZ x1)),(8,.i (n3:Int))],[(2000,.cells 49 [.b16 w4])],[2000],0⟩) (fun x=>jP x1 K1 x.1 x.2=some r) (fun x=>x.1) (bG,0,x2) (Le.mk (s':=⟨19,[(0,aZ x1),(1,.fn (.func 74) [.ptr 2000 0]),(7,.i (lZ x1)),(8,.i (0:Int))],[(2000,.cells 49 [.b16 x2])],[2000],0⟩) rfl rfl ⟨.refl _,.refl _,.refl _,.refl _,trivial⟩ ⟨⟨_,rfl,.refl _⟩,trivial⟩) h ?_
  rintro⟨k0,n3,w4⟩ h
  cases k0 with
  |zero=>exact nomatch (show(none:Option (Int×BitVec 16))=some r from h)
  |succ k0=>
  obtain⟨C0,hC0⟩:∃C,C=jP x1 K1 k0:=⟨_,rfl⟩;replace h:=(jP.eq_2 ..).symm.trans h
  try rw[←hC0]at h
  refine aM [] [] ⟨19,[(0,aZ x1),(1,.fn (.func 74) [.ptr 2000 0]),(7,.i (lZ x1)),(8,.i (n3:Int)),(9,.bool (decide ((n3:Int)<(lZ x1))))],[(2000,.cells 49 [.b16 w4])],[2000],0⟩ trivial ?_;refine AWp.seq ?_;refine AWp.cond (b:=(decide ((n3:Int)<(lZ x1)))) (by kernel_rfl) (fun hc1=> ?_) (fun hc1=> ?_)
  ·
   replace h:=aK hc1 h;refine AWp.skip (tN (AWp.seq (AWp.block ?_)));refine aM [] [] ⟨19,[(0,aZ x1),(1,.fn (.func 74) [.ptr 2000 0]),(5,.i (n3:Int)),(7,.i (lZ x1)),(8,.i (n3:Int))],[(2000,.cells 49 [.b16 w4])],[2000],0⟩ trivial ?_;refine AWp.seq ?_;obtain⟨r5,hr5,h⟩:=bind_ok h;obtain⟨ob0p,h⟩:=aB h;have ob0:0≤(n3:Int)∧(n3:Int)<(((x1).length:Nat):Int):=⟨by omega,ob0p⟩;refine aR [] [(5,⟨[.b16 (x1.getD n3 0#16),.ptr 2000 0],[2000],[2000],(f63z0 r5),.bool r5.1,[],[],[]⟩)] ⟨19,[(0,aZ x1),(1,.fn (.func 74) [.ptr 2000 0]),(5,.i (n3:Int)),(7,.i (lZ x1)),(8,.i (n3:Int)),(16,.bool r5.1)],(f63z0 r5),[2000],0⟩ (an2 ob0 (cpT (f74_ok _ _ _ hr5))) ?_;refine tN ?_;refine AWp.cond (b:=r5.1) (by kernel_rfl) (fun hc2=> ?_) (fun hc2=> ?_)
   ·
    replace h:=aK hc2 h;refine aM [] [] ⟨19,[(4,.i (n3:Int))],(f63z0 r5),[2000],0⟩ trivial ?_;have hret:=Option.some.inj h;subst hret;refine AWp.le (Le.mk (s':=⟨19,[(4,.i (n3:Int))],(f63z0 r5),[2000],0⟩) rfl rfl ⟨.refl _,trivial⟩ ⟨⟨_,rfl,.refl _⟩,trivial⟩) ?_;refine AWp.ret (kR (tR (tR (kR (aV ?_)))));exact bR _ rfl ⟨rfl,rfl⟩ rfl
   ·
    replace h:=aL hc2 h;refine AWp.skip (kN (tN ?_));obtain⟨ob1p,h⟩:=aB h;have ob1: -9223372036854775808≤((n3:Int)+(1:Int))∧((n3:Int)+(1:Int))≤9223372036854775807:=⟨by omega,ob1p⟩;refine aR [] [] ⟨19,[(0,aZ x1),(1,.fn (.func 74) [.ptr 2000 0]),(7,.i (lZ x1)),(8,.i (((n3+1):Nat):Int))],(f63z0 r5),[2000],0⟩ (an1 ob1) ?_;rw[hC0]at h;exact lN (_,(n3+1),r5.2) (Le.mk rfl rfl ⟨.refl _,.refl _,.refl _,.refl _,trivial⟩ ⟨⟨_,rfl,.refl _⟩,trivial⟩) h (Nat.lt_succ_self _)
  ·
   replace h:=aL hc1 h;refine AWp.exit (tE (tE (kS ?_)));exact jN (w4) (Le.mk rfl rfl trivial ⟨⟨_,rfl,.refl _⟩,trivial⟩) h
 ·
  rintro w6 h;replace h:=(congrFun hK1 _).symm.trans h;refine aM [] [] ⟨19,[(4,.i (-1:Int))],[(2000,.cells 49 [.b16 w6])],[2000],0⟩ trivial ?_;have hret:=Option.some.inj h;subst hret;refine AWp.le (Le.mk (s':=⟨19,[(4,.i (-1:Int))],[(2000,.cells 49 [.b16 w6])],[2000],0⟩) rfl rfl ⟨.refl _,trivial⟩ ⟨⟨_,rfl,.refl _⟩,trivial⟩) ?_;refine AWp.ret ?_;exact bR _ rfl ⟨rfl,rfl⟩ rfl
def f65 (x1:List (BitVec 16)) (x2:BitVec 16):Option (Bool×BitVec 16):=
 (f63 x1 x2).bind fun(r3:Int×BitVec 16)=>
 some ((decide (r3.1≥(0:Int))),r3.2)
theorem f65_ok (x1:List (BitVec 16)) (x2:BitVec 16) (r:Bool×BitVec 16) (h:f65 x1 x2=some r):aF Tryd.prog 65 [] [2000] [(2000,.cells 49 [.b16 x2])] [vL 1 eW 0#16 x1,.fn (.func 74) [.ptr 2000 0]] (.bool r.1) [(2000,.cells 49 [.b16 r.2])]:=by
 unfold f65 at h;refine aF.body 0 _ _ Tryd.func65 rfl Tryd.ntmps65 rfl rfl ?_;refine aM [] [] ⟨9,[(0,aZ x1),(1,.fn (.func 74) [.ptr 2000 0])],[(2000,.cells 49 [.b16 x2])],[2000],0⟩ trivial ?_;refine AWp.seq ?_;obtain⟨r3,hr3,h⟩:=bind_ok h;refine aR [] [(2,⟨[aZ x1,.fn (.func 74) [.ptr 2000 0]],[2000],[2000],[(2000,.cells 49 [.b16 r3.2])],.i r3.1,[],[],[]⟩)] ⟨9,[(4,.bool (decide (r3.1≥(0:Int))))],[(2000,.cells 49 [.b16 r3.2])],[2000],0⟩ (an1 (cpT (f63_ok _ _ _ hr3))) ?_;refine tN ?_;have hret:=Option.some.inj h;subst hret;refine AWp.le (Le.mk (s':=⟨9,[(4,.bool (decide (r3.1≥(0:Int))))],[(2000,.cells 49 [.b16 r3.2])],[2000],0⟩) rfl rfl ⟨.refl _,trivial⟩ ⟨⟨_,rfl,.refl _⟩,trivial⟩) ?_;refine AWp.ret ?_;exact bR _ rfl ⟨rfl,rfl⟩ rfl
def f31 (x1:List (BitVec 16)) (x2:BitVec 16):Option Bool:=
 (f65 x1 x2).bind fun(r3:Bool×BitVec 16)=>
 some r3.1
theorem tX (x1:List (BitVec 16)) (x2:BitVec 16) (r:Bool) (h:f31 x1 x2=some r):aF Tryd.prog 31 [] [] [] [vL 1 eW 0#16 x1,.b16 x2] (.bool r) []:=by
 unfold f31 at h;refine aF.body 0 _ _ Tryd.func31 rfl Tryd.ntmps31 rfl rfl ?_;refine aM [] [] ⟨8,[(0,aZ x1),(3,.ptr 3 0)],[(3,.cells 49 [.b16 x2])],[],0⟩ trivial ?_;refine AWp.seq ?_;obtain⟨r3,hr3,h⟩:=bind_ok h;refine aR [] [(2,⟨[aZ x1,.fn (.func 74) [.ptr 3 0]],[3],[3],[(3,.cells 49 [.b16 r3.2])],.bool r3.1,[],[],[]⟩)] ⟨8,[(4,.bool r3.1)],[],[],0⟩ (an1 (cpT (aF.ren (aW 2000 3) (aE 2000 3) rfl (f65_ok _ _ _ hr3)))) ?_;refine tN ?_;have hret:=Option.some.inj h;subst hret;refine AWp.le (Le.mk (s':=⟨8,[(4,.bool r3.1)],[],[],0⟩) rfl rfl ⟨.refl _,trivial⟩ trivial) ?_;refine AWp.ret ?_;exact bR _ rfl ⟨rfl,rfl⟩ rfl
def f92 (x1:BitVec 16):Option Int:=
 chk ((((x1>>>8).toNat:Nat):Int)<((cs0.length:Nat):Int))<|
 chk ((((x1&&&(BitVec.ofInt 16 255)).toNat:Nat):Int)<((cs0.length:Nat):Int))<|
 chk (((((cs0.getD ((x1>>>8).toNat) 0).toNat:Nat):Int)+(((cs0.getD ((x1&&&(BitVec.ofInt 16 255)).toNat) 0).toNat:Nat):Int))≤255)<|
 chk (((((cs0.getD ((x1>>>8).toNat) 0).toNat+(cs0.getD ((x1&&&(BitVec.ofInt 16 255)).toNat) 0).toNat):Nat):Int)≤9223372036854775807)<|
 some ((((cs0.getD ((x1>>>8).toNat) 0).toNat+(cs0.getD ((x1&&&(BitVec.ofInt 16 255)).toNat) 0).toNat):Nat):Int)
theorem f92_ok (x1:BitVec 16) (r:Int) (h:f92 x1=some r):aF Tryd.prog 92 [] [] [] [.b16 x1] (.int .i64 r) []:=by
 unfold f92 at h;refine aF.body 0 _ _ Tryd.func92 rfl Tryd.ntmps92 rfl rfl ?_;refine aM [] [] ⟨11,[(0,.b16 x1)],[],[],0⟩ trivial ?_;refine AWp.seq ?_;have ob0:0≤(8:Int):=by first|decide|omega|simp|(intro h;cases h)
 obtain⟨ob1p,h⟩:=aB h;have ob1:0≤(((x1>>>8).toNat:Nat):Int)∧(((x1>>>8).toNat:Nat):Int)<((cs0.length:Nat):Int):=⟨by omega,ob1p⟩;obtain⟨ob2p,h⟩:=aB h;have ob2:0≤(((x1&&&(bD 255)).toNat:Nat):Int)∧(((x1&&&(bD 255)).toNat:Nat):Int)<((cs0.length:Nat):Int):=⟨by omega,ob2p⟩;obtain⟨ob3p,h⟩:=aB h;have ob3:0≤((((cs0.getD ((x1>>>8).toNat) 0).toNat:Nat):Int)+(((cs0.getD ((x1&&&(bD 255)).toNat) 0).toNat:Nat):Int))∧((((cs0.getD ((x1>>>8).toNat) 0).toNat:Nat):Int)+(((cs0.getD ((x1&&&(bD 255)).toNat) 0).toNat:Nat):Int))≤255:=⟨by omega,ob3p⟩;obtain⟨ob4p,h⟩:=aB h;have ob4: -9223372036854775808≤((((cs0.getD ((x1>>>8).toNat) 0).toNat+(cs0.getD ((x1&&&(bD 255)).toNat) 0).toNat):Nat):Int)∧((((cs0.getD ((x1>>>8).toNat) 0).toNat+(cs0.getD ((x1&&&(bD 255)).toNat) 0).toNat):Nat):Int)≤9223372036854775807:=⟨by omega,ob4p⟩;refine aR [] [] ⟨11,[(2,.i ((((cs0.getD ((x1>>>8).toNat) 0).toNat+(cs0.getD ((x1&&&(bD 255)).toNat) 0).toNat):Nat):Int))],[],[],0⟩ (an5 ob0 ob1 ob2 ob3 ob4) ?_;refine tN ?_;have hret:=Option.some.inj h;subst hret;refine AWp.le (Le.mk (s':=⟨11,[(2,.i ((((cs0.getD ((x1>>>8).toNat) 0).toNat+(cs0.getD ((x1&&&(bD 255)).toNat) 0).toNat):Nat):Int))],[],[],0⟩) rfl rfl ⟨.refl _,trivial⟩ trivial) ?_;refine AWp.ret ?_;exact bR _ rfl ⟨rfl,rfl⟩ rfl
def f72 (x1:BitVec 16):Option Int:=
 (f92 x1).bind fun(r2:Int)=>
 some r2
theorem lG (x1:BitVec 16) (r:Int) (h:f72 x1=some r):aF Tryd.prog 72 [] [] [] [.b16 x1] (.int .i64 r) []:=by
 unfold f72 at h;refine aF.body 0 _ _ Tryd.func72 rfl Tryd.ntmps72 rfl rfl ?_;refine aM [] [] ⟨5,[(0,.b16 x1)],[],[],0⟩ trivial ?_;refine AWp.seq ?_;obtain⟨r2,hr2,h⟩:=bind_ok h;refine aR [] [(1,⟨[.b16 x1],[],[],[],.i r2,[],[],[]⟩)] ⟨5,[(2,.i r2)],[],[],0⟩ (an1 (cpT (f92_ok _ _ hr2))) ?_;refine tN ?_;have hret:=Option.some.inj h;subst hret;refine AWp.le (Le.mk (s':=⟨5,[(2,.i r2)],[],[],0⟩) rfl rfl ⟨.refl _,trivial⟩ trivial) ?_;refine AWp.ret ?_;exact bR _ rfl ⟨rfl,rfl⟩ rfl
def f101 (x1:BitVec 16):Option Int:=
 if(x1==(BitVec.ofInt 16 0))then(
 some (16:Int)
 )else(
 chk (27≤IntKind.bits .u32)<|
 chk (0≤((IntKind.wrap .u32 ((((x1&&&(-x1)).toNat:Nat):Int) *(125613361:Int)))/2^27)∧((IntKind.wrap .u32 ((((x1&&&(-x1)).toNat:Nat):Int) *(125613361:Int)))/2^27)<32)<|
 chk ((((T0.getD (0+((((IntKind.wrap .u32 ((((x1&&&(-x1)).toNat:Nat):Int) *(125613361:Int)))/2^27)).toNat) *1+0) 0):Nat):Int)≤9223372036854775807)<|
 some (((T0.getD (0+((((IntKind.wrap .u32 ((((x1&&&(-x1)).toNat:Nat):Int) *(125613361:Int)))/2^27)).toNat) *1+0) 0):Nat):Int)
 )
theorem f101_ok (x1:BitVec 16) (r:Int) (h:f101 x1=some r):aF Tryd.prog 101 [(0,.elem 32 1 T0F 0 0)] [] [] [.b16 x1] (.int .i64 r) []:=by
 unfold f101 at h;refine aF.body 0 _ _ Tryd.func101 rfl Tryd.ntmps101 rfl rfl ?_;refine aM [10] [] ⟨15,[(0,.b16 x1),(1000000,.elem 32 1 T0F 0 0)],[],[],0⟩ trivial ?_;refine AWp.seq ?_;refine aM [10] [] ⟨15,[(0,.b16 x1),(4,.bool (x1==(bD 0))),(1000000,.elem 32 1 T0F 0 0)],[],[],0⟩ trivial ?_;refine AWp.cond (b:=(x1==(bD 0))) (by kernel_rfl) (fun hc1=> ?_) (fun hc1=> ?_)
 ·
  replace h:=aK hc1 h;refine aM [10] [] ⟨15,[(2,.i (16:Int)),(1000000,.elem 32 1 T0F 0 0)],[],[],0⟩ trivial ?_;have hret:=Option.some.inj h;subst hret;refine AWp.le (Le.mk (s':=⟨15,[(2,.i (16:Int))],[],[],0⟩) rfl rfl ⟨.refl _,trivial⟩ trivial) ?_;refine AWp.ret (tR ?_);exact bR _ rfl ⟨rfl,rfl⟩ rfl
 ·
  replace h:=aL hc1 h;refine AWp.skip (tN (AWp.seq ?_));have ob0:0≤(((x1&&&(-x1)).toNat:Nat):Int)∧(((x1&&&(-x1)).toNat:Nat):Int)≤4294967295:=⟨by omega,by(have:=((x1&&&(-x1)):BitVec 16).isLt;omega)⟩;obtain⟨ob1p,h⟩:=aB h;have ob1:0≤(27:Int)∧27≤IntKind.bits .u32:=⟨by omega,ob1p⟩;obtain⟨ob2,ob3p,h⟩:=ck2 h;have ob3: -9223372036854775808≤(((T0.getD (0+((((IntKind.wrap .u32 ((((x1&&&(-x1)).toNat:Nat):Int) *(125613361:Int)))/2^27)).toNat) *1+0) 0):Nat):Int)∧(((T0.getD (0+((((IntKind.wrap .u32 ((((x1&&&(-x1)).toNat:Nat):Int) *(125613361:Int)))/2^27)).toNat) *1+0) 0):Nat):Int)≤9223372036854775807:=⟨by omega,ob3p⟩;refine aR [10] [] ⟨15,[(2,.i (((T0.getD (0+((((IntKind.wrap .u32 ((((x1&&&(-x1)).toNat:Nat):Int) *(125613361:Int)))/2^27)).toNat) *1+0) 0):Nat):Int)),(1000000,.elem 32 1 T0F 0 0)],[],[],0⟩ (an6 trivial ob0 trivial ob1 ob2 ob3) ?_;refine tN ?_;have hret:=Option.some.inj h;subst hret;refine AWp.le (Le.mk (s':=⟨15,[(2,.i (((T0.getD (0+((((IntKind.wrap .u32 ((((x1&&&(-x1)).toNat:Nat):Int) *(125613361:Int)))/2^27)).toNat) *1+0) 0):Nat):Int))],[],[],0⟩) rfl rfl ⟨.refl _,trivial⟩ trivial) ?_;refine AWp.ret ?_;exact bR _ rfl ⟨rfl,rfl⟩ rfl
def jK (K1:eC→Option eC):Nat→(BitVec 16×List Int)→Option eC
 |0,_=>none
 |k+1,(w2,l3)=>
  if(!(w2==(BitVec.ofInt 16 0)))then(
  (f101 w2).bind fun(r4:Int)=>
  chk (((l3).length+1) *8≤140737488355328)<|
  (jK K1 k) ((w2&&&(w2-(BitVec.ofInt 16 1))),(l3++[r4]))
  )else(
  K1 l3
  )
def f93 (x1:BitVec 16):Option eC:=
 jn (fun(l5:List Int)=>
 some l5
 ) fun(K1:eC→Option eC)=>
 jK K1 bG (x1,[])
theorem f93_ok (x1:BitVec 16) (r:List Int) (h:f93 x1=some r):aF Tryd.prog 93 [(0,.elem 32 1 T0F 0 0)] [] [] [.b16 x1] (.own 3000) [(3000,bL 3 1 eI 0 r)]:=by
 unfold f93 at h;refine aF.body 0 _ _ Tryd.func93 rfl Tryd.ntmps93 rfl rfl ?_;refine aM [] [] ⟨16,[(0,.b16 x1),(1000000,.elem 32 1 T0F 0 0)],[],[],0⟩ trivial ?_;refine aM [] [] ⟨16,[(0,.b16 x1),(3,.nils),(1000000,.elem 32 1 T0F 0 0)],[],[],0⟩ trivial ?_;obtain⟨K1,hK1,h⟩:=aU h;refine AWp.join (α:=List Int) (fun(l5:List Int)=>⟨16,[(3,.own 5003),(1000000,.elem 32 1 T0F 0 0)],[(5003,aJ l5)],[],0⟩) (fun x=>K1 x=some r) ?_ ?_
 ·
  refine AWp.block ?_;refine AWp.loopL (α:=Nat×(BitVec 16×List Int)) (fun x=>match x with|(_,w2,l3)=>⟨16,[(0,.b16 w2),(3,.own 5003),(1000000,.elem 32 1 T0F 0 0)],[(5003,aJ l3)],[],0⟩) (fun x=>jK K1 x.1 x.2=some r) (fun x=>x.1) (bG,x1,[]) (Le.trans (Le.trans (Le.nilOwn 3 5003 3 1 (cM eI 0 []) rfl rfl (Nat.le_of_ble_eq_true rfl)) (Le.mk (s':=⟨16,[(0,.b16 x1),(3,.own 5003),(1000000,.elem 32 1 T0F 0 0)],[(5003,aJ [])],[],0⟩) rfl rfl ⟨.refl _,.refl _,.refl _,trivial⟩ ⟨⟨_,rfl,.refl _⟩,trivial⟩)) (Le.mk (s':=⟨16,[(0,.b16 x1),(3,.own 5003),(1000000,.elem 32 1 T0F 0 0)],[(5003,aJ [])],[],0⟩) rfl rfl ⟨.refl _,.refl _,.refl _,trivial⟩ ⟨⟨_,rfl,.refl _⟩,trivial⟩)) h ?_
  rintro⟨k0,w2,l3⟩ h
  cases k0 with
  |zero=>exact nomatch (show(none:Option eC)=some r from h)
  |succ k0=>
  obtain⟨C0,hC0⟩:∃C,C=jK K1 k0:=⟨_,rfl⟩;replace h:=(jK.eq_2 ..).symm.trans h
  try rw[←hC0]at h
  refine AWp.seq ?_;refine aM [] [] ⟨16,[(0,.b16 w2),(3,.own 5003),(5,.bool (!(w2==(bD 0)))),(1000000,.elem 32 1 T0F 0 0)],[(5003,aJ l3)],[],0⟩ trivial ?_;refine AWp.cond (b:=(!(w2==(bD 0)))) (by kernel_rfl) (fun hc1=> ?_) (fun hc1=> ?_)
  ·
   replace h:=aK hc1 h;refine AWp.skip (tN (AWp.seq (AWp.block ?_)));obtain⟨r4,hr4,h⟩:=bind_ok h;obtain⟨ob0,h⟩:=aB h;refine aR [] [(2,⟨[.b16 w2],[],[],[],.i r4,[],[],[0]⟩)] ⟨16,[(0,.b16 w2),(3,.own 5003),(1000000,.elem 32 1 T0F 0 0)],[(5003,.rows 3 1 ((l3).length+1) (kB (l3).length (cM eI 0 l3) (fZ 1 [.i r4])))],[],0⟩ (an2 (cpT (f101_ok _ _ hr4)) ob0) ?_;refine kN (tN ?_);refine AWp.le (Le.mk (s':=⟨16,[(0,.b16 w2),(3,.own 5003),(1000000,.elem 32 1 T0F 0 0)],[(5003,aJ (l3++[r4]))],[],0⟩) rfl rfl ⟨.refl _,.refl _,.refl _,trivial⟩ ⟨⟨_,rfl,(BLe.of (RL.app (RL.self _) (RL.lst (enc:=eI) [r4] rfl rfl (fun _=>rfl))))⟩,trivial⟩) ?_;refine aR [] [] ⟨16,[(0,.b16 (w2&&&(w2-(bD 1)))),(3,.own 5003),(1000000,.elem 32 1 T0F 0 0)],[(5003,aJ (l3++[r4]))],[],0⟩ (an1 trivial) ?_;rw[hC0]at h;exact lN (_,(w2&&&(w2-(bD 1))),(l3++[r4])) (Le.mk rfl rfl ⟨.refl _,.refl _,.refl _,trivial⟩ ⟨⟨_,rfl,.refl _⟩,trivial⟩) h (Nat.lt_succ_self _)
  ·
   replace h:=aL hc1 h;refine AWp.exit (tE (tE (kS ?_)));exact jN (l3) (Le.mk rfl rfl ⟨.refl _,.refl _,trivial⟩ ⟨⟨_,rfl,.refl _⟩,trivial⟩) h
 ·
  rintro l5 h;replace h:=(congrFun hK1 _).symm.trans h;refine aM [] [] ⟨16,[(2,.own 5003),(1000000,.elem 32 1 T0F 0 0)],[(5003,aJ l5)],[],0⟩ trivial ?_;refine AWp.le (Le.trans (Le.ren (aW 5003 3000) (aE 5003 3000) rfl) (Le.mk (s':=⟨16,[(2,.own 3000),(1000000,.elem 32 1 T0F 0 0)],[(3000,aJ l5)],[],0⟩) rfl rfl ⟨.refl _,.refl _,trivial⟩ ⟨⟨_,rfl,.refl _⟩,trivial⟩)) ?_;have hret:=Option.some.inj h;subst hret;refine AWp.le (Le.mk (s':=⟨16,[(2,.own 3000)],[(3000,aJ l5)],[],0⟩) rfl rfl ⟨.refl _,trivial⟩ ⟨⟨_,rfl,.refl _⟩,trivial⟩) ?_;refine AWp.ret ?_;exact bR _ rfl ⟨rfl,rfl⟩ rfl
def lF (r8:List Int) (i9:Int) (K2:(BitVec 16)→Option Ty5):Nat→(BitVec 16×Nat)→Option Ty5
 |0,_=>none
 |k+1,(w16,n17)=>
  if(decide ((n17:Int)<(((r8).length:Nat):Int)))then(
  jn (fun(w18:BitVec 16)=>
  chk (((n17:Int)+(1:Int))≤9223372036854775807)<|
  (lF r8 i9 K2 k) (w18,(n17+1))
  ) fun(K3:(BitVec 16)→Option Ty5)=>
  chk ((n17:Int)<(((r8).length:Nat):Int))<|
  chk (n17<(r8).length)<|
  chk (n17≤IntKind.bits .u32)<|
  if((aT .and .u32 (i9/2^n17) (1:Int))==(1:Int))then(
  chk (0≤(r8.getD n17 0))<|
  K3 (w16|||((BitVec.ofInt 16 1)<<<(((r8.getD n17 0)).toNat)))
  )else(
  K3 w16
  )
  )else(
  K2 w16
  )
def gP (Y70001:Ty2→(BitVec 16)→Option (Nat×Ty2)) (r8:List Int) (K1:(BitVec 16×Int×Ty4×Int×List (BitVec 16)×Nat)→Option Ty5):Nat→(Int×BitVec 16×Int×Ty4×Int×List (BitVec 16)×Nat)→Option Ty5
 |0,_=>none
 |k+1,(i9,w10,i11,l12,i13,l14,n15)=>
  chk ((r8).length≤IntKind.bits .u32∧0≤((1:Int) *2^((r8).length))∧((1:Int) *2^((r8).length))≤4294967295)<|
  if(decide (i9<((1:Int) *2^((r8).length))))then(
  jn (fun(w19:BitVec 16)=>
  jn (fun((w21,i22,l23,i24,l25,n26):BitVec 16×Int×Ty4×Int×List (BitVec 16)×Nat)=>
  if(i9==(0:Int))then(
  K1 (w21,i22,l23,i24,l25,n26)
  )else(
  chk (0≤(i9+(aT .and .u32 i9 (IntKind.wrap .u32 (0-i9))))∧(i9+(aT .and .u32 i9 (IntKind.wrap .u32 (0-i9))))≤4294967295)<|
  chk (0≤(aT .xor .u32 i9 (i9+(aT .and .u32 i9 (IntKind.wrap .u32 (0-i9)))))∧1≤(aT .and .u32 i9 (IntKind.wrap .u32 (0-i9)))∧0≤((aT .xor .u32 i9 (i9+(aT .and .u32 i9 (IntKind.wrap .u32 (0-i9)))))/(aT .and .u32 i9 (IntKind.wrap .u32 (0-i9))))∧((aT .xor .u32 i9 (i9+(aT .and .u32 i9 (IntKind.wrap .u32 (0-i9)))))/(aT .and .u32 i9 (IntKind.wrap .u32 (0-i9))))≤4294967295)<|
  chk (2≤IntKind.bits .u32)<|
  (gP Y70001 r8 K1 k) ((aT .or .u32 (i9+(aT .and .u32 i9 (IntKind.wrap .u32 (0-i9)))) (((aT .xor .u32 i9 (i9+(aT .and .u32 i9 (IntKind.wrap .u32 (0-i9)))))/(aT .and .u32 i9 (IntKind.wrap .u32 (0-i9))))/2^2)),w21,i22,l23,i24,l25,n26)
  )
  ) fun(K4:(BitVec 16×Int×Ty4×Int×List (BitVec 16)×Nat)→Option Ty5)=>
  chk (n15=0)<|
  (Y70001 (l12,i13,i11,l14,w10) w19).bind fun(r20:Nat×Ty2)=>
  if r20.1=0 then(
  if(!true)then(
  some (false,0,r20.2.1,r20.2.2.1,r20.2.2.2.1,r20.2.2.2.2.1,r20.2.2.2.2.2)
  )else(
  K4 (r20.2.2.2.2.2,r20.2.2.2.1,r20.2.1,r20.2.2.1,r20.2.2.2.2.1,0)
  )
  )else(
  if(!false)then(
  some (false,r20.1,r20.2.1,r20.2.2.1,r20.2.2.2.1,r20.2.2.2.2.1,r20.2.2.2.2.2)
  )else(
  K4 (r20.2.2.2.2.2,r20.2.2.2.1,r20.2.1,r20.2.2.1,r20.2.2.2.2.1,r20.1)
  )
  )
  ) fun(K2:(BitVec 16)→Option Ty5)=>
  lF r8 i9 K2 bG ((BitVec.ofInt 16 0),0)
  )else(
  K1 (w10,i11,l12,i13,l14,n15)
  )
abbrev kM (l12:List Ty0) (i13 i11:Int) (l14:List (BitVec 16)) (w10:BitVec 16) (r8:List Int) (C70001:YC) (n15:Nat):aG:=[(1,.cells 28 [vL 5 bY (default:Int×Int×Int×List Int×List Int) l12,.int .i64 i13]),(2,.cells 30 [.nils]),(3,.cells 31 [.int .i64 i11]),(5,.cells 30 [.own 6000]),(6000,bL 49 1 eW 0#16 l14),(6001,.cells 49 [.b16 w10]),(26001,bL 3 1 eI 0 r8),(70001,.yld (some ([1,2,3,5],C70001)) n15)]
abbrev f73z1 (l23:List Ty0) (i24 i22:Int) (l25:List (BitVec 16)) (w21:BitVec 16) (r8:List Int) (C70001:YC) (n26:Nat):aG:=[(1,.cells 28 [vL 5 bY (default:Int×Int×Int×List Int×List Int) l23,.int .i64 i24]),(2,.cells 30 [.nils]),(3,.cells 31 [.int .i64 i22]),(5,.cells 30 [.own 6000]),(6000,bL 49 1 eW 0#16 l25),(6001,.cells 49 [.b16 w21]),(26001,bL 3 1 eI 0 r8),(70001,.yld (some ([1,2,3,5],C70001)) n26)]
abbrev vR (r20:Nat×Ty2):List V:=[vL 5 bY (default:Int×Int×Int×List Int×List Int) r20.2.1,.int .i64 r20.2.2.1]
abbrev f73z3 (x3:List Ty0) (x4 x5:Int) (x6:List (BitVec 16)) (x7:BitVec 16) (r8:List Int) (C70001:YC):aG:=[(1,.cells 28 [vL 5 bY (default:Int×Int×Int×List Int×List Int) x3,.int .i64 x4]),(2,.cells 30 [.nils]),(3,.cells 31 [.int .i64 x5]),(5,.cells 30 [.own 6000]),(6000,bL 49 1 eW 0#16 x6),(6001,.cells 49 [.b16 x7]),(26001,bL 3 1 eI 0 r8),(70001,.yld (some ([1,2,3,5],C70001)) 0)]
abbrev f73z4 (r20:Nat×Ty2):aG:=[(1,.cells 28 (vR r20)),(2,.cells 30 [.nils]),(3,.cells 31 [.int .i64 r20.2.2.2.1]),(5,.cells 30 [.own 6000]),(6000,bL 49 1 eW 0#16 r20.2.2.2.2.1),(6001,.cells 49 [.b16 r20.2.2.2.2.2])]
abbrev f73z5 (C70001:YC) (r20:Nat×Ty2):aG:=[(70001,.yld (some ([1,2,3,5],C70001)) r20.1),(1,.cells 28 (vR r20)),(2,.cells 30 [.nils]),(3,.cells 31 [.int .i64 r20.2.2.2.1]),(5,.cells 30 [.own 6000]),(6000,bL 49 1 eW 0#16 r20.2.2.2.2.1),(6001,.cells 49 [.b16 r20.2.2.2.2.2])]
abbrev f73z6 (C70001:YC) (r20:Nat×Ty2):aG:=[(70001,.yld (some ([1,2,3,5],C70001)) 0),(1,.cells 28 (vR r20)),(2,.cells 30 [.nils]),(3,.cells 31 [.int .i64 r20.2.2.2.1]),(5,.cells 30 [.own 6000]),(6000,bL 49 1 eW 0#16 r20.2.2.2.2.1),(6001,.cells 49 [.b16 r20.2.2.2.2.2])]
abbrev f73z7 :=Ty4
abbrev f73z8 (x2:Int):=((decide (x2<(0:Int)))==false)
abbrev f73z9 (l12:List Ty0) (i13:Int):List V:=[vL 5 bY (default:Int×Int×Int×List Int×List Int) l12,.int .i64 i13]
def f73 (Y70001:Ty2→(BitVec 16)→Option (Nat×Ty2)) (x1:BitVec 16) (x2:Int) (x3:List Ty0) (x4 x5:Int) (x6:List (BitVec 16)) (x7:BitVec 16):Option Ty5:=
 (f93 x1).bind fun(r8:List Int)=>
 if((decide (x2<(0:Int)))||(decide (x2>(((r8).length:Nat):Int))))then(
 some (true,0,x3,x4,x5,x6,x7)
 )else(
 jn (fun((w20,i21,l22,i23,l24,n25):BitVec 16×Int×Ty4×Int×List (BitVec 16)×Nat)=>
 some (true,n25,l22,i23,i21,l24,w20)
 ) fun(K1:(BitVec 16×Int×Ty4×Int×List (BitVec 16)×Nat)→Option Ty5)=>
 chk (0≤x2∧(x2).toNat≤IntKind.bits .u32∧0≤((1:Int) *2^((x2).toNat))∧((1:Int) *2^((x2).toNat))≤4294967295)<|
 chk (0≤(((1:Int) *2^((x2).toNat))-(1:Int))∧(((1:Int) *2^((x2).toNat))-(1:Int))≤4294967295)<|
 gP Y70001 r8 K1 bG ((((1:Int) *2^((x2).toNat))-(1:Int)),x7,x5,x3,x4,x6,0)
 )
theorem f73_ok (C70001:YC) (Y70001:Ty2→(BitVec 16)→Option (Nat×Ty2)) (x1:BitVec 16) (x2:Int) (x3:List Ty0) (x4 x5:Int) (x6:List (BitVec 16)) (x7:BitVec 16) (r:Bool×Nat×Ty4×Int×Int×List (BitVec 16)×BitVec 16) (h:f73 Y70001 x1 x2 x3 x4 x5 x6 x7=some r) (hY70001:∀s x r,Y70001 s x=some r→dG Tryd.prog 70001 [1,2,3,5] C70001 [1,2,3,5,6001] [(1,.cells 28 [vL 5 bY (default:Int×Int×Int×List Int×List Int) s.1,.int .i64 s.2.1]),(2,.cells 30 [.nils]),(3,.cells 31 [.int .i64 s.2.2.1]),(5,.cells 30 [.own 6000]),(6000,bL 49 1 eW 0#16 s.2.2.2.1),(6001,.cells 49 [.b16 s.2.2.2.2])] [.b16 x] r.1 [(1,.cells 28 [vL 5 bY (default:Int×Int×Int×List Int×List Int) r.2.1,.int .i64 r.2.2.1]),(2,.cells 30 [.nils]),(3,.cells 31 [.int .i64 r.2.2.2.1]),(5,.cells 30 [.own 6000]),(6000,bL 49 1 eW 0#16 r.2.2.2.2.1),(6001,.cells 49 [.b16 r.2.2.2.2.2])]):aF Tryd.prog 73 [(0,.elem 32 1 T0F 0 0)] [70001,1,2,3,5,6001] [(70001,.yld (some ([1,2,3,5],C70001)) 0),(1,.cells 28 [vL 5 bY (default:Int×Int×Int×List Int×List Int) x3,.int .i64 x4]),(2,.cells 30 [.nils]),(3,.cells 31 [.int .i64 x5]),(5,.cells 30 [.own 6000]),(6000,bL 49 1 eW 0#16 x6),(6001,.cells 49 [.b16 x7])] [.b16 x1,.int .i64 x2,.own 70001] (.bool r.1) [(70001,.yld (some ([1,2,3,5],C70001)) r.2.1),(1,.cells 28 [vL 5 bY (default:Int×Int×Int×List Int×List Int) r.2.2.1,.int .i64 r.2.2.2.1]),(2,.cells 30 [.nils]),(3,.cells 31 [.int .i64 r.2.2.2.2.1]),(5,.cells 30 [.own 6000]),(6000,bL 49 1 eW 0#16 r.2.2.2.2.2.1),(6001,.cells 49 [.b16 r.2.2.2.2.2.2])]:=by
 unfold f73 at h;refine aF.body 20000 _ _ Tryd.func73 rfl Tryd.ntmps73 rfl rfl ?_;refine aM [57] [] ⟨70,[(0,.b16 x1),(1,.i x2),(2,.own 70001),(1000000,.elem 32 1 T0F 0 0)],[(1,.cells 28 [aO x3,.i x4]),(2,.cells 30 [.nils]),(3,.cells 31 [.i x5]),(5,.cells 30 [.own 6000]),(6000,aA x6),(6001,.cells 49 [.b16 x7]),(70001,.yld (some ([1,2,3,5],C70001)) 0)],[70001,1,2,3,5,6001],20000⟩ trivial ?_;refine AWp.seq ?_;obtain⟨r8,hr8,h⟩:=bind_ok h;refine aR [57] [(1,⟨[.b16 x1],[],[],[(26001,aJ r8)],.own 26001,[26001],[],[0]⟩)] ⟨70,[(1,.i x2),(2,.own 70001),(7,.own 26001),(1000000,.elem 32 1 T0F 0 0)],(f73z3 x3 x4 x5 x6 x7 r8 C70001),[70001,1,2,3,5,6001],20000⟩ (an1 (cpT (aF.ren (aW 3000 26001) (aE 3000 26001) rfl (f93_ok _ _ hr8)))) ?_;refine tN (AWp.seq (AWp.seq ?_));have ob0:=idA ((f73z8 x2)=true);have ob1:=idA ((f73z8 x2)=true);have ob2:=idA ((f73z8 x2)=true);have ob3:true=true→(decide (x2<(0:Int)))=false→(f73z8 x2)=true:=fun _ h=>beq_iff_eq.2 h;refine aR [57] [] ⟨70,[(1,.i x2),(2,.own 70001),(7,.own 26001),(23,.bool ((decide (x2<(0:Int)))||(decide (x2>(lZ r8))))),(1000000,.elem 32 1 T0F 0 0)],(f73z3 x3 x4 x5 x6 x7 r8 C70001),[70001,1,2,3,5,6001],20000⟩ (an3 (an1 ob0) (an2 ob1 ob2) ob3) ?_;refine tN ?_;refine AWp.cond (b:=((decide (x2<(0:Int)))||(decide (x2>(lZ r8))))) (by kernel_rfl) (fun hc1=> ?_) (fun hc1=> ?_)
 ·
  replace h:=aK hc1 h;refine aM [57] [] ⟨70,[(6,.bool true),(1000000,.elem 32 1 T0F 0 0)],[(1,.cells 28 [aO x3,.i x4]),(2,.cells 30 [.nils]),(3,.cells 31 [.i x5]),(5,.cells 30 [.own 6000]),(6000,aA x6),(6001,.cells 49 [.b16 x7]),(70001,.yld (some ([1,2,3,5],C70001)) 0)],[70001,1,2,3,5,6001],20000⟩ trivial ?_;have hret:=Option.some.inj h;subst hret;refine AWp.le (Le.mk (s':=⟨70,[(6,.bool true)],[(70001,.yld (some ([1,2,3,5],C70001)) 0),(1,.cells 28 [aO x3,.i x4]),(2,.cells 30 [.nils]),(3,.cells 31 [.i x5]),(5,.cells 30 [.own 6000]),(6000,aA x6),(6001,.cells 49 [.b16 x7])],[70001,1,2,3,5,6001],20000⟩) rfl rfl ⟨.refl _,trivial⟩ ⟨⟨_,rfl,.refl _⟩,⟨_,rfl,.refl _⟩,⟨_,rfl,.refl _⟩,⟨_,rfl,.refl _⟩,⟨_,rfl,.refl _⟩,⟨_,rfl,.refl _⟩,⟨_,rfl,.refl _⟩,trivial⟩) ?_;refine AWp.ret (tR ?_);exact bR _ rfl ⟨rfl,rfl⟩ rfl
 ·
  replace h:=aL hc1 h;refine AWp.skip (tN ?_);obtain⟨K1,hK1,h⟩:=aU h;refine AWp.join (α:=BitVec 16×Int×(f73z7)×Int×List (BitVec 16)×Nat) (fun(x:BitVec 16×Int×(f73z7)×Int×List (BitVec 16)×Nat)=>match x with|(w20,i21,l22,i23,l24,n25)=>⟨70,[(1000000,.elem 32 1 T0F 0 0)],[(1,.cells 28 [aO l22,.i i23]),(2,.cells 30 [.nils]),(3,.cells 31 [.i i21]),(5,.cells 30 [.own 6000]),(6000,aA l24),(6001,.cells 49 [.b16 w20]),(70001,.yld (some ([1,2,3,5],C70001)) n25)],[70001,1,2,3,5,6001],20000⟩) (fun x=>K1 x=some r) ?_ ?_
  ·
   refine AWp.seq ?_;obtain⟨ob4,ob5,h⟩:=ck2 h;refine aR [57] [] ⟨70,[(2,.own 70001),(7,.own 26001),(8,.int .u32 (((1:Int) *2^((x2).toNat))-(1:Int))),(1000000,.elem 32 1 T0F 0 0)],(f73z3 x3 x4 x5 x6 x7 r8 C70001),[70001,1,2,3,5,6001],20000⟩ (an2 ob4 ob5) ?_;refine tN (AWp.block ?_);refine AWp.loopL (α:=Nat×(Int×BitVec 16×Int×(f73z7)×Int×List (BitVec 16)×Nat)) (fun x=>match x with|(_,i9,w10,i11,l12,i13,l14,n15)=>⟨70,[(2,.own 70001),(7,.own 26001),(8,.int .u32 i9),(1000000,.elem 32 1 T0F 0 0)],(kM l12 i13 i11 l14 w10 r8 C70001 n15),[70001,1,2,3,5,6001],20000⟩) (fun x=>gP Y70001 r8 K1 x.1 x.2=some r) (fun x=>x.1) (bG,(((1:Int) *2^((x2).toNat))-(1:Int)),x7,x5,x3,x4,x6,0) (Le.mk (s':=⟨70,[(2,.own 70001),(7,.own 26001),(8,.int .u32 (((1:Int) *2^((x2).toNat))-(1:Int))),(1000000,.elem 32 1 T0F 0 0)],(f73z3 x3 x4 x5 x6 x7 r8 C70001),[70001,1,2,3,5,6001],20000⟩) rfl rfl ⟨.refl _,.refl _,.refl _,.refl _,trivial⟩ ⟨⟨_,rfl,.refl _⟩,⟨_,rfl,.refl _⟩,⟨_,rfl,.refl _⟩,⟨_,rfl,.refl _⟩,⟨_,rfl,.refl _⟩,⟨_,rfl,.refl _⟩,⟨_,rfl,.refl _⟩,⟨_,rfl,.refl _⟩,trivial⟩) h ?_
   rintro⟨k0,i9,w10,i11,l12,i13,l14,n15⟩ h
   cases k0 with
   |zero=>exact nomatch (show(none:Option Ty5)=some r from h)
   |succ k0=>
   obtain⟨C0,hC0⟩:∃C,C=gP Y70001 r8 K1 k0:=⟨_,rfl⟩;replace h:=(gP.eq_2 ..).symm.trans h
   try rw[←hC0]at h
   refine AWp.seq (AWp.seq ?_);obtain⟨ob6p,h⟩:=aB h;have ob6:0≤(((r8).length:Nat):Int)∧(r8).length≤IntKind.bits .u32∧0≤((1:Int) *2^((r8).length))∧((1:Int) *2^((r8).length))≤4294967295:=⟨by omega,ob6p.1,ob6p.2.1,ob6p.2.2⟩;refine aR [57] [] ⟨70,[(2,.own 70001),(7,.own 26001),(8,.int .u32 i9),(31,.bool (decide (i9<((1:Int) *2^((r8).length))))),(1000000,.elem 32 1 T0F 0 0)],(kM l12 i13 i11 l14 w10 r8 C70001 n15),[70001,1,2,3,5,6001],20000⟩ (an1 ob6) ?_;refine tN ?_;refine AWp.cond (b:=(decide (i9<((1:Int) *2^((r8).length))))) (by kernel_rfl) (fun hc2=> ?_) (fun hc2=> ?_)
   ·
    replace h:=aK hc2 h;refine AWp.skip (tN (AWp.block ?_));refine aM [57] [] ⟨70,[(2,.own 70001),(7,.own 26001),(8,.int .u32 i9),(9,.b16 (bD 0)),(1000000,.elem 32 1 T0F 0 0)],(kM l12 i13 i11 l14 w10 r8 C70001 n15),[70001,1,2,3,5,6001],20000⟩ trivial ?_;obtain⟨K2,hK2,h⟩:=aU h;refine AWp.join (α:=BitVec 16) (fun(w19:BitVec 16)=>⟨70,[(2,.own 70001),(7,.own 26001),(8,.int .u32 i9),(9,.b16 w19),(1000000,.elem 32 1 T0F 0 0)],(kM l12 i13 i11 l14 w10 r8 C70001 n15),[70001,1,2,3,5,6001],20000⟩) (fun x=>K2 x=some r) ?_ ?_
    ·
     refine aM [57] [] ⟨70,[(2,.own 70001),(7,.own 26001),(8,.int .u32 i9),(9,.b16 (bD 0)),(32,.own 26001),(33,.i (lZ r8)),(34,.i (0:Int)),(1000000,.elem 32 1 T0F 0 0)],(kM l12 i13 i11 l14 w10 r8 C70001 n15),[70001,1,2,3,5,6001],20000⟩ trivial ?_;refine AWp.block ?_;refine AWp.loopL (α:=Nat×(BitVec 16×Nat)) (fun x=>match x with|(_,w16,n17)=>⟨70,[(2,.own 70001),(7,.own 26001),(8,.int .u32 i9),(9,.b16 w16),(32,.own 26001),(33,.i (lZ r8)),(34,.i (n17:Int)),(1000000,.elem 32 1 T0F 0 0)],(kM l12 i13 i11 l14 w10 r8 C70001 n15),[70001,1,2,3,5,6001],20000⟩) (fun x=>lF r8 i9 K2 x.1 x.2=some r) (fun x=>x.1) (bG,(bD 0),0) (Le.mk (s':=⟨70,[(2,.own 70001),(7,.own 26001),(8,.int .u32 i9),(9,.b16 (bD 0)),(32,.own 26001),(33,.i (lZ r8)),(34,.i (0:Int)),(1000000,.elem 32 1 T0F 0 0)],(kM l12 i13 i11 l14 w10 r8 C70001 n15),[70001,1,2,3,5,6001],20000⟩) rfl rfl ⟨.refl _,.refl _,.refl _,.refl _,.refl _,.refl _,.refl _,.refl _,trivial⟩ ⟨⟨_,rfl,.refl _⟩,⟨_,rfl,.refl _⟩,⟨_,rfl,.refl _⟩,⟨_,rfl,.refl _⟩,⟨_,rfl,.refl _⟩,⟨_,rfl,.refl _⟩,⟨_,rfl,.refl _⟩,⟨_,rfl,.refl _⟩,trivial⟩) h ?_
     rintro⟨k1,w16,n17⟩ h
     cases k1 with
     |zero=>exact nomatch (show(none:Option Ty5)=some r from h)
     |succ k1=>
     obtain⟨C1,hC1⟩:∃C,C=lF r8 i9 K2 k1:=⟨_,rfl⟩;replace h:=(lF.eq_2 ..).symm.trans h
     try rw[←hC1]at h
     refine aM [57] [] ⟨70,[(2,.own 70001),(7,.own 26001),(8,.int .u32 i9),(9,.b16 w16),(32,.own 26001),(33,.i (lZ r8)),(34,.i (n17:Int)),(35,.bool (decide ((n17:Int)<(lZ r8)))),(1000000,.elem 32 1 T0F 0 0)],(kM l12 i13 i11 l14 w10 r8 C70001 n15),[70001,1,2,3,5,6001],20000⟩ trivial ?_;refine AWp.seq ?_;refine AWp.cond (b:=(decide ((n17:Int)<(lZ r8)))) (by kernel_rfl) (fun hc3=> ?_) (fun hc3=> ?_)
     ·
      replace h:=aK hc3 h;refine AWp.skip (tN ?_);obtain⟨K3,hK3,h⟩:=aU h;refine AWp.join (α:=BitVec 16) (fun(w18:BitVec 16)=>⟨70,[(2,.own 70001),(7,.own 26001),(8,.int .u32 i9),(9,.b16 w18),(32,.own 26001),(33,.i (lZ r8)),(34,.i (n17:Int)),(1000000,.elem 32 1 T0F 0 0)],(kM l12 i13 i11 l14 w10 r8 C70001 n15),[70001,1,2,3,5,6001],20000⟩) (fun x=>K3 x=some r) ?_ ?_
      ·
       refine AWp.block (AWp.seq ?_);obtain⟨ob7p,h⟩:=aB h;have ob7:0≤(n17:Int)∧(n17:Int)<(((r8).length:Nat):Int):=⟨by omega,ob7p⟩;obtain⟨ob8,h⟩:=aB h;refine aR [57] [] ⟨70,[(2,.own 70001),(7,.own 26001),(8,.int .u32 i9),(9,.b16 w16),(10,.i (n17:Int)),(11,.i (r8.getD n17 0)),(32,.own 26001),(33,.i (lZ r8)),(34,.i (n17:Int)),(1000000,.elem 32 1 T0F 0 0)],(kM l12 i13 i11 l14 w10 r8 C70001 n15),[70001,1,2,3,5,6001],20000⟩ (an2 ob7 ob8) ?_;refine tN (AWp.seq ?_);obtain⟨ob9p,h⟩:=aB h;have ob9:0≤(n17:Int)∧n17≤IntKind.bits .u32:=⟨by omega,ob9p⟩;refine aR [57] [] ⟨70,[(2,.own 70001),(7,.own 26001),(8,.int .u32 i9),(9,.b16 w16),(11,.i (r8.getD n17 0)),(32,.own 26001),(33,.i (lZ r8)),(34,.i (n17:Int)),(43,.bool ((aT .and .u32 (i9/2^n17) (1:Int))==(1:Int))),(1000000,.elem 32 1 T0F 0 0)],(kM l12 i13 i11 l14 w10 r8 C70001 n15),[70001,1,2,3,5,6001],20000⟩ (an1 ob9) ?_;refine tN ?_;refine AWp.cond (b:=((aT .and .u32 (i9/2^n17) (1:Int))==(1:Int))) (by kernel_rfl) (fun hc4=> ?_) (fun hc4=> ?_)
       ·
        replace h:=aK hc4 h;obtain⟨ob10,h⟩:=aB h;refine aR [57] [] ⟨70,[(2,.own 70001),(7,.own 26001),(8,.int .u32 i9),(9,.b16 (w16|||((bD 1)<<<(((r8.getD n17 0)).toNat)))),(32,.own 26001),(33,.i (lZ r8)),(34,.i (n17:Int)),(1000000,.elem 32 1 T0F 0 0)],(kM l12 i13 i11 l14 w10 r8 C70001 n15),[70001,1,2,3,5,6001],20000⟩ (an1 ob10) ?_;refine kN ?_;exact jN ((w16|||((bD 1)<<<(((r8.getD n17 0)).toNat)))) (Le.mk rfl rfl ⟨.refl _,.refl _,.refl _,.refl _,.refl _,.refl _,.refl _,.refl _,trivial⟩ ⟨⟨_,rfl,.refl _⟩,⟨_,rfl,.refl _⟩,⟨_,rfl,.refl _⟩,⟨_,rfl,.refl _⟩,⟨_,rfl,.refl _⟩,⟨_,rfl,.refl _⟩,⟨_,rfl,.refl _⟩,⟨_,rfl,.refl _⟩,trivial⟩) h
       ·
        replace h:=aL hc4 h;refine AWp.skip (kN ?_);exact jN (w16) (Le.mk rfl rfl ⟨.refl _,.refl _,.refl _,.refl _,.refl _,.refl _,.refl _,.refl _,trivial⟩ ⟨⟨_,rfl,.refl _⟩,⟨_,rfl,.refl _⟩,⟨_,rfl,.refl _⟩,⟨_,rfl,.refl _⟩,⟨_,rfl,.refl _⟩,⟨_,rfl,.refl _⟩,⟨_,rfl,.refl _⟩,⟨_,rfl,.refl _⟩,trivial⟩) h
      ·
       rintro w18 h;replace h:=(congrFun hK3 _).symm.trans h;obtain⟨ob11p,h⟩:=aB h;have ob11: -9223372036854775808≤((n17:Int)+(1:Int))∧((n17:Int)+(1:Int))≤9223372036854775807:=⟨by omega,ob11p⟩;refine aR [57] [] ⟨70,[(2,.own 70001),(7,.own 26001),(8,.int .u32 i9),(9,.b16 w18),(32,.own 26001),(33,.i (lZ r8)),(34,.i (((n17+1):Nat):Int)),(1000000,.elem 32 1 T0F 0 0)],(kM l12 i13 i11 l14 w10 r8 C70001 n15),[70001,1,2,3,5,6001],20000⟩ (an1 ob11) ?_;rw[hC1]at h;exact lN (_,w18,(n17+1)) (Le.mk rfl rfl ⟨.refl _,.refl _,.refl _,.refl _,.refl _,.refl _,.refl _,.refl _,trivial⟩ ⟨⟨_,rfl,.refl _⟩,⟨_,rfl,.refl _⟩,⟨_,rfl,.refl _⟩,⟨_,rfl,.refl _⟩,⟨_,rfl,.refl _⟩,⟨_,rfl,.refl _⟩,⟨_,rfl,.refl _⟩,⟨_,rfl,.refl _⟩,trivial⟩) h (Nat.lt_succ_self _)
     ·
      replace h:=aL hc3 h;refine AWp.exit (tE (tE (kS ?_)));exact jN (w16) (Le.mk rfl rfl ⟨.refl _,.refl _,.refl _,.refl _,.refl _,trivial⟩ ⟨⟨_,rfl,.refl _⟩,⟨_,rfl,.refl _⟩,⟨_,rfl,.refl _⟩,⟨_,rfl,.refl _⟩,⟨_,rfl,.refl _⟩,⟨_,rfl,.refl _⟩,⟨_,rfl,.refl _⟩,⟨_,rfl,.refl _⟩,trivial⟩) h
    ·
     rintro w19 h;replace h:=(congrFun hK2 _).symm.trans h;obtain⟨K4,hK4,h⟩:=aU h;refine AWp.join (α:=BitVec 16×Int×(f73z7)×Int×List (BitVec 16)×Nat) (fun(x:BitVec 16×Int×(f73z7)×Int×List (BitVec 16)×Nat)=>match x with|(w21,i22,l23,i24,l25,n26)=>⟨70,[(2,.own 70001),(7,.own 26001),(8,.int .u32 i9),(1000000,.elem 32 1 T0F 0 0)],(f73z1 l23 i24 i22 l25 w21 r8 C70001 n26),[70001,1,2,3,5,6001],20000⟩) (fun x=>K4 x=some r) ?_ ?_
     ·
      refine AWp.seq ?_;obtain⟨hz5,h⟩:=aB h;refine AWp.le (Le.mk (s':=⟨70,[(2,.own 70001),(7,.own 26001),(8,.int .u32 i9),(9,.b16 w19),(1000000,.elem 32 1 T0F 0 0)],[(1,.cells 28 (f73z9 l12 i13)),(2,.cells 30 [.nils]),(3,.cells 31 [.i i11]),(5,.cells 30 [.own 6000]),(6000,aA l14),(6001,.cells 49 [.b16 w10]),(26001,aJ r8),(70001,.yld (some ([1,2,3,5],C70001)) 0)],[70001,1,2,3,5,6001],20000⟩) rfl rfl ⟨.refl _,.refl _,.refl _,.refl _,.refl _,trivial⟩ ⟨⟨_,rfl,.refl _⟩,⟨_,rfl,.refl _⟩,⟨_,rfl,.refl _⟩,⟨_,rfl,.refl _⟩,⟨_,rfl,.refl _⟩,⟨_,rfl,.refl _⟩,⟨_,rfl,.refl _⟩,⟨_,rfl,BLe.yldEq hz5⟩,trivial⟩) ?_;obtain⟨r20,hr20,h⟩:=bind_ok h;by_cases hy_r20:r20.1=0
      ·
       replace h:=fG hy_r20 h;refine aR [57] [(2,⟨[.b16 w19],[70001,1,2,3,5,6000,6001],[1,2,3,5,6001],(f73z6 C70001 r20),.bool true,[6000],[],[]⟩)] ⟨70,[(2,.own 70001),(7,.own 26001),(8,.int .u32 i9),(52,.bool (!true)),(1000000,.elem 32 1 T0F 0 0)],[(1,.cells 28 (vR r20)),(2,.cells 30 [.nils]),(3,.cells 31 [.i r20.2.2.2.1]),(5,.cells 30 [.own 6000]),(6000,aA r20.2.2.2.2.1),(6001,.cells 49 [.b16 r20.2.2.2.2.2]),(26001,aJ r8),(70001,.yld (some ([1,2,3,5],C70001)) 0)],[70001,1,2,3,5,6001],20000⟩ (an1 (show(((f73z6 C70001 r20):aG)=(70001,.yld (some ([1,2,3,5],C70001)) 0)::(f73z4 r20)∧V.bool true=V.bool (0==0)∧dG Tryd.prog 70001 [1,2,3,5] C70001 [1,2,3,5,6001] [(1,.cells 28 (f73z9 l12 i13)),(2,.cells 30 [.nils]),(3,.cells 31 [.i i11]),(5,.cells 30 [.own 6000]),(6000,aA l14),(6001,.cells 49 [.b16 w10])] [.b16 w19] 0 (f73z4 r20)∧eQ [.b16 w19] [.b16 w19])from⟨rfl,rfl,(dG.zero (hY70001 _ _ r20 hr20) hy_r20),⟨.refl _,trivial⟩⟩)) ?_;refine tN ?_;refine AWp.cond (b:=(!true)) (by kernel_rfl) (fun hc7=> ?_) (fun hc7=> ?_)
       ·
        replace h:=aK hc7 h;refine aM [57] [] ⟨70,[(6,.bool false),(1000000,.elem 32 1 T0F 0 0)],[(1,.cells 28 (vR r20)),(2,.cells 30 [.nils]),(3,.cells 31 [.i r20.2.2.2.1]),(5,.cells 30 [.own 6000]),(6000,aA r20.2.2.2.2.1),(6001,.cells 49 [.b16 r20.2.2.2.2.2]),(70001,.yld (some ([1,2,3,5],C70001)) 0)],[70001,1,2,3,5,6001],20000⟩ trivial ?_;have hret:=Option.some.inj h;subst hret;refine AWp.le (Le.mk (s':=⟨70,[(6,.bool false)],(f73z6 C70001 r20),[70001,1,2,3,5,6001],20000⟩) rfl rfl ⟨.refl _,trivial⟩ ⟨⟨_,rfl,.refl _⟩,⟨_,rfl,.refl _⟩,⟨_,rfl,.refl _⟩,⟨_,rfl,.refl _⟩,⟨_,rfl,.refl _⟩,⟨_,rfl,.refl _⟩,⟨_,rfl,.refl _⟩,trivial⟩) ?_;refine AWp.ret (aV (kR (tR (kR (aV ?_)))));exact bR _ rfl ⟨rfl,rfl⟩ rfl
       ·
        replace h:=aL hc7 h;refine AWp.skip ?_;exact jN (r20.2.2.2.2.2,r20.2.2.2.1,r20.2.1,r20.2.2.1,r20.2.2.2.2.1,0) (Le.mk rfl rfl ⟨.refl _,.refl _,.refl _,.refl _,trivial⟩ ⟨⟨_,rfl,.refl _⟩,⟨_,rfl,.refl _⟩,⟨_,rfl,.refl _⟩,⟨_,rfl,.refl _⟩,⟨_,rfl,.refl _⟩,⟨_,rfl,.refl _⟩,⟨_,rfl,.refl _⟩,⟨_,rfl,.refl _⟩,trivial⟩) h
      ·
       replace h:=fH hy_r20 h;refine aR [57] [(2,⟨[.b16 w19],[70001,1,2,3,5,6000,6001],[1,2,3,5,6001],(f73z5 C70001 r20),.bool false,[6000],[],[]⟩)] ⟨70,[(2,.own 70001),(7,.own 26001),(8,.int .u32 i9),(52,.bool (!false)),(1000000,.elem 32 1 T0F 0 0)],[(1,.cells 28 (vR r20)),(2,.cells 30 [.nils]),(3,.cells 31 [.i r20.2.2.2.1]),(5,.cells 30 [.own 6000]),(6000,aA r20.2.2.2.2.1),(6001,.cells 49 [.b16 r20.2.2.2.2.2]),(26001,aJ r8),(70001,.yld (some ([1,2,3,5],C70001)) r20.1)],[70001,1,2,3,5,6001],20000⟩ (an1 (show(((f73z5 C70001 r20):aG)=(70001,.yld (some ([1,2,3,5],C70001)) r20.1)::(f73z4 r20)∧V.bool false=V.bool (r20.1==0)∧dG Tryd.prog 70001 [1,2,3,5] C70001 [1,2,3,5,6001] [(1,.cells 28 (f73z9 l12 i13)),(2,.cells 30 [.nils]),(3,.cells 31 [.i i11]),(5,.cells 30 [.own 6000]),(6000,aA l14),(6001,.cells 49 [.b16 w10])] [.b16 w19] r20.1 (f73z4 r20)∧eQ [.b16 w19] [.b16 w19])from⟨rfl,rC hy_r20,(hY70001 _ _ r20 hr20),⟨.refl _,trivial⟩⟩)) ?_;refine tN ?_;refine AWp.cond (b:=(!false)) (by kernel_rfl) (fun hc8=> ?_) (fun hc8=> ?_)
       ·
        replace h:=aK hc8 h;refine aM [57] [] ⟨70,[(6,.bool false),(1000000,.elem 32 1 T0F 0 0)],[(1,.cells 28 (vR r20)),(2,.cells 30 [.nils]),(3,.cells 31 [.i r20.2.2.2.1]),(5,.cells 30 [.own 6000]),(6000,aA r20.2.2.2.2.1),(6001,.cells 49 [.b16 r20.2.2.2.2.2]),(70001,.yld (some ([1,2,3,5],C70001)) r20.1)],[70001,1,2,3,5,6001],20000⟩ trivial ?_;have hret:=Option.some.inj h;subst hret;refine AWp.le (Le.mk (s':=⟨70,[(6,.bool false)],(f73z5 C70001 r20),[70001,1,2,3,5,6001],20000⟩) rfl rfl ⟨.refl _,trivial⟩ ⟨⟨_,rfl,.refl _⟩,⟨_,rfl,.refl _⟩,⟨_,rfl,.refl _⟩,⟨_,rfl,.refl _⟩,⟨_,rfl,.refl _⟩,⟨_,rfl,.refl _⟩,⟨_,rfl,.refl _⟩,trivial⟩) ?_;refine AWp.ret (aV (kR (tR (kR (aV ?_)))));exact bR _ rfl ⟨rfl,rfl⟩ rfl
       ·
        replace h:=aL hc8 h;refine AWp.skip ?_;exact jN (r20.2.2.2.2.2,r20.2.2.2.1,r20.2.1,r20.2.2.1,r20.2.2.2.2.1,r20.1) (Le.mk rfl rfl ⟨.refl _,.refl _,.refl _,.refl _,trivial⟩ ⟨⟨_,rfl,.refl _⟩,⟨_,rfl,.refl _⟩,⟨_,rfl,.refl _⟩,⟨_,rfl,.refl _⟩,⟨_,rfl,.refl _⟩,⟨_,rfl,.refl _⟩,⟨_,rfl,.refl _⟩,⟨_,rfl,.refl _⟩,trivial⟩) h
     ·
      rintro⟨w21,i22,l23,i24,l25,n26⟩ h;replace h:=(congrFun hK4 _).symm.trans h;refine AWp.seq ?_;refine aM [57] [] ⟨70,[(2,.own 70001),(7,.own 26001),(8,.int .u32 i9),(54,.bool (i9==(0:Int))),(1000000,.elem 32 1 T0F 0 0)],(f73z1 l23 i24 i22 l25 w21 r8 C70001 n26),[70001,1,2,3,5,6001],20000⟩ trivial ?_;refine AWp.cond (b:=(i9==(0:Int))) (by kernel_rfl) (fun hc9=> ?_) (fun hc9=> ?_)
      ·
       replace h:=aK hc9 h;refine AWp.exit (tE ?_);refine gQ (by decide) ?_;refine tE (kS ?_);exact jN (w21,i22,l23,i24,l25,n26) (Le.mk rfl rfl ⟨.refl _,trivial⟩ ⟨⟨_,rfl,.refl _⟩,⟨_,rfl,.refl _⟩,⟨_,rfl,.refl _⟩,⟨_,rfl,.refl _⟩,⟨_,rfl,.refl _⟩,⟨_,rfl,.refl _⟩,⟨_,rfl,.refl _⟩,trivial⟩) h
      ·
       replace h:=aL hc9 h;refine AWp.skip (tN ?_);refine aM [57] [] ⟨70,[(2,.own 70001),(7,.own 26001),(8,.int .u32 i9),(12,.int .u32 (aT .and .u32 i9 (IntKind.wrap .u32 (0-i9)))),(1000000,.elem 32 1 T0F 0 0)],(f73z1 l23 i24 i22 l25 w21 r8 C70001 n26),[70001,1,2,3,5,6001],20000⟩ (an1 trivial) ?_;refine AWp.seq ?_;obtain⟨ob12,h⟩:=aB h;refine aR [57] [] ⟨70,[(2,.own 70001),(7,.own 26001),(8,.int .u32 i9),(12,.int .u32 (aT .and .u32 i9 (IntKind.wrap .u32 (0-i9)))),(13,.int .u32 (i9+(aT .and .u32 i9 (IntKind.wrap .u32 (0-i9))))),(1000000,.elem 32 1 T0F 0 0)],(f73z1 l23 i24 i22 l25 w21 r8 C70001 n26),[70001,1,2,3,5,6001],20000⟩ (an1 ob12) ?_;refine tN ?_;obtain⟨ob13,ob14p,h⟩:=ck2 h;have ob14:0≤(2:Int)∧2≤IntKind.bits .u32:=⟨by omega,ob14p⟩;refine aR [57] [] ⟨70,[(2,.own 70001),(7,.own 26001),(8,.int .u32 (aT .or .u32 (i9+(aT .and .u32 i9 (IntKind.wrap .u32 (0-i9)))) (((aT .xor .u32 i9 (i9+(aT .and .u32 i9 (IntKind.wrap .u32 (0-i9)))))/(aT .and .u32 i9 (IntKind.wrap .u32 (0-i9))))/2^2))),(1000000,.elem 32 1 T0F 0 0)],(f73z1 l23 i24 i22 l25 w21 r8 C70001 n26),[70001,1,2,3,5,6001],20000⟩ (an2 ob13 ob14) ?_;refine kN ?_;rw[hC0]at h;exact lN (_,(aT .or .u32 (i9+(aT .and .u32 i9 (IntKind.wrap .u32 (0-i9)))) (((aT .xor .u32 i9 (i9+(aT .and .u32 i9 (IntKind.wrap .u32 (0-i9)))))/(aT .and .u32 i9 (IntKind.wrap .u32 (0-i9))))/2^2)),w21,i22,l23,i24,l25,n26) (Le.mk rfl rfl ⟨.refl _,.refl _,.refl _,.refl _,trivial⟩ ⟨⟨_,rfl,.refl _⟩,⟨_,rfl,.refl _⟩,⟨_,rfl,.refl _⟩,⟨_,rfl,.refl _⟩,⟨_,rfl,.refl _⟩,⟨_,rfl,.refl _⟩,⟨_,rfl,.refl _⟩,⟨_,rfl,.refl _⟩,trivial⟩) h (Nat.lt_succ_self _)
   ·
    replace h:=aL hc2 h;refine AWp.exit (tE (tE (kS ?_)));exact jN (w10,i11,l12,i13,l14,n15) (Le.mk rfl rfl ⟨.refl _,trivial⟩ ⟨⟨_,rfl,.refl _⟩,⟨_,rfl,.refl _⟩,⟨_,rfl,.refl _⟩,⟨_,rfl,.refl _⟩,⟨_,rfl,.refl _⟩,⟨_,rfl,.refl _⟩,⟨_,rfl,.refl _⟩,trivial⟩) h
  ·
   rintro⟨w20,i21,l22,i23,l24,n25⟩ h;replace h:=(congrFun hK1 _).symm.trans h;refine aM [57] [] ⟨70,[(6,.bool true),(1000000,.elem 32 1 T0F 0 0)],[(1,.cells 28 [aO l22,.i i23]),(2,.cells 30 [.nils]),(3,.cells 31 [.i i21]),(5,.cells 30 [.own 6000]),(6000,aA l24),(6001,.cells 49 [.b16 w20]),(70001,.yld (some ([1,2,3,5],C70001)) n25)],[70001,1,2,3,5,6001],20000⟩ trivial ?_;have hret:=Option.some.inj h;subst hret;refine AWp.le (Le.mk (s':=⟨70,[(6,.bool true)],[(70001,.yld (some ([1,2,3,5],C70001)) n25),(1,.cells 28 [aO l22,.i i23]),(2,.cells 30 [.nils]),(3,.cells 31 [.i i21]),(5,.cells 30 [.own 6000]),(6000,aA l24),(6001,.cells 49 [.b16 w20])],[70001,1,2,3,5,6001],20000⟩) rfl rfl ⟨.refl _,trivial⟩ ⟨⟨_,rfl,.refl _⟩,⟨_,rfl,.refl _⟩,⟨_,rfl,.refl _⟩,⟨_,rfl,.refl _⟩,⟨_,rfl,.refl _⟩,⟨_,rfl,.refl _⟩,⟨_,rfl,.refl _⟩,trivial⟩) ?_;refine AWp.ret ?_;exact bR _ rfl ⟨rfl,rfl⟩ rfl
def fX (Y70001:Ty2→(BitVec 16)→Option (Nat×Ty2)):Nat→(Nat×BitVec 16×Int×Ty4×Int×List (BitVec 16)×Nat)→Option (Nat×Ty4×Int×Int×List (BitVec 16)×BitVec 16)
 |0,_=>none
 |k+1,(n6,w7,i9,l10,i11,l12,n13)=>
  chk (n13=0)<|
  (f72 w7).bind fun(r14:Int)=>
  if(decide ((n6:Int)≤r14))=true then(
  (f73 Y70001 w7 (n6:Int) l10 i11 i9 l12 w7).bind fun(r15:Bool×Nat×Ty4×Int×Int×List (BitVec 16)×BitVec 16)=>
  if r15.1 then(
  chk (((n6:Int)+(1:Int))≤9223372036854775807)<|
  (fX Y70001 k) ((n6+1),r15.2.2.2.2.2.2,r15.2.2.2.2.1,r15.2.2.1,r15.2.2.2.1,r15.2.2.2.2.2.1,r15.2.1)
  )else(
  some (r15.2.1,r15.2.2.1,r15.2.2.2.1,r15.2.2.2.2.1,r15.2.2.2.2.2.1,r15.2.2.2.2.2.2)
  )
  )else(
  some (0,l10,i11,i9,l12,w7)
  )
abbrev f71z0 (r15:Bool×Nat×Ty4×Int×Int×List (BitVec 16)×BitVec 16) (C70001:YC):aG:=[(1,.cells 28 [vL 5 bY (default:Int×Int×Int×List Int×List Int) r15.2.2.1,.int .i64 r15.2.2.2.1]),(2,.cells 30 [.nils]),(3,.cells 31 [.int .i64 r15.2.2.2.2.1]),(5,.cells 30 [.own 6000]),(6000,bL 49 1 eW 0#16 r15.2.2.2.2.2.1),(6001,.cells 49 [.b16 r15.2.2.2.2.2.2]),(70001,.yld (some ([1,2,3,5],C70001)) r15.2.1)]
abbrev f71z1 (l10:List Ty0) (i11:Int):List V:=[vL 5 bY (default:Int×Int×Int×List Int×List Int) l10,.int .i64 i11]
def f71 (Y70001:Ty2→(BitVec 16)→Option (Nat×Ty2)) (x1:List Ty0) (x2 x3:Int) (x4:List (BitVec 16)) (x5:BitVec 16):Option (Nat×Ty4×Int×Int×List (BitVec 16)×BitVec 16):=
 fX Y70001 bG (0,x5,x3,x1,x2,x4,0)
theorem f71_ok (C70001:YC) (Y70001:Ty2→(BitVec 16)→Option (Nat×Ty2)) (x1:List Ty0) (x2 x3:Int) (x4:List (BitVec 16)) (x5:BitVec 16) (r:Nat×Ty4×Int×Int×List (BitVec 16)×BitVec 16) (h:f71 Y70001 x1 x2 x3 x4 x5=some r) (hY70001:∀s x r,Y70001 s x=some r→dG Tryd.prog 70001 [1,2,3,5] C70001 [1,2,3,5,6001] [(1,.cells 28 [vL 5 bY (default:Int×Int×Int×List Int×List Int) s.1,.int .i64 s.2.1]),(2,.cells 30 [.nils]),(3,.cells 31 [.int .i64 s.2.2.1]),(5,.cells 30 [.own 6000]),(6000,bL 49 1 eW 0#16 s.2.2.2.1),(6001,.cells 49 [.b16 s.2.2.2.2])] [.b16 x] r.1 [(1,.cells 28 [vL 5 bY (default:Int×Int×Int×List Int×List Int) r.2.1,.int .i64 r.2.2.1]),(2,.cells 30 [.nils]),(3,.cells 31 [.int .i64 r.2.2.2.1]),(5,.cells 30 [.own 6000]),(6000,bL 49 1 eW 0#16 r.2.2.2.2.1),(6001,.cells 49 [.b16 r.2.2.2.2.2])]):aF Tryd.prog 71 [(0,.elem 32 1 T0F 0 0)] [70001,1,2,3,5,6001] [(70001,.yld (some ([1,2,3,5],C70001)) 0),(1,.cells 28 [vL 5 bY (default:Int×Int×Int×List Int×List Int) x1,.int .i64 x2]),(2,.cells 30 [.nils]),(3,.cells 31 [.int .i64 x3]),(5,.cells 30 [.own 6000]),(6000,bL 49 1 eW 0#16 x4),(6001,.cells 49 [.b16 x5])] [.own 70001,.ptr 6001 0] (.tup []) [(70001,.yld (some ([1,2,3,5],C70001)) r.1),(1,.cells 28 [vL 5 bY (default:Int×Int×Int×List Int×List Int) r.2.1,.int .i64 r.2.2.1]),(2,.cells 30 [.nils]),(3,.cells 31 [.int .i64 r.2.2.2.1]),(5,.cells 30 [.own 6000]),(6000,bL 49 1 eW 0#16 r.2.2.2.2.1),(6001,.cells 49 [.b16 r.2.2.2.2.2])]:=by
 unfold f71 at h;refine aF.body 10000 _ _ Tryd.func71 rfl Tryd.ntmps71 rfl rfl ?_;refine aM [] [] ⟨16,[(0,.own 70001),(1,.ptr 6001 0),(3,.i (0:Int)),(1000000,.elem 32 1 T0F 0 0)],[(1,.cells 28 [aO x1,.i x2]),(2,.cells 30 [.nils]),(3,.cells 31 [.i x3]),(5,.cells 30 [.own 6000]),(6000,aA x4),(6001,.cells 49 [.b16 x5]),(70001,.yld (some ([1,2,3,5],C70001)) 0)],[70001,1,2,3,5,6001],10000⟩ trivial ?_;refine AWp.block ?_;refine AWp.loopL (α:=Nat×(Nat×BitVec 16×Int×Ty4×Int×List (BitVec 16)×Nat)) (fun x=>match x with|(_,n6,w7,i9,l10,i11,l12,n13)=>⟨16,[(0,.own 70001),(1,.ptr 6001 0),(3,.i (n6:Int)),(1000000,.elem 32 1 T0F 0 0)],[(1,.cells 28 (f71z1 l10 i11)),(2,.cells 30 [.nils]),(3,.cells 31 [.i i9]),(5,.cells 30 [.own 6000]),(6000,aA l12),(6001,.cells 49 [.b16 w7]),(70001,.yld (some ([1,2,3,5],C70001)) n13)],[70001,1,2,3,5,6001],10000⟩) (fun x=>fX Y70001 x.1 x.2=some r) (fun x=>x.1) (bG,0,x5,x3,x1,x2,x4,0) (Le.mk (s':=⟨16,[(0,.own 70001),(1,.ptr 6001 0),(3,.i (0:Int)),(1000000,.elem 32 1 T0F 0 0)],[(1,.cells 28 [aO x1,.i x2]),(2,.cells 30 [.nils]),(3,.cells 31 [.i x3]),(5,.cells 30 [.own 6000]),(6000,aA x4),(6001,.cells 49 [.b16 x5]),(70001,.yld (some ([1,2,3,5],C70001)) 0)],[70001,1,2,3,5,6001],10000⟩) rfl rfl ⟨.refl _,.refl _,.refl _,.refl _,trivial⟩ ⟨⟨_,rfl,.refl _⟩,⟨_,rfl,.refl _⟩,⟨_,rfl,.refl _⟩,⟨_,rfl,.refl _⟩,⟨_,rfl,.refl _⟩,⟨_,rfl,.refl _⟩,⟨_,rfl,.refl _⟩,trivial⟩) h ?_
 rintro⟨k0,n6,w7,i9,l10,i11,l12,n13⟩ h
 cases k0 with
 |zero=>exact nomatch (show(none:Option (Nat×Ty4×Int×Int×List (BitVec 16)×BitVec 16))=some r from h)
 |succ k0=>
 obtain⟨C0,hC0⟩:∃C,C=fX Y70001 k0:=⟨_,rfl⟩;replace h:=(fX.eq_2 ..).symm.trans h
 try rw[←hC0]at h
 refine AWp.seq (AWp.seq ?_);obtain⟨hz1,h⟩:=aB h;refine AWp.le (Le.mk (s':=⟨16,[(0,.own 70001),(1,.ptr 6001 0),(3,.i (n6:Int)),(1000000,.elem 32 1 T0F 0 0)],[(1,.cells 28 (f71z1 l10 i11)),(2,.cells 30 [.nils]),(3,.cells 31 [.i i9]),(5,.cells 30 [.own 6000]),(6000,aA l12),(6001,.cells 49 [.b16 w7]),(70001,.yld (some ([1,2,3,5],C70001)) 0)],[70001,1,2,3,5,6001],10000⟩) rfl rfl ⟨.refl _,.refl _,.refl _,.refl _,trivial⟩ ⟨⟨_,rfl,.refl _⟩,⟨_,rfl,.refl _⟩,⟨_,rfl,.refl _⟩,⟨_,rfl,.refl _⟩,⟨_,rfl,.refl _⟩,⟨_,rfl,.refl _⟩,⟨_,rfl,BLe.yldEq hz1⟩,trivial⟩) ?_;obtain⟨r14,hr14,h⟩:=bind_ok h;by_cases hg1_4:(decide ((n6:Int)≤r14))=true
 ·
  replace h:=fG hg1_4 h;obtain⟨r15,hr15,h⟩:=bind_ok h;have ob0:=idA (true=true);have ob1:=idA (true=true);have ob2:=idA (true=true);refine aR [] [(2,⟨[.b16 w7],[],[],[],.i r14,[],[],[]⟩),(4,⟨[],[],[],[],(.bool true),[],[0],[]⟩),(8,⟨[.b16 w7,.i (n6:Int),.own 70001],[70001,1,2,3,5,6000,6001],[70001,1,2,3,5,6001],[(70001,.yld (some ([1,2,3,5],C70001)) r15.2.1),(1,.cells 28 [aO r15.2.2.1,.i r15.2.2.2.1]),(2,.cells 30 [.nils]),(3,.cells 31 [.i r15.2.2.2.2.1]),(5,.cells 30 [.own 6000]),(6000,aA r15.2.2.2.2.2.1),(6001,.cells 49 [.b16 r15.2.2.2.2.2.2])],.bool r15.1,[6000],[],[0]⟩)] ⟨16,[(0,.own 70001),(1,.ptr 6001 0),(3,.i (n6:Int)),(13,.bool r15.1),(1000000,.elem 32 1 T0F 0 0)],(f71z0 r15 C70001),[70001,1,2,3,5,6001],10000⟩ (an4 (cpT (lG _ _ hr14)) (show((.bool (decide ((n6:Int)≤r14))):V)=(.bool true)from(congrArg (fun x=>((.bool x):V)) hg1_4)) (And.intro (cpT (f73_ok C70001 _ _ _ _ _ _ _ _ _ hr15 hY70001)) (an3 ob0 ob1 ob2)) trivial) ?_;refine tN ?_;refine AWp.cond (b:=r15.1) (by kernel_rfl) (fun hc3=> ?_) (fun hc3=> ?_)
  ·
   replace h:=aK hc3 h;refine AWp.skip (tN (AWp.seq (AWp.block (AWp.skip (kN (tN ?_))))));obtain⟨ob4p,h⟩:=aB h;have ob4: -9223372036854775808≤((n6:Int)+(1:Int))∧((n6:Int)+(1:Int))≤9223372036854775807:=⟨by omega,ob4p⟩;refine aR [] [] ⟨16,[(0,.own 70001),(1,.ptr 6001 0),(3,.i (((n6+1):Nat):Int)),(1000000,.elem 32 1 T0F 0 0)],(f71z0 r15 C70001),[70001,1,2,3,5,6001],10000⟩ (an1 ob4) ?_;rw[hC0]at h;exact lN (_,(n6+1),r15.2.2.2.2.2.2,r15.2.2.2.2.1,r15.2.2.1,r15.2.2.2.1,r15.2.2.2.2.2.1,r15.2.1) (Le.mk rfl rfl ⟨.refl _,.refl _,.refl _,.refl _,trivial⟩ ⟨⟨_,rfl,.refl _⟩,⟨_,rfl,.refl _⟩,⟨_,rfl,.refl _⟩,⟨_,rfl,.refl _⟩,⟨_,rfl,.refl _⟩,⟨_,rfl,.refl _⟩,⟨_,rfl,.refl _⟩,trivial⟩) h (Nat.lt_succ_self _)
  ·
   replace h:=aL hc3 h;refine AWp.exit (tE (tE (kS ?_)));have hret:=Option.some.inj h;subst hret;exact fU (Le.mk (s':=⟨16,[],[(70001,.yld (some ([1,2,3,5],C70001)) r15.2.1),(1,.cells 28 [aO r15.2.2.1,.i r15.2.2.2.1]),(2,.cells 30 [.nils]),(3,.cells 31 [.i r15.2.2.2.2.1]),(5,.cells 30 [.own 6000]),(6000,aA r15.2.2.2.2.2.1),(6001,.cells 49 [.b16 r15.2.2.2.2.2.2])],[70001,1,2,3,5,6001],10000⟩) rfl rfl trivial ⟨⟨_,rfl,.refl _⟩,⟨_,rfl,.refl _⟩,⟨_,rfl,.refl _⟩,⟨_,rfl,.refl _⟩,⟨_,rfl,.refl _⟩,⟨_,rfl,.refl _⟩,⟨_,rfl,.refl _⟩,trivial⟩) (cR _ rfl ⟨rfl,rfl⟩ rfl)
 ·
  replace h:=fH hg1_4 h;have ob0:=idA (false=true);have ob1:=idA (false=true);have ob2:=idA (false=true);have ob3:true=true→false=true→false=true:=fun _ h=>h;refine aR [] [(2,⟨[.b16 w7],[],[],[],.i r14,[],[],[]⟩),(4,⟨[],[],[],[],(.bool false),[],[0],[]⟩),(8,⟨[],[],[],[],.bool false,[],[],[]⟩)] ⟨16,[(0,.own 70001),(1,.ptr 6001 0),(3,.i (n6:Int)),(13,.bool false),(1000000,.elem 32 1 T0F 0 0)],[(1,.cells 28 (f71z1 l10 i11)),(2,.cells 30 [.nils]),(3,.cells 31 [.i i9]),(5,.cells 30 [.own 6000]),(6000,aA l12),(6001,.cells 49 [.b16 w7]),(70001,.yld (some ([1,2,3,5],C70001)) 0)],[70001,1,2,3,5,6001],10000⟩ (an4 (cpT (lG _ _ hr14)) (show((.bool (decide ((n6:Int)≤r14))):V)=(.bool false)from(congrArg (fun x=>((.bool x):V)) (Bool.eq_false_iff.2 hg1_4))) (And.intro (show(jY Tryd.prog false 73 [] [] [] [] [] [.b16 w7,.i (n6:Int),.own 70001] [] (.bool false) [])from⟨nofun,nofun,.inl rfl⟩) (an3 ob0 ob1 ob2)) ob3) ?_;refine tN ?_;refine AWp.cond (b:=false) (by kernel_rfl) (fun hc=> ?_) (fun hc=> ?_)
  ·
   cases hc
  ·
   clear hc;refine AWp.exit (tE (tE (kS ?_)));have hret:=Option.some.inj h;subst hret;exact fU (Le.mk (s':=⟨16,[],[(70001,.yld (some ([1,2,3,5],C70001)) 0),(1,.cells 28 (f71z1 l10 i11)),(2,.cells 30 [.nils]),(3,.cells 31 [.i i9]),(5,.cells 30 [.own 6000]),(6000,aA l12),(6001,.cells 49 [.b16 w7])],[70001,1,2,3,5,6001],10000⟩) rfl rfl trivial ⟨⟨_,rfl,.refl _⟩,⟨_,rfl,.refl _⟩,⟨_,rfl,.refl _⟩,⟨_,rfl,.refl _⟩,⟨_,rfl,.refl _⟩,⟨_,rfl,.refl _⟩,⟨_,rfl,.refl _⟩,trivial⟩) (cR _ rfl ⟨rfl,rfl⟩ rfl)
def gK :Ty2→(BitVec 16)→Option (Nat×Ty2)
 |(l8,i9,i7,l10,w6),x11=>
  (f30 l8 i9 x11).bind fun(r12:Bool)=>
  rI ((!r12)==false) (f31 l10 x11) fun(r13:Bool)=>
  if((!r12)||r13)then(
  some (0,(l8,i9,i7,l10,w6))
  )else(
  if((((l10).length:Nat):Int)==(400:Int))then(
  some (2,(l8,i9,(3:Int),l10,w6))
  )else(
  chk (((l10).length+1) *2≤140737488355328)<|
  some (0,(l8,i9,i7,(l10++[x11]),w6))
  )
  )
abbrev f8z0 (l8:List Ty0) (i9 i7:Int) (l10:List (BitVec 16)) (w6:BitVec 16):aG:=[(1,.cells 28 [vL 5 bY (default:Int×Int×Int×List Int×List Int) l8,.int .i64 i9]),(2,.cells 30 [.nils]),(3,.cells 31 [.int .i64 i7]),(5,.cells 30 [.own 6000]),(6000,bL 49 1 eW 0#16 l10),(6001,.cells 49 [.b16 w6])]
abbrev f8z1 (x1:List Ty0) (x2:Int):List V:=[vL 5 bY (default:Int×Int×Int×List Int×List Int) x1,.int .i64 x2]
abbrev f8z2 (l8:List Ty0) (i9:Int):List V:=[vL 5 bY (default:Int×Int×Int×List Int×List Int) l8,.int .i64 i9]
abbrev f8z3 :List V:=[.int .i64 (0:Int)]
def f8 (x1:List Ty0) (x2:Int):Option (List (BitVec 16)×Int):=
 (f27 x1 x2).bind fun(r3:Int)=>
 if(r3 !=(0:Int))then(
 some ([],r3)
 )else(
 (f29 x1 x2).bind fun(r4:BitVec 16)=>
 (f28 r4).bind fun(r5:BitVec 16)=>
 (f71 gK x1 x2 (0:Int) [] r5).bind fun(r14:Nat×Ty4×Int×Int×List (BitVec 16)×BitVec 16)=>
 chk (r14.1≠1)<|
 if r14.1=0 then(
 some (r14.2.2.2.2.1,(0:Int))
 )else(
 if r14.1=2 then(
 some ([],r14.2.2.2.1)
 )else(
 none
 )
 )
 )
theorem f8_ok (x1:List Ty0) (x2:Int) (r:List (BitVec 16)×Int) (h:f8 x1 x2=some r):aF Tryd.prog 8 [(0,.elem 32 1 T0F 0 0)] [] [] [.agg [vL 5 bY (default:Int×Int×Int×List Int×List Int) x1,.int .i64 x2]] (.tup [vL 1 eW 0#16 r.1,.int .i64 r.2]) []:=by
 unfold f8 at h;refine aF.bodyD [2,3] 0 _ _ Tryd.func8 rfl Tryd.ntmps8 rfl rfl ?_;refine aM [] [] ⟨33,[(1,.ptr 1 0),(2,.ptr 2 0),(3,.ptr 3 0),(1000000,.elem 32 1 T0F 0 0)],[(1,.cells 28 (f8z1 x1 x2)),(2,.cells 30 [.nils]),(3,.cells 31 (f8z3))],[],0⟩ trivial ?_;refine AWp.seq (AWp.seq ?_);obtain⟨r3,hr3,h⟩:=bind_ok h;refine aR [] [(1,⟨[.agg (f8z1 x1 x2)],[],[],[],.i r3,[],[],[]⟩)] ⟨33,[(1,.ptr 1 0),(2,.ptr 2 0),(3,.ptr 3 0),(4,.i r3),(1000000,.elem 32 1 T0F 0 0)],[(1,.cells 28 (f8z1 x1 x2)),(2,.cells 30 [.nils]),(3,.cells 31 (f8z3))],[],0⟩ (an1 (cpT (xT _ _ _ hr3))) ?_;refine tN ?_;refine aM [] [] ⟨33,[(1,.ptr 1 0),(2,.ptr 2 0),(3,.ptr 3 0),(4,.i r3),(10,.bool (r3 !=(0:Int))),(1000000,.elem 32 1 T0F 0 0)],[(1,.cells 28 (f8z1 x1 x2)),(2,.cells 30 [.nils]),(3,.cells 31 (f8z3))],[],0⟩ trivial ?_;refine AWp.cond (b:=(r3 !=(0:Int))) (by kernel_rfl) (fun hc1=> ?_) (fun hc1=> ?_)
 ·
  replace h:=aK hc1 h;refine aM [] [] ⟨33,[(2,.ptr 2 0),(3,.ptr 3 0),(1000000,.elem 32 1 T0F 0 0)],[(2,.cells 30 [.nils]),(3,.cells 31 [.i r3])],[],0⟩ (an2 trivial trivial) ?_;have hret:=Option.some.inj h;subst hret;refine AWp.le (Le.mk (s':=⟨33,[(2,.ptr 2 0),(3,.ptr 3 0)],[(2,.cells 30 [aZ []]),(3,.cells 31 [.i r3])],[],0⟩) rfl rfl ⟨.refl _,.refl _,trivial⟩ ⟨⟨_,rfl,(.cellsL ⟨.nilL,trivial⟩)⟩,⟨_,rfl,.refl _⟩,trivial⟩) ?_;refine AWp.ret (tR ?_);exact bR _ rfl ⟨rfl,rfl⟩ rfl
 ·
  replace h:=aL hc1 h;refine AWp.skip (tN ?_);refine aM [] [] ⟨33,[(1,.ptr 1 0),(2,.ptr 2 0),(3,.ptr 3 0),(5,.ptr 5 0),(1000000,.elem 32 1 T0F 0 0)],[(1,.cells 28 (f8z1 x1 x2)),(2,.cells 30 [.nils]),(3,.cells 31 (f8z3)),(5,.cells 30 [.nils])],[],0⟩ trivial ?_;refine AWp.seq (AWp.seq ?_);obtain⟨r4,hr4,h⟩:=bind_ok h;obtain⟨r5,hr5,h⟩:=bind_ok h;refine aR [] [(1,⟨[.agg (f8z1 x1 x2)],[],[],[],.b16 r4,[],[],[]⟩),(2,⟨[.b16 r4],[],[],[(6001,.cells 49 [.b16 r5])],.fn (.func 71) [.ptr 6001 0],[6001],[],[]⟩)] ⟨33,[(1,.ptr 1 0),(2,.ptr 2 0),(3,.ptr 3 0),(5,.ptr 5 0),(14,.fn (.func 71) [.ptr 6001 0]),(1000000,.elem 32 1 T0F 0 0)],[(1,.cells 28 (f8z1 x1 x2)),(2,.cells 30 [.nils]),(3,.cells 31 (f8z3)),(5,.cells 30 [.nils]),(6001,.cells 49 [.b16 r5])],[],0⟩ (an2 (cpT (f29_ok _ _ _ hr4)) (cpT (aF.ren (aW 3500 6001) (aE 3500 6001) rfl (f28_ok _ _ hr5)))) ?_;refine tN (AWp.block ?_);refine AWp.le (Le.trans (Le.trans (Le.nilOwnC 5 0 6000 49 1 (cM eW 0#16 []) rfl rfl rfl) (Le.mk (s':=⟨33,[(1,.ptr 1 0),(2,.ptr 2 0),(3,.ptr 3 0),(5,.ptr 5 0),(14,.fn (.func 71) [.ptr 6001 0]),(1000000,.elem 32 1 T0F 0 0)],[(1,.cells 28 (f8z1 x1 x2)),(2,.cells 30 [.nils]),(3,.cells 31 (f8z3)),(5,.cells 30 [.own 6000]),(6001,.cells 49 [.b16 r5]),(6000,aA [])],[],0⟩) rfl rfl ⟨.refl _,.refl _,.refl _,.refl _,.refl _,.refl _,trivial⟩ ⟨⟨_,rfl,.refl _⟩,⟨_,rfl,.refl _⟩,⟨_,rfl,.refl _⟩,⟨_,rfl,.refl _⟩,⟨_,rfl,.refl _⟩,⟨_,rfl,.refl _⟩,trivial⟩)) (Le.mk (s':=⟨33,[(1,.ptr 1 0),(2,.ptr 2 0),(3,.ptr 3 0),(5,.ptr 5 0),(14,.fn (.func 71) [.ptr 6001 0]),(1000000,.elem 32 1 T0F 0 0)],[(1,.cells 28 (f8z1 x1 x2)),(2,.cells 30 [.nils]),(3,.cells 31 (f8z3)),(5,.cells 30 [.own 6000]),(6000,aA []),(6001,.cells 49 [.b16 r5])],[],0⟩) rfl rfl ⟨.refl _,.refl _,.refl _,.refl _,.refl _,.refl _,trivial⟩ ⟨⟨_,rfl,.refl _⟩,⟨_,rfl,.refl _⟩,⟨_,rfl,.refl _⟩,⟨_,rfl,.refl _⟩,⟨_,rfl,.refl _⟩,⟨_,rfl,.refl _⟩,trivial⟩)) ?_;obtain⟨r14,hr14,h⟩:=bind_ok h;obtain⟨hkr14,h⟩:=aB h;refine AWp.rangeFunc (s:=⟨33,[(1,.ptr 1 0),(2,.ptr 2 0),(3,.ptr 3 0),(5,.ptr 5 0),(14,.fn (.func 71) [.ptr 6001 0]),(1000000,.elem 32 1 T0F 0 0)],[(1,.cells 28 (f8z1 x1 x2)),(2,.cells 30 [.nils]),(3,.cells 31 (f8z3)),(5,.cells 30 [.own 6000]),(6000,aA []),(6001,.cells 49 [.b16 r5])],[],0⟩) 70001 [1,2,3,5] [1,2,3,5,1000000] [.ret] 71 [.ptr 6001 0] ⟨[.own 70001,.ptr 6001 0],[1,2,3,5,6000,6001],[70001,1,2,3,5,6001],[],.tup [],[6000],[],[0]⟩ r14.1 [(1,.cells 28 [aO r14.2.1,.i r14.2.2.1]),(2,.cells 30 [.nils]),(3,.cells 31 [.i r14.2.2.2.1]),(5,.cells 30 [.own 6000]),(6000,aA r14.2.2.2.2.1),(6001,.cells 49 [.b16 r14.2.2.2.2.2])] ⟨33,[(1,.ptr 1 0),(2,.ptr 2 0),(3,.ptr 3 0),(5,.ptr 5 0),(14,.fn (.func 71) [.ptr 6001 0]),(1000000,.elem 32 1 T0F 0 0)],[(1,.cells 28 [aO r14.2.1,.i r14.2.2.1]),(2,.cells 30 [.nils]),(3,.cells 31 [.i r14.2.2.2.1]),(5,.cells 30 [.own 6000]),(6000,aA r14.2.2.2.2.1),(6001,.cells 49 [.b16 r14.2.2.2.2.2])],[],0⟩ rfl (by kernel_rfl) (by kernel_rfl) (fun g0=> ?_) (fun C=>(by kernel_rfl)) (by kernel_rfl) (by kernel_rfl) (by kernel_rfl) (by kernel_rfl) hkr14 (by kernel_rfl) ?_ ?_
  ·
   refine⟨fun _=>(f71_ok _ gK x1 x2 (0:Int) [] r5 r14 hr14 ?_),fun _=>⟨.refl _,.refl _,trivial⟩,.inl rfl⟩;clear h;rintro⟨l8,i9,i7,l10,w6⟩ x11 rY70001 h;replace h:=(gK.eq_1 ..).symm.trans h;refine dG.body 0 rfl (of_decide_eq_true (by kernel_rfl)) (of_decide_eq_true (by kernel_rfl)) (eG (by kernel_rfl)) (by kernel_rfl) (by kernel_rfl) (by kernel_rfl) (by kernel_rfl) ?_;refine AWp.le (Le.mk (s':=⟨33,[(15,.b16 x11),(1,.ptr 1 0),(2,.ptr 2 0),(3,.ptr 3 0),(5,.ptr 5 0),(1000000,.elem 32 1 T0F 0 0)],(f8z0 l8 i9 i7 l10 w6),[1,2,3,5,6001],0⟩) rfl rfl ⟨.refl _,.refl _,.refl _,.refl _,.refl _,.refl _,trivial⟩ ⟨⟨_,rfl,.refl _⟩,⟨_,rfl,.refl _⟩,⟨_,rfl,.refl _⟩,⟨_,rfl,.refl _⟩,⟨_,rfl,.refl _⟩,⟨_,rfl,.refl _⟩,trivial⟩) ?_;refine aR [] [] ⟨33,[(1,.ptr 1 0),(2,.ptr 2 0),(3,.ptr 3 0),(5,.ptr 5 0),(6,.b16 x11),(1000000,.elem 32 1 T0F 0 0)],(f8z0 l8 i9 i7 l10 w6),[1,2,3,5,6001],0⟩ trivial ?_;refine⟨rfl,rfl, ?_⟩;refine AWp.block (AWp.seq (AWp.seq ?_));obtain⟨r12,hr12,h⟩:=bind_ok h;obtain⟨r13,hr13,h⟩:=cP h;have ob0:=idA (((!r12)==false)=true);have ob1:=idA (((!r12)==false)=true);have ob2:=bqA (!r12) false;refine aR [] [(2,⟨[.agg (f8z2 l8 i9),.b16 x11],[],[],[],.bool r12,[],[],[]⟩),(7,⟨[aZ l10,.b16 x11],[],[],[],.bool r13,[],[6000],[]⟩)] ⟨33,[(2,.ptr 2 0),(3,.ptr 3 0),(5,.ptr 5 0),(6,.b16 x11),(24,.bool ((!r12)||r13)),(1000000,.elem 32 1 T0F 0 0)],(f8z0 l8 i9 i7 l10 w6),[1,2,3,5,6001],0⟩ (an3 (cpT (f30_ok _ _ _ _ hr12)) (And.intro (cpL [(6000,aA l10)] [6000] [.own 6000,.b16 x11] (fun hc=>(tX _ _ _ (hr13 hc))) (fun _=>⟨.refl _,.refl _,trivial⟩) (.inr ⟨rfl,trivial⟩)) (an2 ob0 ob1)) ob2) ?_;refine tN ?_;refine AWp.cond (b:=((!r12)||r13)) (by kernel_rfl) (fun hc2=> ?_) (fun hc2=> ?_)
   ·
    replace h:=aK hc2 h;refine AWp.exit (tE (kS ?_));have hret:=Option.some.inj h;subst hret;exact⟨_,(Le.mk (s':=⟨33,[],(f8z0 l8 i9 i7 l10 w6),[1,2,3,5,6001],0⟩) rfl rfl trivial ⟨⟨_,rfl,.refl _⟩,⟨_,rfl,.refl _⟩,⟨_,rfl,.refl _⟩,⟨_,rfl,.refl _⟩,⟨_,rfl,.refl _⟩,⟨_,rfl,.refl _⟩,trivial⟩),rfl,rfl,.inl ⟨rfl,rfl⟩⟩
   ·
    replace h:=aL hc2 h;refine AWp.skip (tN (AWp.seq ?_));refine aM [] [] ⟨33,[(2,.ptr 2 0),(3,.ptr 3 0),(5,.ptr 5 0),(6,.b16 x11),(27,.bool ((lZ l10)==(400:Int))),(1000000,.elem 32 1 T0F 0 0)],(f8z0 l8 i9 i7 l10 w6),[1,2,3,5,6001],0⟩ trivial ?_;refine AWp.cond (b:=((lZ l10)==(400:Int))) (by kernel_rfl) (fun hc3=> ?_) (fun hc3=> ?_)
    ·
     replace h:=aK hc3 h;refine aM [] [] ⟨33,[(1000000,.elem 32 1 T0F 0 0)],[(1,.cells 28 (f8z2 l8 i9)),(2,.cells 30 [.nils]),(3,.cells 31 [.i (3:Int)]),(5,.cells 30 [.own 6000]),(6000,aA l10),(6001,.cells 49 [.b16 w6])],[1,2,3,5,6001],0⟩ (an2 trivial trivial) ?_;refine AWp.ret (tR (kR ?_));have hret:=Option.some.inj h;subst hret;exact⟨_,(Le.mk (s':=⟨33,[],[(1,.cells 28 (f8z2 l8 i9)),(2,.cells 30 [.nils]),(3,.cells 31 [.i (3:Int)]),(5,.cells 30 [.own 6000]),(6000,aA l10),(6001,.cells 49 [.b16 w6])],[1,2,3,5,6001],0⟩) rfl rfl trivial ⟨⟨_,rfl,.refl _⟩,⟨_,rfl,.refl _⟩,⟨_,rfl,.refl _⟩,⟨_,rfl,.refl _⟩,⟨_,rfl,.refl _⟩,⟨_,rfl,.refl _⟩,trivial⟩),rfl,rfl,.inr ⟨0,_,rfl,rfl,.inl ⟨rfl,rfl⟩⟩⟩
    ·
     replace h:=aL hc3 h;refine AWp.skip (tN ?_);obtain⟨ob3,h⟩:=aB h;refine aR [] [] ⟨33,[(1000000,.elem 32 1 T0F 0 0)],[(1,.cells 28 (f8z2 l8 i9)),(2,.cells 30 [.nils]),(3,.cells 31 [.i i7]),(5,.cells 30 [.own 6000]),(6000,.rows 49 1 ((l10).length+1) (kB (l10).length (cM eW 0#16 l10) (fZ 1 [.b16 x11]))),(6001,.cells 49 [.b16 w6])],[1,2,3,5,6001],0⟩ (an2 ob3 trivial) ?_;refine kN ?_;have hret:=Option.some.inj h;subst hret;exact⟨_,(Le.trans (Le.mk (s':=⟨33,[(1000000,.elem 32 1 T0F 0 0)],[(1,.cells 28 (f8z2 l8 i9)),(2,.cells 30 [.nils]),(3,.cells 31 [.i i7]),(5,.cells 30 [.own 6000]),(6000,aA (l10++[x11])),(6001,.cells 49 [.b16 w6])],[1,2,3,5,6001],0⟩) rfl rfl ⟨.refl _,trivial⟩ ⟨⟨_,rfl,.refl _⟩,⟨_,rfl,.refl _⟩,⟨_,rfl,.refl _⟩,⟨_,rfl,.refl _⟩,⟨_,rfl,(BLe.of (RL.app (RL.self _) (RL.lst (enc:=eW) [x11] rfl rfl (fun _=>rfl))))⟩,⟨_,rfl,.refl _⟩,trivial⟩) (Le.mk (s':=⟨33,[],[(1,.cells 28 (f8z2 l8 i9)),(2,.cells 30 [.nils]),(3,.cells 31 [.i i7]),(5,.cells 30 [.own 6000]),(6000,aA (l10++[x11])),(6001,.cells 49 [.b16 w6])],[1,2,3,5,6001],0⟩) rfl rfl trivial ⟨⟨_,rfl,.refl _⟩,⟨_,rfl,.refl _⟩,⟨_,rfl,.refl _⟩,⟨_,rfl,.refl _⟩,⟨_,rfl,.refl _⟩,⟨_,rfl,.refl _⟩,trivial⟩)),rfl,rfl,.inl ⟨rfl,rfl⟩⟩
  ·
   intro hk0;replace h:=fG hk0 h;refine kN (tN ?_);refine aM [] [] ⟨33,[(2,.ptr 2 0),(3,.ptr 3 0),(1000000,.elem 32 1 T0F 0 0)],[(2,.cells 30 [.own 6000]),(3,.cells 31 (f8z3)),(6000,aA r14.2.2.2.2.1)],[],0⟩ (an2 trivial trivial) ?_;refine AWp.le (Le.trans (Le.freeze 6000 rfl rfl) (Le.mk (s':=⟨33,[(2,.ptr 2 0),(3,.ptr 3 0),(1000000,.elem 32 1 T0F 0 0)],[(2,.cells 30 [aZ r14.2.2.2.2.1]),(3,.cells 31 (f8z3))],[],0⟩) rfl rfl ⟨.refl _,.refl _,.refl _,trivial⟩ ⟨⟨_,rfl,.refl _⟩,⟨_,rfl,.refl _⟩,trivial⟩)) ?_;have hret:=Option.some.inj h;subst hret;refine AWp.le (Le.mk (s':=⟨33,[(2,.ptr 2 0),(3,.ptr 3 0)],[(2,.cells 30 [aZ r14.2.2.2.2.1]),(3,.cells 31 (f8z3))],[],0⟩) rfl rfl ⟨.refl _,.refl _,trivial⟩ ⟨⟨_,rfl,.refl _⟩,⟨_,rfl,.refl _⟩,trivial⟩) ?_;refine AWp.ret ?_;exact bR _ rfl ⟨rfl,rfl⟩ rfl
  ·
   intro j hkj;replace h:=fH (by omega) h
   cases j with
   |zero=>
    replace h:=fG (by omega) h;refine⟨_,rfl, ?_⟩;have hret:=Option.some.inj h;subst hret;refine AWp.le (Le.mk (s':=⟨33,[(2,.ptr 2 0),(3,.ptr 3 0)],[(2,.cells 30 [aZ []]),(3,.cells 31 [.i r14.2.2.2.1])],[],0⟩) rfl rfl ⟨.refl _,.refl _,trivial⟩ ⟨⟨_,rfl,(.cellsL ⟨.nilL,trivial⟩)⟩,⟨_,rfl,.refl _⟩,trivial⟩) ?_;refine AWp.ret (kR (tR ?_))
    exact bR _ rfl ⟨rfl,rfl⟩ rfl
   |succ j=>
   replace h:=fH (by omega) h;exact nomatch (show(none:Option (List (BitVec 16)×Int))=some r from h)
def f102 (x1:Int):Option Bool:=
 some (x1 !=x1)
theorem f102_ok (x1:Int) (r:Bool) (h:f102 x1=some r):aF Tryd.prog 102 [] [] [] [.int .i64 x1] (.bool r) []:=by
 unfold f102 at h;refine aF.body 0 _ _ Tryd.func102 rfl Tryd.ntmps102 rfl rfl ?_;refine aM [] [] ⟨6,[(0,.i x1)],[],[],0⟩ trivial ?_;refine aM [] [] ⟨6,[(2,.bool (x1 !=x1))],[],[],0⟩ trivial ?_;have hret:=Option.some.inj h;subst hret;refine AWp.le (Le.mk (s':=⟨6,[(2,.bool (x1 !=x1))],[],[],0⟩) rfl rfl ⟨.refl _,trivial⟩ trivial) ?_;refine AWp.ret ?_;exact bR _ rfl ⟨rfl,rfl⟩ rfl
def f96 (x1 x2:Int):Option Int:=
 (f102 x1).bind fun(r3:Bool)=>
 (f102 x2).bind fun(r4:Bool)=>
 if r3 then(
 if r4 then(
 some (0:Int)
 )else(
 some (-1:Int)
 )
 )else(
 if r4 then(
 some (1:Int)
 )else(
 if(decide (x1<x2))then(
 some (-1:Int)
 )else(
 if(decide (x1>x2))then(
 some (1:Int)
 )else(
 some (0:Int)
 )
 )
 )
 )
theorem f96_ok (x1 x2 r:Int) (h:f96 x1 x2=some r):aF Tryd.prog 96 [] [] [] [.int .i64 x1,.int .i64 x2] (.int .i64 r) []:=by
 unfold f96 at h;refine aF.body 0 _ _ Tryd.func96 rfl Tryd.ntmps96 rfl rfl ?_;refine aM [] [] ⟨20,[(0,.i x1),(1,.i x2)],[],[],0⟩ trivial ?_;refine AWp.seq ?_;obtain⟨r3,hr3,h⟩:=bind_ok h;refine aR [] [(1,⟨[.i x1],[],[],[],.bool r3,[],[],[]⟩)] ⟨20,[(0,.i x1),(1,.i x2),(5,.bool r3)],[],[],0⟩ (an1 (cpT (f102_ok _ _ hr3))) ?_;refine tN (AWp.seq ?_);obtain⟨r4,hr4,h⟩:=bind_ok h;refine aR [] [(1,⟨[.i x2],[],[],[],.bool r4,[],[],[]⟩)] ⟨20,[(0,.i x1),(1,.i x2),(5,.bool r3),(6,.bool r4)],[],[],0⟩ (an1 (cpT (f102_ok _ _ hr4))) ?_;refine tN (AWp.seq ?_);refine aM [] [] ⟨20,[(0,.i x1),(1,.i x2),(6,.bool r4),(11,.bool r3)],[],[],0⟩ trivial ?_;refine AWp.cond (b:=r3) (by kernel_rfl) (fun hc1=> ?_) (fun hc1=> ?_)
 ·
  replace h:=aK hc1 h;refine AWp.seq ?_;refine aM [] [] ⟨20,[(12,.bool r4)],[],[],0⟩ trivial ?_;refine AWp.cond (b:=r4) (by kernel_rfl) (fun hc2=> ?_) (fun hc2=> ?_)
  ·
   replace h:=aK hc2 h;refine aM [] [] ⟨20,[(4,.i (0:Int))],[],[],0⟩ trivial ?_;have hret:=Option.some.inj h;subst hret;refine AWp.le (Le.mk (s':=⟨20,[(4,.i (0:Int))],[],[],0⟩) rfl rfl ⟨.refl _,trivial⟩ trivial) ?_;refine AWp.ret (tR (tR ?_));exact bR _ rfl ⟨rfl,rfl⟩ rfl
  ·
   replace h:=aL hc2 h;refine AWp.skip (tN ?_);refine aM [] [] ⟨20,[(4,.i (-1:Int))],[],[],0⟩ trivial ?_;have hret:=Option.some.inj h;subst hret;refine AWp.le (Le.mk (s':=⟨20,[(4,.i (-1:Int))],[],[],0⟩) rfl rfl ⟨.refl _,trivial⟩ trivial) ?_;refine AWp.ret (tR ?_);exact bR _ rfl ⟨rfl,rfl⟩ rfl
 ·
  replace h:=aL hc1 h;refine AWp.skip (tN (AWp.seq ?_));refine aM [] [] ⟨20,[(0,.i x1),(1,.i x2),(13,.bool r4)],[],[],0⟩ trivial ?_;refine AWp.cond (b:=r4) (by kernel_rfl) (fun hc3=> ?_) (fun hc3=> ?_)
  ·
   replace h:=aK hc3 h;refine aM [] [] ⟨20,[(4,.i (1:Int))],[],[],0⟩ trivial ?_;have hret:=Option.some.inj h;subst hret;refine AWp.le (Le.mk (s':=⟨20,[(4,.i (1:Int))],[],[],0⟩) rfl rfl ⟨.refl _,trivial⟩ trivial) ?_;refine AWp.ret (tR ?_);exact bR _ rfl ⟨rfl,rfl⟩ rfl
  ·
   replace h:=aL hc3 h;refine AWp.skip (tN (AWp.seq ?_));refine aM [] [] ⟨20,[(0,.i x1),(1,.i x2),(16,.bool (decide (x1<x2)))],[],[],0⟩ trivial ?_;refine AWp.cond (b:=(decide (x1<x2))) (by kernel_rfl) (fun hc4=> ?_) (fun hc4=> ?_)
   ·
    replace h:=aK hc4 h;refine aM [] [] ⟨20,[(4,.i (-1:Int))],[],[],0⟩ trivial ?_;have hret:=Option.some.inj h;subst hret;refine AWp.le (Le.mk (s':=⟨20,[(4,.i (-1:Int))],[],[],0⟩) rfl rfl ⟨.refl _,trivial⟩ trivial) ?_;refine AWp.ret (tR ?_);exact bR _ rfl ⟨rfl,rfl⟩ rfl
   ·
    replace h:=aL hc4 h;refine AWp.skip (tN (AWp.seq ?_));refine aM [] [] ⟨20,[(19,.bool (decide (x1>x2)))],[],[],0⟩ trivial ?_;refine AWp.cond (b:=(decide (x1>x2))) (by kernel_rfl) (fun hc5=> ?_) (fun hc5=> ?_)
    ·
     replace h:=aK hc5 h;refine aM [] [] ⟨20,[(4,.i (1:Int))],[],[],0⟩ trivial ?_;have hret:=Option.some.inj h;subst hret;refine AWp.le (Le.mk (s':=⟨20,[(4,.i (1:Int))],[],[],0⟩) rfl rfl ⟨.refl _,trivial⟩ trivial) ?_;refine AWp.ret (tR ?_);exact bR _ rfl ⟨rfl,rfl⟩ rfl
    ·
     replace h:=aL hc5 h;refine AWp.skip (tN ?_);refine aM [] [] ⟨20,[(4,.i (0:Int))],[],[],0⟩ trivial ?_;have hret:=Option.some.inj h;subst hret;refine AWp.le (Le.mk (s':=⟨20,[(4,.i (0:Int))],[],[],0⟩) rfl rfl ⟨.refl _,trivial⟩ trivial) ?_;refine AWp.ret ?_;exact bR _ rfl ⟨rfl,rfl⟩ rfl
def f103 (x1:BitVec 16):Option Bool:=
 some (!(x1==x1))
theorem f103_ok (x1:BitVec 16) (r:Bool) (h:f103 x1=some r):aF Tryd.prog 103 [] [] [] [.b16 x1] (.bool r) []:=by
 unfold f103 at h;refine aF.body 0 _ _ Tryd.func103 rfl Tryd.ntmps103 rfl rfl ?_;refine aM [] [] ⟨6,[(0,.b16 x1)],[],[],0⟩ trivial ?_;refine aM [] [] ⟨6,[(2,.bool (!(x1==x1)))],[],[],0⟩ trivial ?_;have hret:=Option.some.inj h;subst hret;refine AWp.le (Le.mk (s':=⟨6,[(2,.bool (!(x1==x1)))],[],[],0⟩) rfl rfl ⟨.refl _,trivial⟩ trivial) ?_;refine AWp.ret ?_;exact bR _ rfl ⟨rfl,rfl⟩ rfl
def f97 (x1 x2:BitVec 16):Option Int:=
 (f103 x1).bind fun(r3:Bool)=>
 (f103 x2).bind fun(r4:Bool)=>
 if r3 then(
 if r4 then(
 some (0:Int)
 )else(
 some (-1:Int)
 )
 )else(
 if r4 then(
 some (1:Int)
 )else(
 if(decide (x1.toNat<x2.toNat))then(
 some (-1:Int)
 )else(
 if(decide (x1.toNat>x2.toNat))then(
 some (1:Int)
 )else(
 some (0:Int)
 )
 )
 )
 )
theorem f97_ok (x1 x2:BitVec 16) (r:Int) (h:f97 x1 x2=some r):aF Tryd.prog 97 [] [] [] [.b16 x1,.b16 x2] (.int .i64 r) []:=by
 unfold f97 at h;refine aF.body 0 _ _ Tryd.func97 rfl Tryd.ntmps97 rfl rfl ?_;refine aM [] [] ⟨20,[(0,.b16 x1),(1,.b16 x2)],[],[],0⟩ trivial ?_;refine AWp.seq ?_;obtain⟨r3,hr3,h⟩:=bind_ok h;refine aR [] [(1,⟨[.b16 x1],[],[],[],.bool r3,[],[],[]⟩)] ⟨20,[(0,.b16 x1),(1,.b16 x2),(5,.bool r3)],[],[],0⟩ (an1 (cpT (f103_ok _ _ hr3))) ?_;refine tN (AWp.seq ?_);obtain⟨r4,hr4,h⟩:=bind_ok h;refine aR [] [(1,⟨[.b16 x2],[],[],[],.bool r4,[],[],[]⟩)] ⟨20,[(0,.b16 x1),(1,.b16 x2),(5,.bool r3),(6,.bool r4)],[],[],0⟩ (an1 (cpT (f103_ok _ _ hr4))) ?_;refine tN (AWp.seq ?_);refine aM [] [] ⟨20,[(0,.b16 x1),(1,.b16 x2),(6,.bool r4),(11,.bool r3)],[],[],0⟩ trivial ?_;refine AWp.cond (b:=r3) (by kernel_rfl) (fun hc1=> ?_) (fun hc1=> ?_)
 ·
  replace h:=aK hc1 h;refine AWp.seq ?_;refine aM [] [] ⟨20,[(12,.bool r4)],[],[],0⟩ trivial ?_;refine AWp.cond (b:=r4) (by kernel_rfl) (fun hc2=> ?_) (fun hc2=> ?_)
  ·
   replace h:=aK hc2 h;refine aM [] [] ⟨20,[(4,.i (0:Int))],[],[],0⟩ trivial ?_;have hret:=Option.some.inj h;subst hret;refine AWp.le (Le.mk (s':=⟨20,[(4,.i (0:Int))],[],[],0⟩) rfl rfl ⟨.refl _,trivial⟩ trivial) ?_;refine AWp.ret (tR (tR ?_));exact bR _ rfl ⟨rfl,rfl⟩ rfl
  ·
   replace h:=aL hc2 h;refine AWp.skip (tN ?_);refine aM [] [] ⟨20,[(4,.i (-1:Int))],[],[],0⟩ trivial ?_;have hret:=Option.some.inj h;subst hret;refine AWp.le (Le.mk (s':=⟨20,[(4,.i (-1:Int))],[],[],0⟩) rfl rfl ⟨.refl _,trivial⟩ trivial) ?_;refine AWp.ret (tR ?_);exact bR _ rfl ⟨rfl,rfl⟩ rfl
 ·
  replace h:=aL hc1 h;refine AWp.skip (tN (AWp.seq ?_));refine aM [] [] ⟨20,[(0,.b16 x1),(1,.b16 x2),(13,.bool r4)],[],[],0⟩ trivial ?_;refine AWp.cond (b:=r4) (by kernel_rfl) (fun hc3=> ?_) (fun hc3=> ?_)
  ·
   replace h:=aK hc3 h;refine aM [] [] ⟨20,[(4,.i (1:Int))],[],[],0⟩ trivial ?_;have hret:=Option.some.inj h;subst hret;refine AWp.le (Le.mk (s':=⟨20,[(4,.i (1:Int))],[],[],0⟩) rfl rfl ⟨.refl _,trivial⟩ trivial) ?_;refine AWp.ret (tR ?_);exact bR _ rfl ⟨rfl,rfl⟩ rfl
  ·
   replace h:=aL hc3 h;refine AWp.skip (tN (AWp.seq ?_));refine aM [] [] ⟨20,[(0,.b16 x1),(1,.b16 x2),(16,.bool (decide (x1.toNat<x2.toNat)))],[],[],0⟩ trivial ?_;refine AWp.cond (b:=(decide (x1.toNat<x2.toNat))) (by kernel_rfl) (fun hc4=> ?_) (fun hc4=> ?_)
   ·
    replace h:=aK hc4 h;refine aM [] [] ⟨20,[(4,.i (-1:Int))],[],[],0⟩ trivial ?_;have hret:=Option.some.inj h;subst hret;refine AWp.le (Le.mk (s':=⟨20,[(4,.i (-1:Int))],[],[],0⟩) rfl rfl ⟨.refl _,trivial⟩ trivial) ?_;refine AWp.ret (tR ?_);exact bR _ rfl ⟨rfl,rfl⟩ rfl
   ·
    replace h:=aL hc4 h;refine AWp.skip (tN (AWp.seq ?_));refine aM [] [] ⟨20,[(19,.bool (decide (x1.toNat>x2.toNat)))],[],[],0⟩ trivial ?_;refine AWp.cond (b:=(decide (x1.toNat>x2.toNat))) (by kernel_rfl) (fun hc5=> ?_) (fun hc5=> ?_)
    ·
     replace h:=aK hc5 h;refine aM [] [] ⟨20,[(4,.i (1:Int))],[],[],0⟩ trivial ?_;have hret:=Option.some.inj h;subst hret;refine AWp.le (Le.mk (s':=⟨20,[(4,.i (1:Int))],[],[],0⟩) rfl rfl ⟨.refl _,trivial⟩ trivial) ?_;refine AWp.ret (tR ?_);exact bR _ rfl ⟨rfl,rfl⟩ rfl
    ·
     replace h:=aL hc5 h;refine AWp.skip (tN ?_);refine aM [] [] ⟨20,[(4,.i (0:Int))],[],[],0⟩ trivial ?_;have hret:=Option.some.inj h;subst hret;refine AWp.le (Le.mk (s':=⟨20,[(4,.i (0:Int))],[],[],0⟩) rfl rfl ⟨.refl _,trivial⟩ trivial) ?_;refine AWp.ret ?_;exact bR _ rfl ⟨rfl,rfl⟩ rfl
def lC (x1:List Int) (K1:Unit→Option Int):Nat→Nat→Option Int
 |0,_=>none
 |k+1,n2=>
  if(decide ((n2:Int)<(((x1).length:Nat):Int)))then(
  chk ((n2:Int)<(((x1).length:Nat):Int))<|
  if((x1.getD n2 0) !=(0:Int))then(
  some (x1.getD n2 0)
  )else(
  chk (((n2:Int)+(1:Int))≤9223372036854775807)<|
  (lC x1 K1 k) (n2+1)
  )
  )else(
  K1 ()
  )
def f95 (x1:List Int):Option Int:=
 jn (fun(_:Unit)=>
 some (0:Int)
 ) fun(K1:Unit→Option Int)=>
 lC x1 K1 bG 0
theorem f95_ok (x1:List Int) (r:Int) (h:f95 x1=some r):aF Tryd.prog 95 [] [] [] [vL 1 eI 0 x1] (.int .i64 r) []:=by
 unfold f95 at h;refine aF.body 0 _ _ Tryd.func95 rfl Tryd.ntmps95 rfl rfl ?_;refine aM [] [] ⟨18,[(0,aX x1)],[],[],0⟩ trivial ?_;refine aM [] [] ⟨18,[(0,aX x1),(3,.i (0:Int))],[],[],0⟩ trivial ?_;obtain⟨K1,hK1,h⟩:=aU h;refine AWp.join (α:=Unit) (fun(x:Unit)=>match x with|()=>⟨18,[(3,.i (0:Int))],[],[],0⟩) (fun x=>K1 x=some r) ?_ ?_
 ·
  refine aM [] [] ⟨18,[(3,.i (0:Int)),(6,aX x1),(7,.i (lZ x1)),(8,.i (0:Int))],[],[],0⟩ trivial ?_;refine AWp.block ?_;refine AWp.loopL (α:=Nat×Nat) (fun x=>match x with|(_,n2)=>⟨18,[(3,.i (0:Int)),(6,aX x1),(7,.i (lZ x1)),(8,.i (n2:Int))],[],[],0⟩) (fun x=>lC x1 K1 x.1 x.2=some r) (fun x=>x.1) (bG,0) (Le.mk (s':=⟨18,[(3,.i (0:Int)),(6,aX x1),(7,.i (lZ x1)),(8,.i (0:Int))],[],[],0⟩) rfl rfl ⟨.refl _,.refl _,.refl _,.refl _,trivial⟩ trivial) h ?_
  rintro⟨k0,n2⟩ h
  cases k0 with
  |zero=>exact nomatch (show(none:Option Int)=some r from h)
  |succ k0=>
  obtain⟨C0,hC0⟩:∃C,C=lC x1 K1 k0:=⟨_,rfl⟩;replace h:=(lC.eq_2 ..).symm.trans h
  try rw[←hC0]at h
  refine aM [] [] ⟨18,[(3,.i (0:Int)),(6,aX x1),(7,.i (lZ x1)),(8,.i (n2:Int)),(9,.bool (decide ((n2:Int)<(lZ x1))))],[],[],0⟩ trivial ?_;refine AWp.seq ?_;refine AWp.cond (b:=(decide ((n2:Int)<(lZ x1)))) (by kernel_rfl) (fun hc1=> ?_) (fun hc1=> ?_)
  ·
   replace h:=aK hc1 h;refine AWp.skip (tN (AWp.seq (AWp.block (AWp.seq ?_))));obtain⟨ob0p,h⟩:=aB h;have ob0:0≤(n2:Int)∧(n2:Int)<(((x1).length:Nat):Int):=⟨by omega,ob0p⟩;refine aR [] [] ⟨18,[(3,.i (0:Int)),(5,.i (x1.getD n2 0)),(6,aX x1),(7,.i (lZ x1)),(8,.i (n2:Int))],[],[],0⟩ (an1 ob0) ?_;refine tN ?_;refine aM [] [] ⟨18,[(3,.i (0:Int)),(5,.i (x1.getD n2 0)),(6,aX x1),(7,.i (lZ x1)),(8,.i (n2:Int)),(14,.bool ((x1.getD n2 0) !=(0:Int)))],[],[],0⟩ trivial ?_;refine AWp.cond (b:=((x1.getD n2 0) !=(0:Int))) (by kernel_rfl) (fun hc2=> ?_) (fun hc2=> ?_)
   ·
    replace h:=aK hc2 h;refine aM [] [] ⟨18,[(2,.i (x1.getD n2 0))],[],[],0⟩ trivial ?_;have hret:=Option.some.inj h;subst hret;refine AWp.le (Le.mk (s':=⟨18,[(2,.i (x1.getD n2 0))],[],[],0⟩) rfl rfl ⟨.refl _,trivial⟩ trivial) ?_;refine AWp.ret (kR (tR (tR (kR (aV ?_)))));exact bR _ rfl ⟨rfl,rfl⟩ rfl
   ·
    replace h:=aL hc2 h;refine AWp.skip (kN (tN ?_));obtain⟨ob1p,h⟩:=aB h;have ob1: -9223372036854775808≤((n2:Int)+(1:Int))∧((n2:Int)+(1:Int))≤9223372036854775807:=⟨by omega,ob1p⟩;refine aR [] [] ⟨18,[(3,.i (0:Int)),(6,aX x1),(7,.i (lZ x1)),(8,.i (((n2+1):Nat):Int))],[],[],0⟩ (an1 ob1) ?_;rw[hC0]at h;exact lN (_,(n2+1)) (Le.mk rfl rfl ⟨.refl _,.refl _,.refl _,.refl _,trivial⟩ trivial) h (Nat.lt_succ_self _)
  ·
   replace h:=aL hc1 h;refine AWp.exit (tE (tE (kS ?_)));exact jN () (Le.mk rfl rfl ⟨.refl _,trivial⟩ trivial) h
 ·
  rintro⟨⟩ h;replace h:=(congrFun hK1 _).symm.trans h;refine aM [] [] ⟨18,[(2,.i (0:Int))],[],[],0⟩ trivial ?_;have hret:=Option.some.inj h;subst hret;refine AWp.le (Le.mk (s':=⟨18,[(2,.i (0:Int))],[],[],0⟩) rfl rfl ⟨.refl _,trivial⟩ trivial) ?_;refine AWp.ret ?_;exact bR _ rfl ⟨rfl,rfl⟩ rfl
def f80 (x1 x2:BitVec 16):Option Int:=
 (f72 x1).bind fun(r3:Int)=>
 (f72 x2).bind fun(r4:Int)=>
 (f96 r3 r4).bind fun(r5:Int)=>
 (f97 x1 x2).bind fun(r6:Int)=>
 (f95 [r5,r6]).bind fun(r7:Int)=>
 some r7
theorem f80_ok (x1 x2:BitVec 16) (r:Int) (h:f80 x1 x2=some r):aF Tryd.prog 80 [] [] [] [.b16 x1,.b16 x2] (.int .i64 r) []:=by
 unfold f80 at h;refine aF.body 0 _ _ Tryd.func80 rfl Tryd.ntmps80 rfl rfl ?_;refine aM [] [] ⟨15,[(0,.b16 x1),(1,.b16 x2)],[],[],0⟩ trivial ?_;refine AWp.seq ?_;obtain⟨r3,hr3,h⟩:=bind_ok h;obtain⟨r4,hr4,h⟩:=bind_ok h;obtain⟨r5,hr5,h⟩:=bind_ok h;obtain⟨r6,hr6,h⟩:=bind_ok h;obtain⟨r7,hr7,h⟩:=bind_ok h;refine aR [] [(1,⟨[.b16 x1],[],[],[],.i r3,[],[],[]⟩),(3,⟨[.b16 x2],[],[],[],.i r4,[],[],[]⟩),(4,⟨[.i r3,.i r4],[],[],[],.i r5,[],[],[]⟩),(7,⟨[.b16 x1,.b16 x2],[],[],[],.i r6,[],[],[]⟩),(9,⟨[aX [r5,r6]],[],[],[],.i r7,[],[13],[]⟩)] ⟨15,[(4,.i r7)],[],[],0⟩ (an5 (cpT (lG _ _ hr3)) (cpT (lG _ _ hr4)) (cpT (f96_ok _ _ _ hr5)) (cpT (f97_ok _ _ _ hr6)) (cpL (c:=true) [(13,.rows 3 1 2 (fZ 1 [.i r5,.i r6]))] [13] [.own 13] (fun _=>(f95_ok _ _ hr7)) (fun _=>⟨(VLe.of (RL.lst (enc:=eI) [r5,r6] rfl rfl (fun _=>rfl))),trivial⟩) (.inr ⟨rfl,trivial⟩))) ?_;refine tN ?_;have hret:=Option.some.inj h;subst hret;refine AWp.le (Le.mk (s':=⟨15,[(4,.i r7)],[],[],0⟩) rfl rfl ⟨.refl _,trivial⟩ trivial) ?_;refine AWp.ret ?_;exact bR _ rfl ⟨rfl,rfl⟩ rfl
def lJ (x1:List (BitVec 16)) (K1:Unit→Option Int):Nat→Nat→Option Int
 |0,_=>none
 |k+1,n2=>
  if(decide ((n2:Int)<(((x1).length:Nat):Int)))then(
  chk ((n2:Int)<(((x1).length:Nat):Int))<|
  if(!(((x1.getD n2 0#16)&&&(BitVec.ofInt 16 61440))==(BitVec.ofInt 16 0)))then(
  some (7:Int)
  )else(
  rI ((decide ((n2:Int)>(0:Int)))==true) (f80 (x1.getD ((((n2:Int)-(1:Int))).toNat) 0#16) (x1.getD n2 0#16)) fun(r3:Int)=>
  chk (((decide ((n2:Int)>(0:Int)))==true)=true→ -9223372036854775808≤((n2:Int)-(1:Int))∧((n2:Int)-(1:Int))≤9223372036854775807)<|
  chk (((decide ((n2:Int)>(0:Int)))==true)=true→0≤((n2:Int)-(1:Int))∧((n2:Int)-(1:Int))<(((x1).length:Nat):Int))<|
  if((decide ((n2:Int)>(0:Int)))&&(decide (r3≥(0:Int))))then(
  some (1:Int)
  )else(
  chk (((n2:Int)+(1:Int))≤9223372036854775807)<|
  (lJ x1 K1 k) (n2+1)
  )
  )
  )else(
  K1 ()
  )
def lI (x1:List (BitVec 16)) (K2:Unit→Option Int):Nat→Nat→Option Int
 |0,_=>none
 |k+1,n4=>
  if(decide ((n4:Int)<(((x1).length:Nat):Int)))then(
  chk ((n4:Int)<(((x1).length:Nat):Int))<|
  (f31 (x1.take n4) (x1.getD n4 0#16)).bind fun(r5:Bool)=>
  chk ((n4:Int)≤(((x1).length:Nat):Int))<|
  if r5 then(
  some (1:Int)
  )else(
  chk (((n4:Int)+(1:Int))≤9223372036854775807)<|
  (lI x1 K2 k) (n4+1)
  )
  )else(
  K2 ()
  )
abbrev tS (n2:Nat):=((decide ((n2:Int)>(0:Int)))==true)
def f42 (x1:List (BitVec 16)):Option Int:=
 if(decide ((((x1).length:Nat):Int)>(400:Int)))then(
 some (3:Int)
 )else(
 jn (fun(_:Unit)=>
 jn (fun(_:Unit)=>
 some (0:Int)
 ) fun(K2:Unit→Option Int)=>
 lI x1 K2 bG 0
 ) fun(K1:Unit→Option Int)=>
 lJ x1 K1 bG 0
 )
theorem f42_ok (x1:List (BitVec 16)) (r:Int) (h:f42 x1=some r):aF Tryd.prog 42 [] [] [] [vL 1 eW 0#16 x1] (.int .i64 r) []:=by
 unfold f42 at h;refine aF.body 0 _ _ Tryd.func42 rfl Tryd.ntmps42 rfl rfl ?_;refine aM [] [] ⟨48,[(0,aZ x1)],[],[],0⟩ trivial ?_;refine AWp.seq ?_;refine aM [] [] ⟨48,[(0,aZ x1),(9,.bool (decide ((lZ x1)>(400:Int))))],[],[],0⟩ trivial ?_;refine AWp.cond (b:=(decide ((lZ x1)>(400:Int)))) (by kernel_rfl) (fun hc1=> ?_) (fun hc1=> ?_)
 ·
  replace h:=aK hc1 h;refine aM [] [] ⟨48,[(2,.i (3:Int))],[],[],0⟩ trivial ?_;have hret:=Option.some.inj h;subst hret;refine AWp.le (Le.mk (s':=⟨48,[(2,.i (3:Int))],[],[],0⟩) rfl rfl ⟨.refl _,trivial⟩ trivial) ?_;refine AWp.ret (tR ?_);exact bR _ rfl ⟨rfl,rfl⟩ rfl
 ·
  replace h:=aL hc1 h;refine AWp.skip (tN ?_);obtain⟨K1,hK1,h⟩:=aU h;refine AWp.join (α:=Unit) (fun(x:Unit)=>match x with|()=>⟨48,[(0,aZ x1)],[],[],0⟩) (fun x=>K1 x=some r) ?_ ?_
  ·
   refine aM [] [] ⟨48,[(0,aZ x1),(10,aZ x1),(11,.i (lZ x1)),(12,.i (0:Int))],[],[],0⟩ trivial ?_;refine AWp.block ?_;refine AWp.loopL (α:=Nat×Nat) (fun x=>match x with|(_,n2)=>⟨48,[(0,aZ x1),(10,aZ x1),(11,.i (lZ x1)),(12,.i (n2:Int))],[],[],0⟩) (fun x=>lJ x1 K1 x.1 x.2=some r) (fun x=>x.1) (bG,0) (Le.mk (s':=⟨48,[(0,aZ x1),(10,aZ x1),(11,.i (lZ x1)),(12,.i (0:Int))],[],[],0⟩) rfl rfl ⟨.refl _,.refl _,.refl _,.refl _,trivial⟩ trivial) h ?_
   rintro⟨k0,n2⟩ h
   cases k0 with
   |zero=>exact nomatch (show(none:Option Int)=some r from h)
   |succ k0=>
   obtain⟨C0,hC0⟩:∃C,C=lJ x1 K1 k0:=⟨_,rfl⟩;replace h:=(lJ.eq_2 ..).symm.trans h
   try rw[←hC0]at h
   refine aM [] [] ⟨48,[(0,aZ x1),(10,aZ x1),(11,.i (lZ x1)),(12,.i (n2:Int)),(13,.bool (decide ((n2:Int)<(lZ x1))))],[],[],0⟩ trivial ?_;refine AWp.seq ?_;refine AWp.cond (b:=(decide ((n2:Int)<(lZ x1)))) (by kernel_rfl) (fun hc2=> ?_) (fun hc2=> ?_)
   ·
    replace h:=aK hc2 h;refine AWp.skip (tN (AWp.seq (AWp.block (AWp.seq ?_))));obtain⟨ob0p,h⟩:=aB h;have ob0:0≤(n2:Int)∧(n2:Int)<(((x1).length:Nat):Int):=⟨by omega,ob0p⟩;refine aR [] [] ⟨48,[(0,aZ x1),(3,.i (n2:Int)),(4,.b16 (x1.getD n2 0#16)),(10,aZ x1),(11,.i (lZ x1)),(12,.i (n2:Int))],[],[],0⟩ (an1 ob0) ?_;refine tN (AWp.block ?_);refine aM [] [] ⟨48,[(0,aZ x1),(3,.i (n2:Int)),(4,.b16 (x1.getD n2 0#16)),(10,aZ x1),(11,.i (lZ x1)),(12,.i (n2:Int)),(17,.bool (!(((x1.getD n2 0#16)&&&(bD 61440))==(bD 0))))],[],[],0⟩ trivial ?_;refine AWp.cond (b:=(!(((x1.getD n2 0#16)&&&(bD 61440))==(bD 0)))) (by kernel_rfl) (fun hc3=> ?_) (fun hc3=> ?_)
    ·
     replace h:=aK hc3 h;refine aM [] [] ⟨48,[(2,.i (7:Int))],[],[],0⟩ trivial ?_;have hret:=Option.some.inj h;subst hret;refine AWp.le (Le.mk (s':=⟨48,[(2,.i (7:Int))],[],[],0⟩) rfl rfl ⟨.refl _,trivial⟩ trivial) ?_;refine AWp.ret (kR (kR (tR (tR (kR (aV ?_))))));exact bR _ rfl ⟨rfl,rfl⟩ rfl
    ·
     replace h:=aL hc3 h;refine AWp.seq ?_;obtain⟨r3,hr3,h⟩:=cP h;obtain⟨ob1,h⟩:=aB h;have ob2:=idA ((tS n2)=true);obtain⟨ob3,h⟩:=aB h;have ob4:=idA ((tS n2)=true);have ob5:=idA ((tS n2)=true);have ob6:=idA ((tS n2)=true);have ob7:=idA ((tS n2)=true);have ob8:=idA ((tS n2)=true);have ob9:=idA ((tS n2)=true);have ob10:true=true→(decide ((n2:Int)>(0:Int)))=true→(tS n2)=true:=fun _ h=>beq_iff_eq.2 h;refine aR [] [(9,⟨[.b16 (x1.getD ((((n2:Int)-(1:Int))).toNat) 0#16),.b16 (x1.getD n2 0#16)],[],[],[],.i r3,[],[],[]⟩)] ⟨48,[(0,aZ x1),(10,aZ x1),(11,.i (lZ x1)),(12,.i (n2:Int)),(21,.bool ((decide ((n2:Int)>(0:Int)))&&(decide (r3≥(0:Int)))))],[],[],0⟩ (an6 (And.intro ob1 (an1 ob2)) (And.intro ob3 (an2 ob4 ob5)) (an1 ob6) (And.intro (cpC fun hc=>(f80_ok _ _ _ (hr3 hc))) (an2 ob7 ob8)) (an1 ob9) ob10) ?_;refine tN ?_;refine AWp.cond (b:=((decide ((n2:Int)>(0:Int)))&&(decide (r3≥(0:Int))))) (by kernel_rfl) (fun hc4=> ?_) (fun hc4=> ?_)
     ·
      replace h:=aK hc4 h;refine aM [] [] ⟨48,[(2,.i (1:Int))],[],[],0⟩ trivial ?_;have hret:=Option.some.inj h;subst hret;refine AWp.le (Le.mk (s':=⟨48,[(2,.i (1:Int))],[],[],0⟩) rfl rfl ⟨.refl _,trivial⟩ trivial) ?_;refine AWp.ret (kR (kR (tR (tR (kR (aV ?_))))));exact bR _ rfl ⟨rfl,rfl⟩ rfl
     ·
      replace h:=aL hc4 h;refine AWp.skip (kN (kN (tN ?_)));obtain⟨ob11p,h⟩:=aB h;have ob11: -9223372036854775808≤((n2:Int)+(1:Int))∧((n2:Int)+(1:Int))≤9223372036854775807:=⟨by omega,ob11p⟩;refine aR [] [] ⟨48,[(0,aZ x1),(10,aZ x1),(11,.i (lZ x1)),(12,.i (((n2+1):Nat):Int))],[],[],0⟩ (an1 ob11) ?_;rw[hC0]at h;exact lN (_,(n2+1)) (Le.mk rfl rfl ⟨.refl _,.refl _,.refl _,.refl _,trivial⟩ trivial) h (Nat.lt_succ_self _)
   ·
    replace h:=aL hc2 h;refine AWp.exit (tE (tE (kS ?_)));exact jN () (Le.mk rfl rfl ⟨.refl _,trivial⟩ trivial) h
  ·
   rintro⟨⟩ h;replace h:=(congrFun hK1 _).symm.trans h;obtain⟨K2,hK2,h⟩:=aU h;refine AWp.join (α:=Unit) (fun(x:Unit)=>match x with|()=>⟨48,[],[],[],0⟩) (fun x=>K2 x=some r) ?_ ?_
   ·
    refine aM [] [] ⟨48,[(0,aZ x1),(35,aZ x1),(36,.i (lZ x1)),(37,.i (0:Int))],[],[],0⟩ trivial ?_;refine AWp.block ?_;refine AWp.loopL (α:=Nat×Nat) (fun x=>match x with|(_,n4)=>⟨48,[(0,aZ x1),(35,aZ x1),(36,.i (lZ x1)),(37,.i (n4:Int))],[],[],0⟩) (fun x=>lI x1 K2 x.1 x.2=some r) (fun x=>x.1) (bG,0) (Le.mk (s':=⟨48,[(0,aZ x1),(35,aZ x1),(36,.i (lZ x1)),(37,.i (0:Int))],[],[],0⟩) rfl rfl ⟨.refl _,.refl _,.refl _,.refl _,trivial⟩ trivial) h ?_
    rintro⟨k1,n4⟩ h
    cases k1 with
    |zero=>exact nomatch (show(none:Option Int)=some r from h)
    |succ k1=>
    obtain⟨C1,hC1⟩:∃C,C=lI x1 K2 k1:=⟨_,rfl⟩;replace h:=(lI.eq_2 ..).symm.trans h
    try rw[←hC1]at h
    refine aM [] [] ⟨48,[(0,aZ x1),(35,aZ x1),(36,.i (lZ x1)),(37,.i (n4:Int)),(38,.bool (decide ((n4:Int)<(lZ x1))))],[],[],0⟩ trivial ?_;refine AWp.seq ?_;refine AWp.cond (b:=(decide ((n4:Int)<(lZ x1)))) (by kernel_rfl) (fun hc5=> ?_) (fun hc5=> ?_)
    ·
     replace h:=aK hc5 h;refine AWp.skip (tN (AWp.seq (AWp.block (AWp.seq ?_))));obtain⟨ob12p,h⟩:=aB h;have ob12:0≤(n4:Int)∧(n4:Int)<(((x1).length:Nat):Int):=⟨by omega,ob12p⟩;refine aR [] [] ⟨48,[(0,aZ x1),(5,.i (n4:Int)),(6,.b16 (x1.getD n4 0#16)),(35,aZ x1),(36,.i (lZ x1)),(37,.i (n4:Int))],[],[],0⟩ (an1 ob12) ?_;refine tN (AWp.seq ?_);obtain⟨r5,hr5,h⟩:=bind_ok h;obtain⟨ob13p,h⟩:=aB h;have ob13:0≤(n4:Int)∧(n4:Int)≤(((x1).length:Nat):Int):=⟨by omega,ob13p⟩;refine aR [] [(4,⟨[aZ (x1.take n4),.b16 (x1.getD n4 0#16)],[],[],[],.bool r5,[],[],[]⟩)] ⟨48,[(0,aZ x1),(35,aZ x1),(36,.i (lZ x1)),(37,.i (n4:Int)),(46,.bool r5)],[],[],0⟩ (an2 ob13 (cpL (c:=true) [] [] [.arr 1 n4 (cM eW 0#16 x1),.b16 (x1.getD n4 0#16)] (fun _=>(tX _ _ _ hr5)) (fun _=>⟨(VLe.takeL (by first|omega|(simp only[List.length_append,List.length_cons,List.length_nil,List.length_take,List.length_drop]at *;omega)|(simp;done)|(simp_all;done)|(simp_all;omega)|rfl)),.refl _,trivial⟩) (.inl rfl))) ?_;refine tN ?_;refine AWp.cond (b:=r5) (by kernel_rfl) (fun hc6=> ?_) (fun hc6=> ?_)
     ·
      replace h:=aK hc6 h;refine aM [] [] ⟨48,[(2,.i (1:Int))],[],[],0⟩ trivial ?_;have hret:=Option.some.inj h;subst hret;refine AWp.le (Le.mk (s':=⟨48,[(2,.i (1:Int))],[],[],0⟩) rfl rfl ⟨.refl _,trivial⟩ trivial) ?_;refine AWp.ret (kR (tR (tR (kR (aV ?_)))));exact bR _ rfl ⟨rfl,rfl⟩ rfl
     ·
      replace h:=aL hc6 h;refine AWp.skip (kN (tN ?_));obtain⟨ob14p,h⟩:=aB h;have ob14: -9223372036854775808≤((n4:Int)+(1:Int))∧((n4:Int)+(1:Int))≤9223372036854775807:=⟨by omega,ob14p⟩;refine aR [] [] ⟨48,[(0,aZ x1),(35,aZ x1),(36,.i (lZ x1)),(37,.i (((n4+1):Nat):Int))],[],[],0⟩ (an1 ob14) ?_;rw[hC1]at h;exact lN (_,(n4+1)) (Le.mk rfl rfl ⟨.refl _,.refl _,.refl _,.refl _,trivial⟩ trivial) h (Nat.lt_succ_self _)
    ·
     replace h:=aL hc5 h;refine AWp.exit (tE (tE (kS ?_)));exact jN () (Le.mk rfl rfl trivial trivial) h
   ·
    rintro⟨⟩ h;replace h:=(congrFun hK2 _).symm.trans h;refine aM [] [] ⟨48,[(2,.i (0:Int))],[],[],0⟩ trivial ?_;have hret:=Option.some.inj h;subst hret;refine AWp.le (Le.mk (s':=⟨48,[(2,.i (0:Int))],[],[],0⟩) rfl rfl ⟨.refl _,trivial⟩ trivial) ?_;refine AWp.ret ?_;exact bR _ rfl ⟨rfl,rfl⟩ rfl
def iJ (x1:List (BitVec 16)) (K1:(BitVec 16)→Option (BitVec 16)):Nat→(BitVec 16×Nat)→Option (BitVec 16)
 |0,_=>none
 |k+1,(w2,n3)=>
  if(decide ((n3:Int)<(((x1).length:Nat):Int)))then(
  chk ((n3:Int)<(((x1).length:Nat):Int))<|
  chk (((n3:Int)+(1:Int))≤9223372036854775807)<|
  (iJ x1 K1 k) ((w2|||(x1.getD n3 0#16)),(n3+1))
  )else(
  K1 w2
  )
def f43 (x1:List (BitVec 16)):Option (BitVec 16):=
 jn (fun(w4:BitVec 16)=>
 some w4
 ) fun(K1:(BitVec 16)→Option (BitVec 16))=>
 iJ x1 K1 bG ((BitVec.ofInt 16 0),0)
theorem f43_ok (x1:List (BitVec 16)) (r:BitVec 16) (h:f43 x1=some r):aF Tryd.prog 43 [] [] [] [vL 1 eW 0#16 x1] (.b16 r) []:=by
 unfold f43 at h;refine aF.body 0 _ _ Tryd.func43 rfl Tryd.ntmps43 rfl rfl ?_;refine aM [] [] ⟨17,[(0,aZ x1)],[],[],0⟩ trivial ?_;refine aM [] [] ⟨17,[(0,aZ x1),(3,.b16 (bD 0))],[],[],0⟩ trivial ?_;obtain⟨K1,hK1,h⟩:=aU h;refine AWp.join (α:=BitVec 16) (fun(w4:BitVec 16)=>⟨17,[(3,.b16 w4)],[],[],0⟩) (fun x=>K1 x=some r) ?_ ?_
 ·
  refine aM [] [] ⟨17,[(3,.b16 (bD 0)),(6,aZ x1),(7,.i (lZ x1)),(8,.i (0:Int))],[],[],0⟩ trivial ?_;refine AWp.block ?_;refine AWp.loopL (α:=Nat×(BitVec 16×Nat)) (fun x=>match x with|(_,w2,n3)=>⟨17,[(3,.b16 w2),(6,aZ x1),(7,.i (lZ x1)),(8,.i (n3:Int))],[],[],0⟩) (fun x=>iJ x1 K1 x.1 x.2=some r) (fun x=>x.1) (bG,(bD 0),0) (Le.mk (s':=⟨17,[(3,.b16 (bD 0)),(6,aZ x1),(7,.i (lZ x1)),(8,.i (0:Int))],[],[],0⟩) rfl rfl ⟨.refl _,.refl _,.refl _,.refl _,trivial⟩ trivial) h ?_
  rintro⟨k0,w2,n3⟩ h
  cases k0 with
  |zero=>exact nomatch (show(none:Option (BitVec 16))=some r from h)
  |succ k0=>
  obtain⟨C0,hC0⟩:∃C,C=iJ x1 K1 k0:=⟨_,rfl⟩;replace h:=(iJ.eq_2 ..).symm.trans h
  try rw[←hC0]at h
  refine aM [] [] ⟨17,[(3,.b16 w2),(6,aZ x1),(7,.i (lZ x1)),(8,.i (n3:Int)),(9,.bool (decide ((n3:Int)<(lZ x1))))],[],[],0⟩ trivial ?_;refine AWp.seq ?_;refine AWp.cond (b:=(decide ((n3:Int)<(lZ x1)))) (by kernel_rfl) (fun hc1=> ?_) (fun hc1=> ?_)
  ·
   replace h:=aK hc1 h;refine AWp.skip (tN (AWp.seq (AWp.block (AWp.seq ?_))));obtain⟨ob0p,h⟩:=aB h;have ob0:0≤(n3:Int)∧(n3:Int)<(((x1).length:Nat):Int):=⟨by omega,ob0p⟩;refine aR [] [] ⟨17,[(3,.b16 w2),(5,.b16 (x1.getD n3 0#16)),(6,aZ x1),(7,.i (lZ x1)),(8,.i (n3:Int))],[],[],0⟩ (an1 ob0) ?_;refine tN ?_;refine aR [] [] ⟨17,[(3,.b16 (w2|||(x1.getD n3 0#16))),(6,aZ x1),(7,.i (lZ x1)),(8,.i (n3:Int))],[],[],0⟩ trivial ?_;refine kN (tN ?_);obtain⟨ob1p,h⟩:=aB h;have ob1: -9223372036854775808≤((n3:Int)+(1:Int))∧((n3:Int)+(1:Int))≤9223372036854775807:=⟨by omega,ob1p⟩;refine aR [] [] ⟨17,[(3,.b16 (w2|||(x1.getD n3 0#16))),(6,aZ x1),(7,.i (lZ x1)),(8,.i (((n3+1):Nat):Int))],[],[],0⟩ (an1 ob1) ?_;rw[hC0]at h;exact lN (_,(w2|||(x1.getD n3 0#16)),(n3+1)) (Le.mk rfl rfl ⟨.refl _,.refl _,.refl _,.refl _,trivial⟩ trivial) h (Nat.lt_succ_self _)
  ·
   replace h:=aL hc1 h;refine AWp.exit (tE (tE (kS ?_)));exact jN (w2) (Le.mk rfl rfl ⟨.refl _,trivial⟩ trivial) h
 ·
  rintro w4 h;replace h:=(congrFun hK1 _).symm.trans h;refine aM [] [] ⟨17,[(2,.b16 w4)],[],[],0⟩ trivial ?_;have hret:=Option.some.inj h;subst hret;refine AWp.le (Le.mk (s':=⟨17,[(2,.b16 w4)],[],[],0⟩) rfl rfl ⟨.refl _,trivial⟩ trivial) ?_;refine AWp.ret ?_;exact bR _ rfl ⟨rfl,rfl⟩ rfl
def f81 (x1 x2:BitVec 16):Option (Bool×BitVec 16):=
 some (((x1&&&x2)==(BitVec.ofInt 16 0)),x2)
theorem f81_ok (x1 x2:BitVec 16) (r:Bool×BitVec 16) (h:f81 x1 x2=some r):aF Tryd.prog 81 [] [2000] [(2000,.cells 49 [.b16 x2])] [.b16 x1,.ptr 2000 0] (.bool r.1) [(2000,.cells 49 [.b16 r.2])]:=by
 unfold f81 at h;refine aF.body 0 _ _ Tryd.func81 rfl Tryd.ntmps81 rfl rfl ?_;refine aM [] [] ⟨8,[(0,.b16 x1),(1,.ptr 2000 0)],[(2000,.cells 49 [.b16 x2])],[2000],0⟩ trivial ?_;refine aM [] [] ⟨8,[(3,.bool ((x1&&&x2)==(bD 0)))],[(2000,.cells 49 [.b16 x2])],[2000],0⟩ trivial ?_;have hret:=Option.some.inj h;subst hret;refine AWp.le (Le.mk (s':=⟨8,[(3,.bool ((x1&&&x2)==(bD 0)))],[(2000,.cells 49 [.b16 x2])],[2000],0⟩) rfl rfl ⟨.refl _,trivial⟩ ⟨⟨_,rfl,.refl _⟩,trivial⟩) ?_;refine AWp.ret ?_;exact bR _ rfl ⟨rfl,rfl⟩ rfl
def eZ (x1:List (BitVec 16)) (K1:(BitVec 16)→Option (Int×BitVec 16)):Nat→(Nat×BitVec 16)→Option (Int×BitVec 16)
 |0,_=>none
 |k+1,(n3,w4)=>
  if(decide ((n3:Int)<(((x1).length:Nat):Int)))then(
  (f81 (x1.getD n3 0#16) w4).bind fun(r5:Bool×BitVec 16)=>
  chk ((n3:Int)<(((x1).length:Nat):Int))<|
  if r5.1 then(
  some ((n3:Int),r5.2)
  )else(
  chk (((n3:Int)+(1:Int))≤9223372036854775807)<|
  (eZ x1 K1 k) ((n3+1),r5.2)
  )
  )else(
  K1 w4
  )
def f63a (x1:List (BitVec 16)) (x2:BitVec 16):Option (Int×BitVec 16):=
 jn (fun(w6:BitVec 16)=>
 some ((-1:Int),w6)
 ) fun(K1:(BitVec 16)→Option (Int×BitVec 16))=>
 eZ x1 K1 bG (0,x2)
theorem f63a_ok (x1:List (BitVec 16)) (x2:BitVec 16) (r:Int×BitVec 16) (h:f63a x1 x2=some r):aF Tryd.prog 63 [] [2000] [(2000,.cells 49 [.b16 x2])] [vL 1 eW 0#16 x1,.fn (.func 81) [.ptr 2000 0]] (.int .i64 r.1) [(2000,.cells 49 [.b16 r.2])]:=by
 unfold f63a at h;refine aF.body 0 _ _ Tryd.func63 rfl Tryd.ntmps63 rfl rfl ?_;refine aM [] [] ⟨19,[(0,aZ x1),(1,.fn (.func 81) [.ptr 2000 0])],[(2000,.cells 49 [.b16 x2])],[2000],0⟩ trivial ?_;obtain⟨K1,hK1,h⟩:=aU h;refine AWp.join (α:=BitVec 16) (fun(w6:BitVec 16)=>⟨19,[],[(2000,.cells 49 [.b16 w6])],[2000],0⟩) (fun x=>K1 x=some r) ?_ ?_
 ·
  refine aM [] [] ⟨19,[(0,aZ x1),(1,.fn (.func 81) [.ptr 2000 0]),(7,.i (lZ x1)),(8,.i (0:Int))],[(2000,.cells 49 [.b16 x2])],[2000],0⟩ trivial ?_;refine AWp.block ?_;refine AWp.loopL (α:=Nat×(Nat×BitVec 16)) (fun x=>match x with|(_,n3,w4)=>⟨19,[(0,aZ x1),(1,.fn (.func 81) [.ptr 2000 0]),(7,.i (lZ x1)),(8,.i (n3:Int))],[(2000,.cells 49 [.b16 w4])],[2000],0⟩) (fun x=>eZ x1 K1 x.1 x.2=some r) (fun x=>x.1) (bG,0,x2) (Le.mk (s':=⟨19,[(0,aZ x1),(1,.fn (.func 81) [.ptr 2000 0]),(7,.i (lZ x1)),(8,.i (0:Int))],[(2000,.cells 49 [.b16 x2])],[2000],0⟩) rfl rfl ⟨.refl _,.refl _,.refl _,.refl _,trivial⟩ ⟨⟨_,rfl,.refl _⟩,trivial⟩) h ?_
  rintro⟨k0,n3,w4⟩ h
  cases k0 with
  |zero=>exact nomatch (show(none:Option (Int×BitVec 16))=some r from h)
  |succ k0=>
  obtain⟨C0,hC0⟩:∃C,C=eZ x1 K1 k0:=⟨_,rfl⟩;replace h:=(eZ.eq_2 ..).symm.trans h
  try rw[←hC0]at h
  refine aM [] [] ⟨19,[(0,aZ x1),(1,.fn (.func 81) [.ptr 2000 0]),(7,.i (lZ x1)),(8,.i (n3:Int)),(9,.bool (decide ((n3:Int)<(lZ x1))))],[(2000,.cells 49 [.b16 w4])],[2000],0⟩ trivial ?_;refine AWp.seq ?_;refine AWp.cond (b:=(decide ((n3:Int)<(lZ x1)))) (by kernel_rfl) (fun hc1=> ?_) (fun hc1=> ?_)
  ·
   replace h:=aK hc1 h;refine AWp.skip (tN (AWp.seq (AWp.block ?_)));refine aM [] [] ⟨19,[(0,aZ x1),(1,.fn (.func 81) [.ptr 2000 0]),(5,.i (n3:Int)),(7,.i (lZ x1)),(8,.i (n3:Int))],[(2000,.cells 49 [.b16 w4])],[2000],0⟩ trivial ?_;refine AWp.seq ?_;obtain⟨r5,hr5,h⟩:=bind_ok h;obtain⟨ob0p,h⟩:=aB h;have ob0:0≤(n3:Int)∧(n3:Int)<(((x1).length:Nat):Int):=⟨by omega,ob0p⟩;refine aR [] [(5,⟨[.b16 (x1.getD n3 0#16),.ptr 2000 0],[2000],[2000],[(2000,.cells 49 [.b16 r5.2])],.bool r5.1,[],[],[]⟩)] ⟨19,[(0,aZ x1),(1,.fn (.func 81) [.ptr 2000 0]),(5,.i (n3:Int)),(7,.i (lZ x1)),(8,.i (n3:Int)),(16,.bool r5.1)],[(2000,.cells 49 [.b16 r5.2])],[2000],0⟩ (an2 ob0 (cpT (f81_ok _ _ _ hr5))) ?_;refine tN ?_;refine AWp.cond (b:=r5.1) (by kernel_rfl) (fun hc2=> ?_) (fun hc2=> ?_)
   ·
    replace h:=aK hc2 h;refine aM [] [] ⟨19,[(4,.i (n3:Int))],[(2000,.cells 49 [.b16 r5.2])],[2000],0⟩ trivial ?_;have hret:=Option.some.inj h;subst hret;refine AWp.le (Le.mk (s':=⟨19,[(4,.i (n3:Int))],[(2000,.cells 49 [.b16 r5.2])],[2000],0⟩) rfl rfl ⟨.refl _,trivial⟩ ⟨⟨_,rfl,.refl _⟩,trivial⟩) ?_;refine AWp.ret (kR (tR (tR (kR (aV ?_)))));exact bR _ rfl ⟨rfl,rfl⟩ rfl
   ·
    replace h:=aL hc2 h;refine AWp.skip (kN (tN ?_));obtain⟨ob1p,h⟩:=aB h;have ob1: -9223372036854775808≤((n3:Int)+(1:Int))∧((n3:Int)+(1:Int))≤9223372036854775807:=⟨by omega,ob1p⟩;refine aR [] [] ⟨19,[(0,aZ x1),(1,.fn (.func 81) [.ptr 2000 0]),(7,.i (lZ x1)),(8,.i (((n3+1):Nat):Int))],[(2000,.cells 49 [.b16 r5.2])],[2000],0⟩ (an1 ob1) ?_;rw[hC0]at h;exact lN (_,(n3+1),r5.2) (Le.mk rfl rfl ⟨.refl _,.refl _,.refl _,.refl _,trivial⟩ ⟨⟨_,rfl,.refl _⟩,trivial⟩) h (Nat.lt_succ_self _)
  ·
   replace h:=aL hc1 h;refine AWp.exit (tE (tE (kS ?_)));exact jN (w4) (Le.mk rfl rfl trivial ⟨⟨_,rfl,.refl _⟩,trivial⟩) h
 ·
  rintro w6 h;replace h:=(congrFun hK1 _).symm.trans h;refine aM [] [] ⟨19,[(4,.i (-1:Int))],[(2000,.cells 49 [.b16 w6])],[2000],0⟩ trivial ?_;have hret:=Option.some.inj h;subst hret;refine AWp.le (Le.mk (s':=⟨19,[(4,.i (-1:Int))],[(2000,.cells 49 [.b16 w6])],[2000],0⟩) rfl rfl ⟨.refl _,trivial⟩ ⟨⟨_,rfl,.refl _⟩,trivial⟩) ?_;refine AWp.ret ?_;exact bR _ rfl ⟨rfl,rfl⟩ rfl
def f65a (x1:List (BitVec 16)) (x2:BitVec 16):Option (Bool×BitVec 16):=
 (f63a x1 x2).bind fun(r3:Int×BitVec 16)=>
 some ((decide (r3.1≥(0:Int))),r3.2)
theorem f65a_ok (x1:List (BitVec 16)) (x2:BitVec 16) (r:Bool×BitVec 16) (h:f65a x1 x2=some r):aF Tryd.prog 65 [] [2000] [(2000,.cells 49 [.b16 x2])] [vL 1 eW 0#16 x1,.fn (.func 81) [.ptr 2000 0]] (.bool r.1) [(2000,.cells 49 [.b16 r.2])]:=by
 unfold f65a at h;refine aF.body 0 _ _ Tryd.func65 rfl Tryd.ntmps65 rfl rfl ?_;refine aM [] [] ⟨9,[(0,aZ x1),(1,.fn (.func 81) [.ptr 2000 0])],[(2000,.cells 49 [.b16 x2])],[2000],0⟩ trivial ?_;refine AWp.seq ?_;obtain⟨r3,hr3,h⟩:=bind_ok h;refine aR [] [(2,⟨[aZ x1,.fn (.func 81) [.ptr 2000 0]],[2000],[2000],[(2000,.cells 49 [.b16 r3.2])],.i r3.1,[],[],[]⟩)] ⟨9,[(4,.bool (decide (r3.1≥(0:Int))))],[(2000,.cells 49 [.b16 r3.2])],[2000],0⟩ (an1 (cpT (f63a_ok _ _ _ hr3))) ?_;refine tN ?_;have hret:=Option.some.inj h;subst hret;refine AWp.le (Le.mk (s':=⟨9,[(4,.bool (decide (r3.1≥(0:Int))))],[(2000,.cells 49 [.b16 r3.2])],[2000],0⟩) rfl rfl ⟨.refl _,trivial⟩ ⟨⟨_,rfl,.refl _⟩,trivial⟩) ?_;refine AWp.ret ?_;exact bR _ rfl ⟨rfl,rfl⟩ rfl
def f44 (x1:List (BitVec 16)) (x2:BitVec 16):Option Bool:=
 (f65a x1 x2).bind fun(r3:Bool×BitVec 16)=>
 some (!r3.1)
theorem f44_ok (x1:List (BitVec 16)) (x2:BitVec 16) (r:Bool) (h:f44 x1 x2=some r):aF Tryd.prog 44 [] [] [] [vL 1 eW 0#16 x1,.b16 x2] (.bool r) []:=by
 unfold f44 at h;refine aF.body 0 _ _ Tryd.func44 rfl Tryd.ntmps44 rfl rfl ?_;refine aM [] [] ⟨9,[(0,aZ x1),(3,.ptr 3 0)],[(3,.cells 49 [.b16 x2])],[],0⟩ trivial ?_;refine AWp.seq ?_;obtain⟨r3,hr3,h⟩:=bind_ok h;refine aR [] [(2,⟨[aZ x1,.fn (.func 81) [.ptr 3 0]],[3],[3],[(3,.cells 49 [.b16 r3.2])],.bool r3.1,[],[],[]⟩)] ⟨9,[(4,.bool (!r3.1))],[],[],0⟩ (an1 (cpT (aF.ren (aW 2000 3) (aE 2000 3) rfl (f65a_ok _ _ _ hr3)))) ?_;refine tN ?_;have hret:=Option.some.inj h;subst hret;refine AWp.le (Le.mk (s':=⟨9,[(4,.bool (!r3.1))],[],[],0⟩) rfl rfl ⟨.refl _,trivial⟩ trivial) ?_;refine AWp.ret ?_;exact bR _ rfl ⟨rfl,rfl⟩ rfl
def gO (r7:List Int) (i9:Int) (K2:(BitVec 16)→Option Tq2):Nat→(BitVec 16×Nat)→Option Tq2
 |0,_=>none
 |k+1,(w15,n16)=>
  if(decide ((n16:Int)<(((r7).length:Nat):Int)))then(
  jn (fun(w17:BitVec 16)=>
  chk (((n16:Int)+(1:Int))≤9223372036854775807)<|
  (gO r7 i9 K2 k) (w17,(n16+1))
  ) fun(K3:(BitVec 16)→Option Tq2)=>
  chk ((n16:Int)<(((r7).length:Nat):Int))<|
  chk (n16<(r7).length)<|
  chk (n16≤IntKind.bits .u32)<|
  if((aT .and .u32 (i9/2^n16) (1:Int))==(1:Int))then(
  chk (0≤(r7.getD n16 0))<|
  K3 (w15|||((BitVec.ofInt 16 1)<<<(((r7.getD n16 0)).toNat)))
  )else(
  K3 w15
  )
  )else(
  K2 w15
  )
def eM (Y70002:Tq1→(BitVec 16)→Option (Nat×Tq1)) (r7:List Int) (K1:Tq3→Option Tq2):Nat→(Int×BitVec 16×Int×List (BitVec 16)×List (BitVec 16)×Nat)→Option Tq2
 |0,_=>none
 |k+1,(i9,w10,i11,l12,l13,n14)=>
  chk ((r7).length≤IntKind.bits .u32∧0≤((1:Int) *2^((r7).length))∧((1:Int) *2^((r7).length))≤4294967295)<|
  if(decide (i9<((1:Int) *2^((r7).length))))then(
  jn (fun(w18:BitVec 16)=>
  jn (fun((w20,i21,l22,l23,n24):Tq3)=>
  if(i9==(0:Int))then(
  K1 (w20,i21,l22,l23,n24)
  )else(
  chk (0≤(i9+(aT .and .u32 i9 (IntKind.wrap .u32 (0-i9))))∧(i9+(aT .and .u32 i9 (IntKind.wrap .u32 (0-i9))))≤4294967295)<|
  chk (0≤(aT .xor .u32 i9 (i9+(aT .and .u32 i9 (IntKind.wrap .u32 (0-i9)))))∧1≤(aT .and .u32 i9 (IntKind.wrap .u32 (0-i9)))∧0≤((aT .xor .u32 i9 (i9+(aT .and .u32 i9 (IntKind.wrap .u32 (0-i9)))))/(aT .and .u32 i9 (IntKind.wrap .u32 (0-i9))))∧((aT .xor .u32 i9 (i9+(aT .and .u32 i9 (IntKind.wrap .u32 (0-i9)))))/(aT .and .u32 i9 (IntKind.wrap .u32 (0-i9))))≤4294967295)<|
  chk (2≤IntKind.bits .u32)<|
  (eM Y70002 r7 K1 k) ((aT .or .u32 (i9+(aT .and .u32 i9 (IntKind.wrap .u32 (0-i9)))) (((aT .xor .u32 i9 (i9+(aT .and .u32 i9 (IntKind.wrap .u32 (0-i9)))))/(aT .and .u32 i9 (IntKind.wrap .u32 (0-i9))))/2^2)),w20,i21,l22,l23,n24)
  )
  ) fun(K4:Tq3→Option Tq2)=>
  chk (n14=0)<|
  (Y70002 (l12,i11,l13,w10) w18).bind fun(r19:Nat×Tq1)=>
  if r19.1=0 then(
  if(!true)then(
  some (false,0,r19.2.1,r19.2.2.1,r19.2.2.2.1,r19.2.2.2.2)
  )else(
  K4 (r19.2.2.2.2,r19.2.2.1,r19.2.1,r19.2.2.2.1,0)
  )
  )else(
  if(!false)then(
  some (false,r19.1,r19.2.1,r19.2.2.1,r19.2.2.2.1,r19.2.2.2.2)
  )else(
  K4 (r19.2.2.2.2,r19.2.2.1,r19.2.1,r19.2.2.2.1,r19.1)
  )
  )
  ) fun(K2:(BitVec 16)→Option Tq2)=>
  gO r7 i9 K2 bG ((BitVec.ofInt 16 0),0)
  )else(
  K1 (w10,i11,l12,l13,n14)
  )
abbrev fN (l12:List (BitVec 16)) (i11:Int) (l13:List (BitVec 16)) (w10:BitVec 16) (r7:List Int) (C70002:YC) (n14:Nat):aG:=[(1,.cells 30 [vL 1 eW 0#16 l12]),(2,.cells 30 [.nils]),(3,.cells 31 [.int .i64 i11]),(5,.cells 30 [.own 6000]),(6000,bL 49 1 eW 0#16 l13),(6001,.cells 49 [.b16 w10]),(26001,bL 3 1 eI 0 r7),(70002,.yld (some ([1,2,3,5],C70002)) n14)]
abbrev tG (l22:List (BitVec 16)) (i21:Int) (l23:List (BitVec 16)) (w20:BitVec 16) (r7:List Int) (C70002:YC) (n24:Nat):aG:=[(1,.cells 30 [vL 1 eW 0#16 l22]),(2,.cells 30 [.nils]),(3,.cells 31 [.int .i64 i21]),(5,.cells 30 [.own 6000]),(6000,bL 49 1 eW 0#16 l23),(6001,.cells 49 [.b16 w20]),(26001,bL 3 1 eI 0 r7),(70002,.yld (some ([1,2,3,5],C70002)) n24)]
abbrev xM (x3:List (BitVec 16)) (x4:Int) (x5:List (BitVec 16)) (x6:BitVec 16) (r7:List Int) (C70002:YC):aG:=[(1,.cells 30 [vL 1 eW 0#16 x3]),(2,.cells 30 [.nils]),(3,.cells 31 [.int .i64 x4]),(5,.cells 30 [.own 6000]),(6000,bL 49 1 eW 0#16 x5),(6001,.cells 49 [.b16 x6]),(26001,bL 3 1 eI 0 r7),(70002,.yld (some ([1,2,3,5],C70002)) 0)]
abbrev xL (r19:Nat×Tq1):aG:=[(1,.cells 30 [vL 1 eW 0#16 r19.2.1]),(2,.cells 30 [.nils]),(3,.cells 31 [.int .i64 r19.2.2.1]),(5,.cells 30 [.own 6000]),(6000,bL 49 1 eW 0#16 r19.2.2.2.1),(6001,.cells 49 [.b16 r19.2.2.2.2])]
abbrev f73az4 (C70002:YC) (r19:Nat×Tq1):aG:=[(70002,.yld (some ([1,2,3,5],C70002)) r19.1),(1,.cells 30 [vL 1 eW 0#16 r19.2.1]),(2,.cells 30 [.nils]),(3,.cells 31 [.int .i64 r19.2.2.1]),(5,.cells 30 [.own 6000]),(6000,bL 49 1 eW 0#16 r19.2.2.2.1),(6001,.cells 49 [.b16 r19.2.2.2.2])]
abbrev f73az5 (C70002:YC) (r19:Nat×Tq1):aG:=[(70002,.yld (some ([1,2,3,5],C70002)) 0),(1,.cells 30 [vL 1 eW 0#16 r19.2.1]),(2,.cells 30 [.nils]),(3,.cells 31 [.int .i64 r19.2.2.1]),(5,.cells 30 [.own 6000]),(6000,bL 49 1 eW 0#16 r19.2.2.2.1),(6001,.cells 49 [.b16 r19.2.2.2.2])]
abbrev xK (x2:Int):=((decide (x2<(0:Int)))==false)
def f73a (Y70002:Tq1→(BitVec 16)→Option (Nat×Tq1)) (x1:BitVec 16) (x2:Int) (x3:List (BitVec 16)) (x4:Int) (x5:List (BitVec 16)) (x6:BitVec 16):Option Tq2:=
 (f93 x1).bind fun(r7:List Int)=>
 if((decide (x2<(0:Int)))||(decide (x2>(((r7).length:Nat):Int))))then(
 some (true,0,x3,x4,x5,x6)
 )else(
 jn (fun((w18,i19,l20,l21,n22):Tq3)=>
 some (true,n22,l20,i19,l21,w18)
 ) fun(K1:Tq3→Option Tq2)=>
 chk (0≤x2∧(x2).toNat≤IntKind.bits .u32∧0≤((1:Int) *2^((x2).toNat))∧((1:Int) *2^((x2).toNat))≤4294967295)<|
 chk (0≤(((1:Int) *2^((x2).toNat))-(1:Int))∧(((1:Int) *2^((x2).toNat))-(1:Int))≤4294967295)<|
 eM Y70002 r7 K1 bG ((((1:Int) *2^((x2).toNat))-(1:Int)),x6,x4,x3,x5,0)
 )
theorem f73a_ok (C70002:YC) (Y70002:Tq1→(BitVec 16)→Option (Nat×Tq1)) (x1:BitVec 16) (x2:Int) (x3:List (BitVec 16)) (x4:Int) (x5:List (BitVec 16)) (x6:BitVec 16) (r:Tq2) (h:f73a Y70002 x1 x2 x3 x4 x5 x6=some r) (hY70002:∀s x r,Y70002 s x=some r→dG Tryd.prog 70002 [1,2,3,5] C70002 [1,2,3,5,6001] [(1,.cells 30 [vL 1 eW 0#16 s.1]),(2,.cells 30 [.nils]),(3,.cells 31 [.int .i64 s.2.1]),(5,.cells 30 [.own 6000]),(6000,bL 49 1 eW 0#16 s.2.2.1),(6001,.cells 49 [.b16 s.2.2.2])] [.b16 x] r.1 [(1,.cells 30 [vL 1 eW 0#16 r.2.1]),(2,.cells 30 [.nils]),(3,.cells 31 [.int .i64 r.2.2.1]),(5,.cells 30 [.own 6000]),(6000,bL 49 1 eW 0#16 r.2.2.2.1),(6001,.cells 49 [.b16 r.2.2.2.2])]):aF Tryd.prog 73 [(0,.elem 32 1 T0F 0 0)] [70002,1,2,3,5,6001] [(70002,.yld (some ([1,2,3,5],C70002)) 0),(1,.cells 30 [vL 1 eW 0#16 x3]),(2,.cells 30 [.nils]),(3,.cells 31 [.int .i64 x4]),(5,.cells 30 [.own 6000]),(6000,bL 49 1 eW 0#16 x5),(6001,.cells 49 [.b16 x6])] [.b16 x1,.int .i64 x2,.own 70002] (.bool r.1) [(70002,.yld (some ([1,2,3,5],C70002)) r.2.1),(1,.cells 30 [vL 1 eW 0#16 r.2.2.1]),(2,.cells 30 [.nils]),(3,.cells 31 [.int .i64 r.2.2.2.1]),(5,.cells 30 [.own 6000]),(6000,bL 49 1 eW 0#16 r.2.2.2.2.1),(6001,.cells 49 [.b16 r.2.2.2.2.2])]:=by
 unfold f73a at h;refine aF.body 20000 _ _ Tryd.func73 rfl Tryd.ntmps73 rfl rfl ?_;refine aM [57] [] ⟨70,[(0,.b16 x1),(1,.i x2),(2,.own 70002),(1000000,.elem 32 1 T0F 0 0)],[(1,.cells 30 [aZ x3]),(2,.cells 30 [.nils]),(3,.cells 31 [.i x4]),(5,.cells 30 [.own 6000]),(6000,aA x5),(6001,.cells 49 [.b16 x6]),(70002,.yld (some ([1,2,3,5],C70002)) 0)],[70002,1,2,3,5,6001],20000⟩ trivial ?_;refine AWp.seq ?_;obtain⟨r7,hr7,h⟩:=bind_ok h;refine aR [57] [(1,⟨[.b16 x1],[],[],[(26001,aJ r7)],.own 26001,[26001],[],[0]⟩)] ⟨70,[(1,.i x2),(2,.own 70002),(7,.own 26001),(1000000,.elem 32 1 T0F 0 0)],(xM x3 x4 x5 x6 r7 C70002),[70002,1,2,3,5,6001],20000⟩ (an1 (cpT (aF.ren (aW 3000 26001) (aE 3000 26001) rfl (f93_ok _ _ hr7)))) ?_;refine tN (AWp.seq (AWp.seq ?_));have ob0:=idA ((xK x2)=true);have ob1:=idA ((xK x2)=true);have ob2:=idA ((xK x2)=true);have ob3:true=true→(decide (x2<(0:Int)))=false→(xK x2)=true:=fun _ h=>beq_iff_eq.2 h;refine aR [57] [] ⟨70,[(1,.i x2),(2,.own 70002),(7,.own 26001),(23,.bool ((decide (x2<(0:Int)))||(decide (x2>(lZ r7))))),(1000000,.elem 32 1 T0F 0 0)],(xM x3 x4 x5 x6 r7 C70002),[70002,1,2,3,5,6001],20000⟩ (an3 (an1 ob0) (an2 ob1 ob2) ob3) ?_;refine tN ?_;refine AWp.cond (b:=((decide (x2<(0:Int)))||(decide (x2>(lZ r7))))) (by kernel_rfl) (fun hc1=> ?_) (fun hc1=> ?_)
 ·
  replace h:=aK hc1 h;refine aM [57] [] ⟨70,[(6,.bool true),(1000000,.elem 32 1 T0F 0 0)],[(1,.cells 30 [aZ x3]),(2,.cells 30 [.nils]),(3,.cells 31 [.i x4]),(5,.cells 30 [.own 6000]),(6000,aA x5),(6001,.cells 49 [.b16 x6]),(70002,.yld (some ([1,2,3,5],C70002)) 0)],[70002,1,2,3,5,6001],20000⟩ trivial ?_;have hret:=Option.some.inj h;subst hret;refine AWp.le (Le.mk (s':=⟨70,[(6,.bool true)],[(70002,.yld (some ([1,2,3,5],C70002)) 0),(1,.cells 30 [aZ x3]),(2,.cells 30 [.nils]),(3,.cells 31 [.i x4]),(5,.cells 30 [.own 6000]),(6000,aA x5),(6001,.cells 49 [.b16 x6])],[70002,1,2,3,5,6001],20000⟩) rfl rfl ⟨.refl _,trivial⟩ ⟨⟨_,rfl,.refl _⟩,⟨_,rfl,.refl _⟩,⟨_,rfl,.refl _⟩,⟨_,rfl,.refl _⟩,⟨_,rfl,.refl _⟩,⟨_,rfl,.refl _⟩,⟨_,rfl,.refl _⟩,trivial⟩) ?_;refine AWp.ret (tR ?_);exact bR _ rfl ⟨rfl,rfl⟩ rfl
 ·
  replace h:=aL hc1 h;refine AWp.skip (tN ?_);obtain⟨K1,hK1,h⟩:=aU h;refine AWp.join (α:=BitVec 16×Int×List (BitVec 16)×List (BitVec 16)×Nat) (fun(x:Tq3)=>match x with|(w18,i19,l20,l21,n22)=>⟨70,[(1000000,.elem 32 1 T0F 0 0)],[(1,.cells 30 [aZ l20]),(2,.cells 30 [.nils]),(3,.cells 31 [.i i19]),(5,.cells 30 [.own 6000]),(6000,aA l21),(6001,.cells 49 [.b16 w18]),(70002,.yld (some ([1,2,3,5],C70002)) n22)],[70002,1,2,3,5,6001],20000⟩) (fun x=>K1 x=some r) ?_ ?_
  ·
   refine AWp.seq ?_;obtain⟨ob4,ob5,h⟩:=ck2 h;refine aR [57] [] ⟨70,[(2,.own 70002),(7,.own 26001),(8,.int .u32 (((1:Int) *2^((x2).toNat))-(1:Int))),(1000000,.elem 32 1 T0F 0 0)],(xM x3 x4 x5 x6 r7 C70002),[70002,1,2,3,5,6001],20000⟩ (an2 ob4 ob5) ?_;refine tN (AWp.block ?_);refine AWp.loopL (α:=Nat×(Int×BitVec 16×Int×List (BitVec 16)×List (BitVec 16)×Nat)) (fun x=>match x with|(_,i9,w10,i11,l12,l13,n14)=>⟨70,[(2,.own 70002),(7,.own 26001),(8,.int .u32 i9),(1000000,.elem 32 1 T0F 0 0)],(fN l12 i11 l13 w10 r7 C70002 n14),[70002,1,2,3,5,6001],20000⟩) (fun x=>eM Y70002 r7 K1 x.1 x.2=some r) (fun x=>x.1) (bG,(((1:Int) *2^((x2).toNat))-(1:Int)),x6,x4,x3,x5,0) (Le.mk (s':=⟨70,[(2,.own 70002),(7,.own 26001),(8,.int .u32 (((1:Int) *2^((x2).toNat))-(1:Int))),(1000000,.elem 32 1 T0F 0 0)],(xM x3 x4 x5 x6 r7 C70002),[70002,1,2,3,5,6001],20000⟩) rfl rfl ⟨.refl _,.refl _,.refl _,.refl _,trivial⟩ ⟨⟨_,rfl,.refl _⟩,⟨_,rfl,.refl _⟩,⟨_,rfl,.refl _⟩,⟨_,rfl,.refl _⟩,⟨_,rfl,.refl _⟩,⟨_,rfl,.refl _⟩,⟨_,rfl,.refl _⟩,⟨_,rfl,.refl _⟩,trivial⟩) h ?_
   rintro⟨k0,i9,w10,i11,l12,l13,n14⟩ h
   cases k0 with
   |zero=>exact nomatch (show(none:Option Tq2)=some r from h)
   |succ k0=>
   obtain⟨C0,hC0⟩:∃C,C=eM Y70002 r7 K1 k0:=⟨_,rfl⟩;replace h:=(eM.eq_2 ..).symm.trans h
   try rw[←hC0]at h
   refine AWp.seq (AWp.seq ?_);obtain⟨ob6p,h⟩:=aB h;have ob6:0≤(((r7).length:Nat):Int)∧(r7).length≤IntKind.bits .u32∧0≤((1:Int) *2^((r7).length))∧((1:Int) *2^((r7).length))≤4294967295:=⟨by omega,ob6p.1,ob6p.2.1,ob6p.2.2⟩;refine aR [57] [] ⟨70,[(2,.own 70002),(7,.own 26001),(8,.int .u32 i9),(31,.bool (decide (i9<((1:Int) *2^((r7).length))))),(1000000,.elem 32 1 T0F 0 0)],(fN l12 i11 l13 w10 r7 C70002 n14),[70002,1,2,3,5,6001],20000⟩ (an1 ob6) ?_;refine tN ?_;refine AWp.cond (b:=(decide (i9<((1:Int) *2^((r7).length))))) (by kernel_rfl) (fun hc2=> ?_) (fun hc2=> ?_)
   ·
    replace h:=aK hc2 h;refine AWp.skip (tN (AWp.block ?_));refine aM [57] [] ⟨70,[(2,.own 70002),(7,.own 26001),(8,.int .u32 i9),(9,.b16 (bD 0)),(1000000,.elem 32 1 T0F 0 0)],(fN l12 i11 l13 w10 r7 C70002 n14),[70002,1,2,3,5,6001],20000⟩ trivial ?_;obtain⟨K2,hK2,h⟩:=aU h;refine AWp.join (α:=BitVec 16) (fun(w18:BitVec 16)=>⟨70,[(2,.own 70002),(7,.own 26001),(8,.int .u32 i9),(9,.b16 w18),(1000000,.elem 32 1 T0F 0 0)],(fN l12 i11 l13 w10 r7 C70002 n14),[70002,1,2,3,5,6001],20000⟩) (fun x=>K2 x=some r) ?_ ?_
    ·
     refine aM [57] [] ⟨70,[(2,.own 70002),(7,.own 26001),(8,.int .u32 i9),(9,.b16 (bD 0)),(32,.own 26001),(33,.i (lZ r7)),(34,.i (0:Int)),(1000000,.elem 32 1 T0F 0 0)],(fN l12 i11 l13 w10 r7 C70002 n14),[70002,1,2,3,5,6001],20000⟩ trivial ?_;refine AWp.block ?_;refine AWp.loopL (α:=Nat×(BitVec 16×Nat)) (fun x=>match x with|(_,w15,n16)=>⟨70,[(2,.own 70002),(7,.own 26001),(8,.int .u32 i9),(9,.b16 w15),(32,.own 26001),(33,.i (lZ r7)),(34,.i (n16:Int)),(1000000,.elem 32 1 T0F 0 0)],(fN l12 i11 l13 w10 r7 C70002 n14),[70002,1,2,3,5,6001],20000⟩) (fun x=>gO r7 i9 K2 x.1 x.2=some r) (fun x=>x.1) (bG,(bD 0),0) (Le.mk (s':=⟨70,[(2,.own 70002),(7,.own 26001),(8,.int .u32 i9),(9,.b16 (bD 0)),(32,.own 26001),(33,.i (lZ r7)),(34,.i (0:Int)),(1000000,.elem 32 1 T0F 0 0)],(fN l12 i11 l13 w10 r7 C70002 n14),[70002,1,2,3,5,6001],20000⟩) rfl rfl ⟨.refl _,.refl _,.refl _,.refl _,.refl _,.refl _,.refl _,.refl _,trivial⟩ ⟨⟨_,rfl,.refl _⟩,⟨_,rfl,.refl _⟩,⟨_,rfl,.refl _⟩,⟨_,rfl,.refl _⟩,⟨_,rfl,.refl _⟩,⟨_,rfl,.refl _⟩,⟨_,rfl,.refl _⟩,⟨_,rfl,.refl _⟩,trivial⟩) h ?_
     rintro⟨k1,w15,n16⟩ h
     cases k1 with
     |zero=>exact nomatch (show(none:Option Tq2)=some r from h)
     |succ k1=>
     obtain⟨C1,hC1⟩:∃C,C=gO r7 i9 K2 k1:=⟨_,rfl⟩;replace h:=(gO.eq_2 ..).symm.trans h
     try rw[←hC1]at h
     refine aM [57] [] ⟨70,[(2,.own 70002),(7,.own 26001),(8,.int .u32 i9),(9,.b16 w15),(32,.own 26001),(33,.i (lZ r7)),(34,.i (n16:Int)),(35,.bool (decide ((n16:Int)<(lZ r7)))),(1000000,.elem 32 1 T0F 0 0)],(fN l12 i11 l13 w10 r7 C70002 n14),[70002,1,2,3,5,6001],20000⟩ trivial ?_;refine AWp.seq ?_;refine AWp.cond (b:=(decide ((n16:Int)<(lZ r7)))) (by kernel_rfl) (fun hc3=> ?_) (fun hc3=> ?_)
     ·
      replace h:=aK hc3 h;refine AWp.skip (tN ?_);obtain⟨K3,hK3,h⟩:=aU h;refine AWp.join (α:=BitVec 16) (fun(w17:BitVec 16)=>⟨70,[(2,.own 70002),(7,.own 26001),(8,.int .u32 i9),(9,.b16 w17),(32,.own 26001),(33,.i (lZ r7)),(34,.i (n16:Int)),(1000000,.elem 32 1 T0F 0 0)],(fN l12 i11 l13 w10 r7 C70002 n14),[70002,1,2,3,5,6001],20000⟩) (fun x=>K3 x=some r) ?_ ?_
      ·
       refine AWp.block (AWp.seq ?_);obtain⟨ob7p,h⟩:=aB h;have ob7:0≤(n16:Int)∧(n16:Int)<(((r7).length:Nat):Int):=⟨by omega,ob7p⟩;obtain⟨ob8,h⟩:=aB h;refine aR [57] [] ⟨70,[(2,.own 70002),(7,.own 26001),(8,.int .u32 i9),(9,.b16 w15),(10,.i (n16:Int)),(11,.i (r7.getD n16 0)),(32,.own 26001),(33,.i (lZ r7)),(34,.i (n16:Int)),(1000000,.elem 32 1 T0F 0 0)],(fN l12 i11 l13 w10 r7 C70002 n14),[70002,1,2,3,5,6001],20000⟩ (an2 ob7 ob8) ?_;refine tN (AWp.seq ?_);obtain⟨ob9p,h⟩:=aB h;have ob9:0≤(n16:Int)∧n16≤IntKind.bits .u32:=⟨by omega,ob9p⟩;refine aR [57] [] ⟨70,[(2,.own 70002),(7,.own 26001),(8,.int .u32 i9),(9,.b16 w15),(11,.i (r7.getD n16 0)),(32,.own 26001),(33,.i (lZ r7)),(34,.i (n16:Int)),(43,.bool ((aT .and .u32 (i9/2^n16) (1:Int))==(1:Int))),(1000000,.elem 32 1 T0F 0 0)],(fN l12 i11 l13 w10 r7 C70002 n14),[70002,1,2,3,5,6001],20000⟩ (an1 ob9) ?_;refine tN ?_;refine AWp.cond (b:=((aT .and .u32 (i9/2^n16) (1:Int))==(1:Int))) (by kernel_rfl) (fun hc4=> ?_) (fun hc4=> ?_)
       ·
        replace h:=aK hc4 h;obtain⟨ob10,h⟩:=aB h;refine aR [57] [] ⟨70,[(2,.own 70002),(7,.own 26001),(8,.int .u32 i9),(9,.b16 (w15|||((bD 1)<<<(((r7.getD n16 0)).toNat)))),(32,.own 26001),(33,.i (lZ r7)),(34,.i (n16:Int)),(1000000,.elem 32 1 T0F 0 0)],(fN l12 i11 l13 w10 r7 C70002 n14),[70002,1,2,3,5,6001],20000⟩ (an1 ob10) ?_;refine kN ?_;exact jN ((w15|||((bD 1)<<<(((r7.getD n16 0)).toNat)))) (Le.mk rfl rfl ⟨.refl _,.refl _,.refl _,.refl _,.refl _,.refl _,.refl _,.refl _,trivial⟩ ⟨⟨_,rfl,.refl _⟩,⟨_,rfl,.refl _⟩,⟨_,rfl,.refl _⟩,⟨_,rfl,.refl _⟩,⟨_,rfl,.refl _⟩,⟨_,rfl,.refl _⟩,⟨_,rfl,.refl _⟩,⟨_,rfl,.refl _⟩,trivial⟩) h
       ·
        replace h:=aL hc4 h;refine AWp.skip (kN ?_);exact jN (w15) (Le.mk rfl rfl ⟨.refl _,.refl _,.refl _,.refl _,.refl _,.refl _,.refl _,.refl _,trivial⟩ ⟨⟨_,rfl,.refl _⟩,⟨_,rfl,.refl _⟩,⟨_,rfl,.refl _⟩,⟨_,rfl,.refl _⟩,⟨_,rfl,.refl _⟩,⟨_,rfl,.refl _⟩,⟨_,rfl,.refl _⟩,⟨_,rfl,.refl _⟩,trivial⟩) h
      ·
       rintro w17 h;replace h:=(congrFun hK3 _).symm.trans h;obtain⟨ob11p,h⟩:=aB h;have ob11: -9223372036854775808≤((n16:Int)+(1:Int))∧((n16:Int)+(1:Int))≤9223372036854775807:=⟨by omega,ob11p⟩;refine aR [57] [] ⟨70,[(2,.own 70002),(7,.own 26001),(8,.int .u32 i9),(9,.b16 w17),(32,.own 26001),(33,.i (lZ r7)),(34,.i (((n16+1):Nat):Int)),(1000000,.elem 32 1 T0F 0 0)],(fN l12 i11 l13 w10 r7 C70002 n14),[70002,1,2,3,5,6001],20000⟩ (an1 ob11) ?_;rw[hC1]at h;exact lN (_,w17,(n16+1)) (Le.mk rfl rfl ⟨.refl _,.refl _,.refl _,.refl _,.refl _,.refl _,.refl _,.refl _,trivial⟩ ⟨⟨_,rfl,.refl _⟩,⟨_,rfl,.refl _⟩,⟨_,rfl,.refl _⟩,⟨_,rfl,.refl _⟩,⟨_,rfl,.refl _⟩,⟨_,rfl,.refl _⟩,⟨_,rfl,.refl _⟩,⟨_,rfl,.refl _⟩,trivial⟩) h (Nat.lt_succ_self _)
     ·
      replace h:=aL hc3 h;refine AWp.exit (tE (tE (kS ?_)));exact jN (w15) (Le.mk rfl rfl ⟨.refl _,.refl _,.refl _,.refl _,.refl _,trivial⟩ ⟨⟨_,rfl,.refl _⟩,⟨_,rfl,.refl _⟩,⟨_,rfl,.refl _⟩,⟨_,rfl,.refl _⟩,⟨_,rfl,.refl _⟩,⟨_,rfl,.refl _⟩,⟨_,rfl,.refl _⟩,⟨_,rfl,.refl _⟩,trivial⟩) h
    ·
     rintro w18 h;replace h:=(congrFun hK2 _).symm.trans h;obtain⟨K4,hK4,h⟩:=aU h;refine AWp.join (α:=BitVec 16×Int×List (BitVec 16)×List (BitVec 16)×Nat) (fun(x:Tq3)=>match x with|(w20,i21,l22,l23,n24)=>⟨70,[(2,.own 70002),(7,.own 26001),(8,.int .u32 i9),(1000000,.elem 32 1 T0F 0 0)],(tG l22 i21 l23 w20 r7 C70002 n24),[70002,1,2,3,5,6001],20000⟩) (fun x=>K4 x=some r) ?_ ?_
     ·
      refine AWp.seq ?_;obtain⟨hz5,h⟩:=aB h;refine AWp.le (Le.mk (s':=⟨70,[(2,.own 70002),(7,.own 26001),(8,.int .u32 i9),(9,.b16 w18),(1000000,.elem 32 1 T0F 0 0)],[(1,.cells 30 [aZ l12]),(2,.cells 30 [.nils]),(3,.cells 31 [.i i11]),(5,.cells 30 [.own 6000]),(6000,aA l13),(6001,.cells 49 [.b16 w10]),(26001,aJ r7),(70002,.yld (some ([1,2,3,5],C70002)) 0)],[70002,1,2,3,5,6001],20000⟩) rfl rfl ⟨.refl _,.refl _,.refl _,.refl _,.refl _,trivial⟩ ⟨⟨_,rfl,.refl _⟩,⟨_,rfl,.refl _⟩,⟨_,rfl,.refl _⟩,⟨_,rfl,.refl _⟩,⟨_,rfl,.refl _⟩,⟨_,rfl,.refl _⟩,⟨_,rfl,.refl _⟩,⟨_,rfl,BLe.yldEq hz5⟩,trivial⟩) ?_;obtain⟨r19,hr19,h⟩:=bind_ok h;by_cases hy_r19:r19.1=0
      ·
       replace h:=fG hy_r19 h;refine aR [57] [(2,⟨[.b16 w18],[70002,1,2,3,5,6000,6001],[1,2,3,5,6001],(f73az5 C70002 r19),.bool true,[6000],[],[]⟩)] ⟨70,[(2,.own 70002),(7,.own 26001),(8,.int .u32 i9),(52,.bool (!true)),(1000000,.elem 32 1 T0F 0 0)],[(1,.cells 30 [aZ r19.2.1]),(2,.cells 30 [.nils]),(3,.cells 31 [.i r19.2.2.1]),(5,.cells 30 [.own 6000]),(6000,aA r19.2.2.2.1),(6001,.cells 49 [.b16 r19.2.2.2.2]),(26001,aJ r7),(70002,.yld (some ([1,2,3,5],C70002)) 0)],[70002,1,2,3,5,6001],20000⟩ (an1 (show(((f73az5 C70002 r19):aG)=(70002,.yld (some ([1,2,3,5],C70002)) 0)::(xL r19)∧V.bool true=V.bool (0==0)∧dG Tryd.prog 70002 [1,2,3,5] C70002 [1,2,3,5,6001] [(1,.cells 30 [aZ l12]),(2,.cells 30 [.nils]),(3,.cells 31 [.i i11]),(5,.cells 30 [.own 6000]),(6000,aA l13),(6001,.cells 49 [.b16 w10])] [.b16 w18] 0 (xL r19)∧eQ [.b16 w18] [.b16 w18])from⟨rfl,rfl,(dG.zero (hY70002 _ _ r19 hr19) hy_r19),⟨.refl _,trivial⟩⟩)) ?_;refine tN ?_;refine AWp.cond (b:=(!true)) (by kernel_rfl) (fun hc7=> ?_) (fun hc7=> ?_)
       ·
        replace h:=aK hc7 h;refine aM [57] [] ⟨70,[(6,.bool false),(1000000,.elem 32 1 T0F 0 0)],[(1,.cells 30 [aZ r19.2.1]),(2,.cells 30 [.nils]),(3,.cells 31 [.i r19.2.2.1]),(5,.cells 30 [.own 6000]),(6000,aA r19.2.2.2.1),(6001,.cells 49 [.b16 r19.2.2.2.2]),(70002,.yld (some ([1,2,3,5],C70002)) 0)],[70002,1,2,3,5,6001],20000⟩ trivial ?_;have hret:=Option.some.inj h;subst hret;refine AWp.le (Le.mk (s':=⟨70,[(6,.bool false)],(f73az5 C70002 r19),[70002,1,2,3,5,6001],20000⟩) rfl rfl ⟨.refl _,trivial⟩ ⟨⟨_,rfl,.refl _⟩,⟨_,rfl,.refl _⟩,⟨_,rfl,.refl _⟩,⟨_,rfl,.refl _⟩,⟨_,rfl,.refl _⟩,⟨_,rfl,.refl _⟩,⟨_,rfl,.refl _⟩,trivial⟩) ?_;refine AWp.ret (aV (kR (tR (kR (aV ?_)))));exact bR _ rfl ⟨rfl,rfl⟩ rfl
       ·
        replace h:=aL hc7 h;refine AWp.skip ?_;exact jN (r19.2.2.2.2,r19.2.2.1,r19.2.1,r19.2.2.2.1,0) (Le.mk rfl rfl ⟨.refl _,.refl _,.refl _,.refl _,trivial⟩ ⟨⟨_,rfl,.refl _⟩,⟨_,rfl,.refl _⟩,⟨_,rfl,.refl _⟩,⟨_,rfl,.refl _⟩,⟨_,rfl,.refl _⟩,⟨_,rfl,.refl _⟩,⟨_,rfl,.refl _⟩,⟨_,rfl,.refl _⟩,trivial⟩) h
      ·
       replace h:=fH hy_r19 h;refine aR [57] [(2,⟨[.b16 w18],[70002,1,2,3,5,6000,6001],[1,2,3,5,6001],(f73az4 C70002 r19),.bool false,[6000],[],[]⟩)] ⟨70,[(2,.own 70002),(7,.own 26001),(8,.int .u32 i9),(52,.bool (!false)),(1000000,.elem 32 1 T0F 0 0)],[(1,.cells 30 [aZ r19.2.1]),(2,.cells 30 [.nils]),(3,.cells 31 [.i r19.2.2.1]),(5,.cells 30 [.own 6000]),(6000,aA r19.2.2.2.1),(6001,.cells 49 [.b16 r19.2.2.2.2]),(26001,aJ r7),(70002,.yld (some ([1,2,3,5],C70002)) r19.1)],[70002,1,2,3,5,6001],20000⟩ (an1 (show(((f73az4 C70002 r19):aG)=(70002,.yld (some ([1,2,3,5],C70002)) r19.1)::(xL r19)∧V.bool false=V.bool (r19.1==0)∧dG Tryd.prog 70002 [1,2,3,5] C70002 [1,2,3,5,6001] [(1,.cells 30 [aZ l12]),(2,.cells 30 [.nils]),(3,.cells 31 [.i i11]),(5,.cells 30 [.own 6000]),(6000,aA l13),(6001,.cells 49 [.b16 w10])] [.b16 w18] r19.1 (xL r19)∧eQ [.b16 w18] [.b16 w18])from⟨rfl,rC hy_r19,(hY70002 _ _ r19 hr19),⟨.refl _,trivial⟩⟩)) ?_;refine tN ?_;refine AWp.cond (b:=(!false)) (by kernel_rfl) (fun hc8=> ?_) (fun hc8=> ?_)
       ·
        replace h:=aK hc8 h;refine aM [57] [] ⟨70,[(6,.bool false),(1000000,.elem 32 1 T0F 0 0)],[(1,.cells 30 [aZ r19.2.1]),(2,.cells 30 [.nils]),(3,.cells 31 [.i r19.2.2.1]),(5,.cells 30 [.own 6000]),(6000,aA r19.2.2.2.1),(6001,.cells 49 [.b16 r19.2.2.2.2]),(70002,.yld (some ([1,2,3,5],C70002)) r19.1)],[70002,1,2,3,5,6001],20000⟩ trivial ?_;have hret:=Option.some.inj h;subst hret;refine AWp.le (Le.mk (s':=⟨70,[(6,.bool false)],(f73az4 C70002 r19),[70002,1,2,3,5,6001],20000⟩) rfl rfl ⟨.refl _,trivial⟩ ⟨⟨_,rfl,.refl _⟩,⟨_,rfl,.refl _⟩,⟨_,rfl,.refl _⟩,⟨_,rfl,.refl _⟩,⟨_,rfl,.refl _⟩,⟨_,rfl,.refl _⟩,⟨_,rfl,.refl _⟩,trivial⟩) ?_;refine AWp.ret (aV (kR (tR (kR (aV ?_)))));exact bR _ rfl ⟨rfl,rfl⟩ rfl
       ·
        replace h:=aL hc8 h;refine AWp.skip ?_;exact jN (r19.2.2.2.2,r19.2.2.1,r19.2.1,r19.2.2.2.1,r19.1) (Le.mk rfl rfl ⟨.refl _,.refl _,.refl _,.refl _,trivial⟩ ⟨⟨_,rfl,.refl _⟩,⟨_,rfl,.refl _⟩,⟨_,rfl,.refl _⟩,⟨_,rfl,.refl _⟩,⟨_,rfl,.refl _⟩,⟨_,rfl,.refl _⟩,⟨_,rfl,.refl _⟩,⟨_,rfl,.refl _⟩,trivial⟩) h
     ·
      rintro⟨w20,i21,l22,l23,n24⟩ h;replace h:=(congrFun hK4 _).symm.trans h;refine AWp.seq ?_;refine aM [57] [] ⟨70,[(2,.own 70002),(7,.own 26001),(8,.int .u32 i9),(54,.bool (i9==(0:Int))),(1000000,.elem 32 1 T0F 0 0)],(tG l22 i21 l23 w20 r7 C70002 n24),[70002,1,2,3,5,6001],20000⟩ trivial ?_;refine AWp.cond (b:=(i9==(0:Int))) (by kernel_rfl) (fun hc9=> ?_) (fun hc9=> ?_)
      ·
       replace h:=aK hc9 h;refine AWp.exit (tE ?_);refine gQ (by decide) ?_;refine tE (kS ?_);exact jN (w20,i21,l22,l23,n24) (Le.mk rfl rfl ⟨.refl _,trivial⟩ ⟨⟨_,rfl,.refl _⟩,⟨_,rfl,.refl _⟩,⟨_,rfl,.refl _⟩,⟨_,rfl,.refl _⟩,⟨_,rfl,.refl _⟩,⟨_,rfl,.refl _⟩,⟨_,rfl,.refl _⟩,trivial⟩) h
      ·
       replace h:=aL hc9 h;refine AWp.skip (tN ?_);refine aM [57] [] ⟨70,[(2,.own 70002),(7,.own 26001),(8,.int .u32 i9),(12,.int .u32 (aT .and .u32 i9 (IntKind.wrap .u32 (0-i9)))),(1000000,.elem 32 1 T0F 0 0)],(tG l22 i21 l23 w20 r7 C70002 n24),[70002,1,2,3,5,6001],20000⟩ (an1 trivial) ?_;refine AWp.seq ?_;obtain⟨ob12,h⟩:=aB h;refine aR [57] [] ⟨70,[(2,.own 70002),(7,.own 26001),(8,.int .u32 i9),(12,.int .u32 (aT .and .u32 i9 (IntKind.wrap .u32 (0-i9)))),(13,.int .u32 (i9+(aT .and .u32 i9 (IntKind.wrap .u32 (0-i9))))),(1000000,.elem 32 1 T0F 0 0)],(tG l22 i21 l23 w20 r7 C70002 n24),[70002,1,2,3,5,6001],20000⟩ (an1 ob12) ?_;refine tN ?_;obtain⟨ob13,ob14p,h⟩:=ck2 h;have ob14:0≤(2:Int)∧2≤IntKind.bits .u32:=⟨by omega,ob14p⟩;refine aR [57] [] ⟨70,[(2,.own 70002),(7,.own 26001),(8,.int .u32 (aT .or .u32 (i9+(aT .and .u32 i9 (IntKind.wrap .u32 (0-i9)))) (((aT .xor .u32 i9 (i9+(aT .and .u32 i9 (IntKind.wrap .u32 (0-i9)))))/(aT .and .u32 i9 (IntKind.wrap .u32 (0-i9))))/2^2))),(1000000,.elem 32 1 T0F 0 0)],(tG l22 i21 l23 w20 r7 C70002 n24),[70002,1,2,3,5,6001],20000⟩ (an2 ob13 ob14) ?_;refine kN ?_;rw[hC0]at h;exact lN (_,(aT .or .u32 (i9+(aT .and .u32 i9 (IntKind.wrap .u32 (0-i9)))) (((aT .xor .u32 i9 (i9+(aT .and .u32 i9 (IntKind.wrap .u32 (0-i9)))))/(aT .and .u32 i9 (IntKind.wrap .u32 (0-i9))))/2^2)),w20,i21,l22,l23,n24) (Le.mk rfl rfl ⟨.refl _,.refl _,.refl _,.refl _,trivial⟩ ⟨⟨_,rfl,.refl _⟩,⟨_,rfl,.refl _⟩,⟨_,rfl,.refl _⟩,⟨_,rfl,.refl _⟩,⟨_,rfl,.refl _⟩,⟨_,rfl,.refl _⟩,⟨_,rfl,.refl _⟩,⟨_,rfl,.refl _⟩,trivial⟩) h (Nat.lt_succ_self _)
   ·
    replace h:=aL hc2 h;refine AWp.exit (tE (tE (kS ?_)));exact jN (w10,i11,l12,l13,n14) (Le.mk rfl rfl ⟨.refl _,trivial⟩ ⟨⟨_,rfl,.refl _⟩,⟨_,rfl,.refl _⟩,⟨_,rfl,.refl _⟩,⟨_,rfl,.refl _⟩,⟨_,rfl,.refl _⟩,⟨_,rfl,.refl _⟩,⟨_,rfl,.refl _⟩,trivial⟩) h
  ·
   rintro⟨w18,i19,l20,l21,n22⟩ h;replace h:=(congrFun hK1 _).symm.trans h;refine aM [57] [] ⟨70,[(6,.bool true),(1000000,.elem 32 1 T0F 0 0)],[(1,.cells 30 [aZ l20]),(2,.cells 30 [.nils]),(3,.cells 31 [.i i19]),(5,.cells 30 [.own 6000]),(6000,aA l21),(6001,.cells 49 [.b16 w18]),(70002,.yld (some ([1,2,3,5],C70002)) n22)],[70002,1,2,3,5,6001],20000⟩ trivial ?_;have hret:=Option.some.inj h;subst hret;refine AWp.le (Le.mk (s':=⟨70,[(6,.bool true)],[(70002,.yld (some ([1,2,3,5],C70002)) n22),(1,.cells 30 [aZ l20]),(2,.cells 30 [.nils]),(3,.cells 31 [.i i19]),(5,.cells 30 [.own 6000]),(6000,aA l21),(6001,.cells 49 [.b16 w18])],[70002,1,2,3,5,6001],20000⟩) rfl rfl ⟨.refl _,trivial⟩ ⟨⟨_,rfl,.refl _⟩,⟨_,rfl,.refl _⟩,⟨_,rfl,.refl _⟩,⟨_,rfl,.refl _⟩,⟨_,rfl,.refl _⟩,⟨_,rfl,.refl _⟩,⟨_,rfl,.refl _⟩,trivial⟩) ?_;refine AWp.ret ?_;exact bR _ rfl ⟨rfl,rfl⟩ rfl
def dS (Y70002:Tq1→(BitVec 16)→Option (Nat×Tq1)):Nat→(Nat×BitVec 16×Int×List (BitVec 16)×List (BitVec 16)×Nat)→Option (Nat×List (BitVec 16)×Int×List (BitVec 16)×BitVec 16)
 |0,_=>none
 |k+1,(n5,w6,i7,l8,l9,n10)=>
  chk (n10=0)<|
  (f72 w6).bind fun(r11:Int)=>
  if(decide ((n5:Int)≤r11))=true then(
  (f73a Y70002 w6 (n5:Int) l8 i7 l9 w6).bind fun(r12:Tq2)=>
  if r12.1 then(
  chk (((n5:Int)+(1:Int))≤9223372036854775807)<|
  (dS Y70002 k) ((n5+1),r12.2.2.2.2.2,r12.2.2.2.1,r12.2.2.1,r12.2.2.2.2.1,r12.2.1)
  )else(
  some (r12.2.1,r12.2.2.1,r12.2.2.2.1,r12.2.2.2.2.1,r12.2.2.2.2.2)
  )
  )else(
  some (0,l8,i7,l9,w6)
  )
abbrev f71az0 (r12:Tq2) (C70002:YC):aG:=[(1,.cells 30 [vL 1 eW 0#16 r12.2.2.1]),(2,.cells 30 [.nils]),(3,.cells 31 [.int .i64 r12.2.2.2.1]),(5,.cells 30 [.own 6000]),(6000,bL 49 1 eW 0#16 r12.2.2.2.2.1),(6001,.cells 49 [.b16 r12.2.2.2.2.2]),(70002,.yld (some ([1,2,3,5],C70002)) r12.2.1)]
def f71a (Y70002:Tq1→(BitVec 16)→Option (Nat×Tq1)) (x1:List (BitVec 16)) (x2:Int) (x3:List (BitVec 16)) (x4:BitVec 16):Option (Nat×List (BitVec 16)×Int×List (BitVec 16)×BitVec 16):=
 dS Y70002 bG (0,x4,x2,x1,x3,0)
theorem f71a_ok (C70002:YC) (Y70002:Tq1→(BitVec 16)→Option (Nat×Tq1)) (x1:List (BitVec 16)) (x2:Int) (x3:List (BitVec 16)) (x4:BitVec 16) (r:Nat×List (BitVec 16)×Int×List (BitVec 16)×BitVec 16) (h:f71a Y70002 x1 x2 x3 x4=some r) (hY70002:∀s x r,Y70002 s x=some r→dG Tryd.prog 70002 [1,2,3,5] C70002 [1,2,3,5,6001] [(1,.cells 30 [vL 1 eW 0#16 s.1]),(2,.cells 30 [.nils]),(3,.cells 31 [.int .i64 s.2.1]),(5,.cells 30 [.own 6000]),(6000,bL 49 1 eW 0#16 s.2.2.1),(6001,.cells 49 [.b16 s.2.2.2])] [.b16 x] r.1 [(1,.cells 30 [vL 1 eW 0#16 r.2.1]),(2,.cells 30 [.nils]),(3,.cells 31 [.int .i64 r.2.2.1]),(5,.cells 30 [.own 6000]),(6000,bL 49 1 eW 0#16 r.2.2.2.1),(6001,.cells 49 [.b16 r.2.2.2.2])]):aF Tryd.prog 71 [(0,.elem 32 1 T0F 0 0)] [70002,1,2,3,5,6001] [(70002,.yld (some ([1,2,3,5],C70002)) 0),(1,.cells 30 [vL 1 eW 0#16 x1]),(2,.cells 30 [.nils]),(3,.cells 31 [.int .i64 x2]),(5,.cells 30 [.own 6000]),(6000,bL 49 1 eW 0#16 x3),(6001,.cells 49 [.b16 x4])] [.own 70002,.ptr 6001 0] (.tup []) [(70002,.yld (some ([1,2,3,5],C70002)) r.1),(1,.cells 30 [vL 1 eW 0#16 r.2.1]),(2,.cells 30 [.nils]),(3,.cells 31 [.int .i64 r.2.2.1]),(5,.cells 30 [.own 6000]),(6000,bL 49 1 eW 0#16 r.2.2.2.1),(6001,.cells 49 [.b16 r.2.2.2.2])]:=by
 unfold f71a at h;refine aF.body 10000 _ _ Tryd.func71 rfl Tryd.ntmps71 rfl rfl ?_;refine aM [] [] ⟨16,[(0,.own 70002),(1,.ptr 6001 0),(3,.i (0:Int)),(1000000,.elem 32 1 T0F 0 0)],[(1,.cells 30 [aZ x1]),(2,.cells 30 [.nils]),(3,.cells 31 [.i x2]),(5,.cells 30 [.own 6000]),(6000,aA x3),(6001,.cells 49 [.b16 x4]),(70002,.yld (some ([1,2,3,5],C70002)) 0)],[70002,1,2,3,5,6001],10000⟩ trivial ?_;refine AWp.block ?_;refine AWp.loopL (α:=Nat×(Nat×BitVec 16×Int×List (BitVec 16)×List (BitVec 16)×Nat)) (fun x=>match x with|(_,n5,w6,i7,l8,l9,n10)=>⟨16,[(0,.own 70002),(1,.ptr 6001 0),(3,.i (n5:Int)),(1000000,.elem 32 1 T0F 0 0)],[(1,.cells 30 [aZ l8]),(2,.cells 30 [.nils]),(3,.cells 31 [.i i7]),(5,.cells 30 [.own 6000]),(6000,aA l9),(6001,.cells 49 [.b16 w6]),(70002,.yld (some ([1,2,3,5],C70002)) n10)],[70002,1,2,3,5,6001],10000⟩) (fun x=>dS Y70002 x.1 x.2=some r) (fun x=>x.1) (bG,0,x4,x2,x1,x3,0) (Le.mk (s':=⟨16,[(0,.own 70002),(1,.ptr 6001 0),(3,.i (0:Int)),(1000000,.elem 32 1 T0F 0 0)],[(1,.cells 30 [aZ x1]),(2,.cells 30 [.nils]),(3,.cells 31 [.i x2]),(5,.cells 30 [.own 6000]),(6000,aA x3),(6001,.cells 49 [.b16 x4]),(70002,.yld (some ([1,2,3,5],C70002)) 0)],[70002,1,2,3,5,6001],10000⟩) rfl rfl ⟨.refl _,.refl _,.refl _,.refl _,trivial⟩ ⟨⟨_,rfl,.refl _⟩,⟨_,rfl,.refl _⟩,⟨_,rfl,.refl _⟩,⟨_,rfl,.refl _⟩,⟨_,rfl,.refl _⟩,⟨_,rfl,.refl _⟩,⟨_,rfl,.refl _⟩,trivial⟩) h ?_
 rintro⟨k0,n5,w6,i7,l8,l9,n10⟩ h
 cases k0 with
 |zero=>exact nomatch (show(none:Option (Nat×List (BitVec 16)×Int×List (BitVec 16)×BitVec 16))=some r from h)
 |succ k0=>
 obtain⟨C0,hC0⟩:∃C,C=dS Y70002 k0:=⟨_,rfl⟩;replace h:=(dS.eq_2 ..).symm.trans h
 try rw[←hC0]at h
 refine AWp.seq (AWp.seq ?_);obtain⟨hz1,h⟩:=aB h;refine AWp.le (Le.mk (s':=⟨16,[(0,.own 70002),(1,.ptr 6001 0),(3,.i (n5:Int)),(1000000,.elem 32 1 T0F 0 0)],[(1,.cells 30 [aZ l8]),(2,.cells 30 [.nils]),(3,.cells 31 [.i i7]),(5,.cells 30 [.own 6000]),(6000,aA l9),(6001,.cells 49 [.b16 w6]),(70002,.yld (some ([1,2,3,5],C70002)) 0)],[70002,1,2,3,5,6001],10000⟩) rfl rfl ⟨.refl _,.refl _,.refl _,.refl _,trivial⟩ ⟨⟨_,rfl,.refl _⟩,⟨_,rfl,.refl _⟩,⟨_,rfl,.refl _⟩,⟨_,rfl,.refl _⟩,⟨_,rfl,.refl _⟩,⟨_,rfl,.refl _⟩,⟨_,rfl,BLe.yldEq hz1⟩,trivial⟩) ?_;obtain⟨r11,hr11,h⟩:=bind_ok h;by_cases hg1_4:(decide ((n5:Int)≤r11))=true
 ·
  replace h:=fG hg1_4 h;obtain⟨r12,hr12,h⟩:=bind_ok h;have ob0:=idA (true=true);have ob1:=idA (true=true);have ob2:=idA (true=true);refine aR [] [(2,⟨[.b16 w6],[],[],[],.i r11,[],[],[]⟩),(4,⟨[],[],[],[],(.bool true),[],[0],[]⟩),(8,⟨[.b16 w6,.i (n5:Int),.own 70002],[70002,1,2,3,5,6000,6001],[70002,1,2,3,5,6001],[(70002,.yld (some ([1,2,3,5],C70002)) r12.2.1),(1,.cells 30 [aZ r12.2.2.1]),(2,.cells 30 [.nils]),(3,.cells 31 [.i r12.2.2.2.1]),(5,.cells 30 [.own 6000]),(6000,aA r12.2.2.2.2.1),(6001,.cells 49 [.b16 r12.2.2.2.2.2])],.bool r12.1,[6000],[],[0]⟩)] ⟨16,[(0,.own 70002),(1,.ptr 6001 0),(3,.i (n5:Int)),(13,.bool r12.1),(1000000,.elem 32 1 T0F 0 0)],(f71az0 r12 C70002),[70002,1,2,3,5,6001],10000⟩ (an4 (cpT (lG _ _ hr11)) (show((.bool (decide ((n5:Int)≤r11))):V)=(.bool true)from(congrArg (fun x=>((.bool x):V)) hg1_4)) (And.intro (cpT (f73a_ok C70002 _ _ _ _ _ _ _ _ hr12 hY70002)) (an3 ob0 ob1 ob2)) trivial) ?_;refine tN ?_;refine AWp.cond (b:=r12.1) (by kernel_rfl) (fun hc3=> ?_) (fun hc3=> ?_)
  ·
   replace h:=aK hc3 h;refine AWp.skip (tN (AWp.seq (AWp.block (AWp.skip (kN (tN ?_))))));obtain⟨ob4p,h⟩:=aB h;have ob4: -9223372036854775808≤((n5:Int)+(1:Int))∧((n5:Int)+(1:Int))≤9223372036854775807:=⟨by omega,ob4p⟩;refine aR [] [] ⟨16,[(0,.own 70002),(1,.ptr 6001 0),(3,.i (((n5+1):Nat):Int)),(1000000,.elem 32 1 T0F 0 0)],(f71az0 r12 C70002),[70002,1,2,3,5,6001],10000⟩ (an1 ob4) ?_;rw[hC0]at h;exact lN (_,(n5+1),r12.2.2.2.2.2,r12.2.2.2.1,r12.2.2.1,r12.2.2.2.2.1,r12.2.1) (Le.mk rfl rfl ⟨.refl _,.refl _,.refl _,.refl _,trivial⟩ ⟨⟨_,rfl,.refl _⟩,⟨_,rfl,.refl _⟩,⟨_,rfl,.refl _⟩,⟨_,rfl,.refl _⟩,⟨_,rfl,.refl _⟩,⟨_,rfl,.refl _⟩,⟨_,rfl,.refl _⟩,trivial⟩) h (Nat.lt_succ_self _)
  ·
   replace h:=aL hc3 h;refine AWp.exit (tE (tE (kS ?_)));have hret:=Option.some.inj h;subst hret;exact fU (Le.mk (s':=⟨16,[],[(70002,.yld (some ([1,2,3,5],C70002)) r12.2.1),(1,.cells 30 [aZ r12.2.2.1]),(2,.cells 30 [.nils]),(3,.cells 31 [.i r12.2.2.2.1]),(5,.cells 30 [.own 6000]),(6000,aA r12.2.2.2.2.1),(6001,.cells 49 [.b16 r12.2.2.2.2.2])],[70002,1,2,3,5,6001],10000⟩) rfl rfl trivial ⟨⟨_,rfl,.refl _⟩,⟨_,rfl,.refl _⟩,⟨_,rfl,.refl _⟩,⟨_,rfl,.refl _⟩,⟨_,rfl,.refl _⟩,⟨_,rfl,.refl _⟩,⟨_,rfl,.refl _⟩,trivial⟩) (cR _ rfl ⟨rfl,rfl⟩ rfl)
 ·
  replace h:=fH hg1_4 h;have ob0:=idA (false=true);have ob1:=idA (false=true);have ob2:=idA (false=true);have ob3:true=true→false=true→false=true:=fun _ h=>h;refine aR [] [(2,⟨[.b16 w6],[],[],[],.i r11,[],[],[]⟩),(4,⟨[],[],[],[],(.bool false),[],[0],[]⟩),(8,⟨[],[],[],[],.bool false,[],[],[]⟩)] ⟨16,[(0,.own 70002),(1,.ptr 6001 0),(3,.i (n5:Int)),(13,.bool false),(1000000,.elem 32 1 T0F 0 0)],[(1,.cells 30 [aZ l8]),(2,.cells 30 [.nils]),(3,.cells 31 [.i i7]),(5,.cells 30 [.own 6000]),(6000,aA l9),(6001,.cells 49 [.b16 w6]),(70002,.yld (some ([1,2,3,5],C70002)) 0)],[70002,1,2,3,5,6001],10000⟩ (an4 (cpT (lG _ _ hr11)) (show((.bool (decide ((n5:Int)≤r11))):V)=(.bool false)from(congrArg (fun x=>((.bool x):V)) (Bool.eq_false_iff.2 hg1_4))) (And.intro (show(jY Tryd.prog false 73 [] [] [] [] [] [.b16 w6,.i (n5:Int),.own 70002] [] (.bool false) [])from⟨nofun,nofun,.inl rfl⟩) (an3 ob0 ob1 ob2)) ob3) ?_;refine tN ?_;refine AWp.cond (b:=false) (by kernel_rfl) (fun hc=> ?_) (fun hc=> ?_)
  ·
   cases hc
  ·
   clear hc;refine AWp.exit (tE (tE (kS ?_)));have hret:=Option.some.inj h;subst hret;exact fU (Le.mk (s':=⟨16,[],[(70002,.yld (some ([1,2,3,5],C70002)) 0),(1,.cells 30 [aZ l8]),(2,.cells 30 [.nils]),(3,.cells 31 [.i i7]),(5,.cells 30 [.own 6000]),(6000,aA l9),(6001,.cells 49 [.b16 w6])],[70002,1,2,3,5,6001],10000⟩) rfl rfl trivial ⟨⟨_,rfl,.refl _⟩,⟨_,rfl,.refl _⟩,⟨_,rfl,.refl _⟩,⟨_,rfl,.refl _⟩,⟨_,rfl,.refl _⟩,⟨_,rfl,.refl _⟩,⟨_,rfl,.refl _⟩,trivial⟩) (cR _ rfl ⟨rfl,rfl⟩ rfl)
def fO :Tq1→(BitVec 16)→Option (Nat×Tq1)
 |(l7,i6,l8,w5),x9=>
  (f31 l8 x9).bind fun(r10:Bool)=>
  rI ((!r10)==true) (f44 l7 x9) fun(r11:Bool)=>
  if((!r10)&&r11)then(
  chk (((l8).length+1) *2≤140737488355328)<|
  if(decide (((((l8++[x9])).length:Nat):Int)>(400:Int)))then(
  some (2,(l7,(3:Int),(l8++[x9]),w5))
  )else(
  some (0,(l7,i6,(l8++[x9]),w5))
  )
  )else(
  some (0,(l7,i6,l8,w5))
  )
abbrev f12z0 (l7:List (BitVec 16)) (i6:Int) (l8:List (BitVec 16)) (w5:BitVec 16):aG:=[(1,.cells 30 [vL 1 eW 0#16 l7]),(2,.cells 30 [.nils]),(3,.cells 31 [.int .i64 i6]),(5,.cells 30 [.own 6000]),(6000,bL 49 1 eW 0#16 l8),(6001,.cells 49 [.b16 w5])]
abbrev f12z1 (r12:Nat×List (BitVec 16)×Int×List (BitVec 16)×BitVec 16):aG:=[(1,.cells 30 [vL 1 eW 0#16 r12.2.1]),(2,.cells 30 [.nils]),(3,.cells 31 [.int .i64 r12.2.2.1]),(5,.cells 30 [.own 6000]),(6000,bL 49 1 eW 0#16 r12.2.2.2.1),(6001,.cells 49 [.b16 r12.2.2.2.2])]
abbrev f12z2 (l7:List (BitVec 16)) (i6:Int) (l8:List (BitVec 16)) (x9 w5:BitVec 16):aG:=[(1,.cells 30 [vL 1 eW 0#16 l7]),(2,.cells 30 [.nils]),(3,.cells 31 [.int .i64 i6]),(5,.cells 30 [.own 6000]),(6000,bL 49 1 eW 0#16 (l8++[x9])),(6001,.cells 49 [.b16 w5])]
abbrev qV :List V:=[.int .i64 (0:Int)]
abbrev f12z4 (x1:List (BitVec 16)):aG:=[(1,.cells 30 [vL 1 eW 0#16 x1]),(2,.cells 30 [.nils]),(3,.cells 31 (qV))]
def f12 (x1:List (BitVec 16)):Option (Int×List (BitVec 16)):=
 (f42 x1).bind fun(r2:Int)=>
 if(r2 !=(0:Int))then(
 some (r2,[])
 )else(
 (f43 x1).bind fun(r3:BitVec 16)=>
 (f28 r3).bind fun(r4:BitVec 16)=>
 (f71a fO x1 (0:Int) [] r4).bind fun(r12:Nat×List (BitVec 16)×Int×List (BitVec 16)×BitVec 16)=>
 chk (r12.1≠1)<|
 if r12.1=0 then(
 some ((0:Int),r12.2.2.2.1)
 )else(
 if r12.1=2 then(
 some (r12.2.2.1,[])
 )else(
 none
 )
 )
 )
theorem f12_ok (x1:List (BitVec 16)) (r:Int×List (BitVec 16)) (h:f12 x1=some r):aF Tryd.prog 12 [(0,.elem 32 1 T0F 0 0)] [] [] [vL 1 eW 0#16 x1] (.tup [.own 3000,.int .i64 r.1]) [(3000,bL 49 1 eW 0#16 r.2)]:=by
 unfold f12 at h;refine aF.bodyD [2,3] 0 _ _ Tryd.func12 rfl Tryd.ntmps12 rfl rfl ?_;refine aM [] [] ⟨33,[(1,.ptr 1 0),(2,.ptr 2 0),(3,.ptr 3 0),(1000000,.elem 32 1 T0F 0 0)],(f12z4 x1),[],0⟩ trivial ?_;refine AWp.seq (AWp.seq ?_);obtain⟨r2,hr2,h⟩:=bind_ok h;refine aR [] [(1,⟨[aZ x1],[],[],[],.i r2,[],[],[]⟩)] ⟨33,[(1,.ptr 1 0),(2,.ptr 2 0),(3,.ptr 3 0),(4,.i r2),(1000000,.elem 32 1 T0F 0 0)],(f12z4 x1),[],0⟩ (an1 (cpT (f42_ok _ _ hr2))) ?_;refine tN ?_;refine aM [] [] ⟨33,[(1,.ptr 1 0),(2,.ptr 2 0),(3,.ptr 3 0),(4,.i r2),(10,.bool (r2 !=(0:Int))),(1000000,.elem 32 1 T0F 0 0)],(f12z4 x1),[],0⟩ trivial ?_;refine AWp.cond (b:=(r2 !=(0:Int))) (by kernel_rfl) (fun hc1=> ?_) (fun hc1=> ?_)
 ·
  replace h:=aK hc1 h;refine aM [] [] ⟨33,[(2,.ptr 2 0),(3,.ptr 3 0),(1000000,.elem 32 1 T0F 0 0)],[(2,.cells 30 [.nils]),(3,.cells 31 [.i r2])],[],0⟩ (an2 trivial trivial) ?_;refine AWp.le (Le.trans (Le.nilOwnC 2 0 3000 49 1 (cM eW 0#16 []) rfl rfl rfl) (Le.mk (s':=⟨33,[(2,.ptr 2 0),(3,.ptr 3 0),(1000000,.elem 32 1 T0F 0 0)],[(2,.cells 30 [.own 3000]),(3,.cells 31 [.i r2]),(3000,aA [])],[],0⟩) rfl rfl ⟨.refl _,.refl _,.refl _,trivial⟩ ⟨⟨_,rfl,.refl _⟩,⟨_,rfl,.refl _⟩,⟨_,rfl,.refl _⟩,trivial⟩)) ?_;have hret:=Option.some.inj h;subst hret;refine AWp.le (Le.mk (s':=⟨33,[(2,.ptr 2 0),(3,.ptr 3 0)],[(3000,aA []),(2,.cells 30 [.own 3000]),(3,.cells 31 [.i r2])],[],0⟩) rfl rfl ⟨.refl _,.refl _,trivial⟩ ⟨⟨_,rfl,.refl _⟩,⟨_,rfl,.refl _⟩,⟨_,rfl,.refl _⟩,trivial⟩) ?_;refine AWp.ret (tR ?_);exact bR _ rfl ⟨rfl,rfl⟩ rfl
 ·
  replace h:=aL hc1 h;refine AWp.skip (tN ?_);refine aM [] [] ⟨33,[(1,.ptr 1 0),(2,.ptr 2 0),(3,.ptr 3 0),(5,.ptr 5 0),(1000000,.elem 32 1 T0F 0 0)],[(1,.cells 30 [aZ x1]),(2,.cells 30 [.nils]),(3,.cells 31 (qV)),(5,.cells 30 [.nils])],[],0⟩ trivial ?_;refine AWp.seq (AWp.seq ?_);obtain⟨r3,hr3,h⟩:=bind_ok h;obtain⟨r4,hr4,h⟩:=bind_ok h;refine aR [] [(1,⟨[aZ x1],[],[],[],.b16 r3,[],[],[]⟩),(2,⟨[.b16 r3],[],[],[(6001,.cells 49 [.b16 r4])],.fn (.func 71) [.ptr 6001 0],[6001],[],[]⟩)] ⟨33,[(1,.ptr 1 0),(2,.ptr 2 0),(3,.ptr 3 0),(5,.ptr 5 0),(14,.fn (.func 71) [.ptr 6001 0]),(1000000,.elem 32 1 T0F 0 0)],[(1,.cells 30 [aZ x1]),(2,.cells 30 [.nils]),(3,.cells 31 (qV)),(5,.cells 30 [.nils]),(6001,.cells 49 [.b16 r4])],[],0⟩ (an2 (cpT (f43_ok _ _ hr3)) (cpT (aF.ren (aW 3500 6001) (aE 3500 6001) rfl (f28_ok _ _ hr4)))) ?_;refine tN (AWp.block ?_);refine AWp.le (Le.trans (Le.trans (Le.nilOwnC 5 0 6000 49 1 (cM eW 0#16 []) rfl rfl rfl) (Le.mk (s':=⟨33,[(1,.ptr 1 0),(2,.ptr 2 0),(3,.ptr 3 0),(5,.ptr 5 0),(14,.fn (.func 71) [.ptr 6001 0]),(1000000,.elem 32 1 T0F 0 0)],[(1,.cells 30 [aZ x1]),(2,.cells 30 [.nils]),(3,.cells 31 (qV)),(5,.cells 30 [.own 6000]),(6001,.cells 49 [.b16 r4]),(6000,aA [])],[],0⟩) rfl rfl ⟨.refl _,.refl _,.refl _,.refl _,.refl _,.refl _,trivial⟩ ⟨⟨_,rfl,.refl _⟩,⟨_,rfl,.refl _⟩,⟨_,rfl,.refl _⟩,⟨_,rfl,.refl _⟩,⟨_,rfl,.refl _⟩,⟨_,rfl,.refl _⟩,trivial⟩)) (Le.mk (s':=⟨33,[(1,.ptr 1 0),(2,.ptr 2 0),(3,.ptr 3 0),(5,.ptr 5 0),(14,.fn (.func 71) [.ptr 6001 0]),(1000000,.elem 32 1 T0F 0 0)],[(1,.cells 30 [aZ x1]),(2,.cells 30 [.nils]),(3,.cells 31 (qV)),(5,.cells 30 [.own 6000]),(6000,aA []),(6001,.cells 49 [.b16 r4])],[],0⟩) rfl rfl ⟨.refl _,.refl _,.refl _,.refl _,.refl _,.refl _,trivial⟩ ⟨⟨_,rfl,.refl _⟩,⟨_,rfl,.refl _⟩,⟨_,rfl,.refl _⟩,⟨_,rfl,.refl _⟩,⟨_,rfl,.refl _⟩,⟨_,rfl,.refl _⟩,trivial⟩)) ?_;obtain⟨r12,hr12,h⟩:=bind_ok h;obtain⟨hkr12,h⟩:=aB h;refine AWp.rangeFunc (s:=⟨33,[(1,.ptr 1 0),(2,.ptr 2 0),(3,.ptr 3 0),(5,.ptr 5 0),(14,.fn (.func 71) [.ptr 6001 0]),(1000000,.elem 32 1 T0F 0 0)],[(1,.cells 30 [aZ x1]),(2,.cells 30 [.nils]),(3,.cells 31 (qV)),(5,.cells 30 [.own 6000]),(6000,aA []),(6001,.cells 49 [.b16 r4])],[],0⟩) 70002 [1,2,3,5] [1,2,3,5,1000000] [.ret] 71 [.ptr 6001 0] ⟨[.own 70002,.ptr 6001 0],[1,2,3,5,6000,6001],[70002,1,2,3,5,6001],[],.tup [],[6000],[],[0]⟩ r12.1 (f12z1 r12) ⟨33,[(1,.ptr 1 0),(2,.ptr 2 0),(3,.ptr 3 0),(5,.ptr 5 0),(14,.fn (.func 71) [.ptr 6001 0]),(1000000,.elem 32 1 T0F 0 0)],(f12z1 r12),[],0⟩ rfl (by kernel_rfl) (by kernel_rfl) (fun g0=> ?_) (fun C=>(by kernel_rfl)) (by kernel_rfl) (by kernel_rfl) (by kernel_rfl) (by kernel_rfl) hkr12 (by kernel_rfl) ?_ ?_
  ·
   refine⟨fun _=>(f71a_ok _ fO x1 (0:Int) [] r4 r12 hr12 ?_),fun _=>⟨.refl _,.refl _,trivial⟩,.inl rfl⟩;clear h;rintro⟨l7,i6,l8,w5⟩ x9 rY70002 h;replace h:=(fO.eq_1 ..).symm.trans h;refine dG.body 0 rfl (of_decide_eq_true (by kernel_rfl)) (of_decide_eq_true (by kernel_rfl)) (eG (by kernel_rfl)) (by kernel_rfl) (by kernel_rfl) (by kernel_rfl) (by kernel_rfl) ?_;refine AWp.le (Le.mk (s':=⟨33,[(15,.b16 x9),(1,.ptr 1 0),(2,.ptr 2 0),(3,.ptr 3 0),(5,.ptr 5 0),(1000000,.elem 32 1 T0F 0 0)],(f12z0 l7 i6 l8 w5),[1,2,3,5,6001],0⟩) rfl rfl ⟨.refl _,.refl _,.refl _,.refl _,.refl _,.refl _,trivial⟩ ⟨⟨_,rfl,.refl _⟩,⟨_,rfl,.refl _⟩,⟨_,rfl,.refl _⟩,⟨_,rfl,.refl _⟩,⟨_,rfl,.refl _⟩,⟨_,rfl,.refl _⟩,trivial⟩) ?_;refine aR [] [] ⟨33,[(1,.ptr 1 0),(2,.ptr 2 0),(3,.ptr 3 0),(5,.ptr 5 0),(6,.b16 x9),(1000000,.elem 32 1 T0F 0 0)],(f12z0 l7 i6 l8 w5),[1,2,3,5,6001],0⟩ trivial ?_;refine⟨rfl,rfl, ?_⟩;refine AWp.block (AWp.seq ?_);obtain⟨r10,hr10,h⟩:=bind_ok h;obtain⟨r11,hr11,h⟩:=cP h;have ob0:=idA (((!r10)==true)=true);have ob1:=idA (((!r10)==true)=true);have ob2:=bqA (!r10) true;refine aR [] [(2,⟨[aZ l8,.b16 x9],[],[],[],.bool r10,[],[6000],[]⟩),(7,⟨[aZ l7,.b16 x9],[],[],[],.bool r11,[],[],[]⟩)] ⟨33,[(2,.ptr 2 0),(3,.ptr 3 0),(5,.ptr 5 0),(6,.b16 x9),(24,.bool ((!r10)&&r11)),(1000000,.elem 32 1 T0F 0 0)],(f12z0 l7 i6 l8 w5),[1,2,3,5,6001],0⟩ (an3 (cpL (c:=true) [(6000,aA l8)] [6000] [.own 6000,.b16 x9] (fun _=>(tX _ _ _ hr10)) (fun _=>⟨.refl _,.refl _,trivial⟩) (.inr ⟨rfl,trivial⟩)) (And.intro (cpC fun hc=>(f44_ok _ _ _ (hr11 hc))) (an2 ob0 ob1)) ob2) ?_;refine tN ?_;refine AWp.cond (b:=((!r10)&&r11)) (by kernel_rfl) (fun hc2=> ?_) (fun hc2=> ?_)
   ·
    replace h:=aK hc2 h;refine AWp.seq ?_;obtain⟨ob3,h⟩:=aB h;refine aR [] [] ⟨33,[(2,.ptr 2 0),(3,.ptr 3 0),(5,.ptr 5 0),(1000000,.elem 32 1 T0F 0 0)],[(1,.cells 30 [aZ l7]),(2,.cells 30 [.nils]),(3,.cells 31 [.i i6]),(5,.cells 30 [.own 6000]),(6000,.rows 49 1 ((l8).length+1) (kB (l8).length (cM eW 0#16 l8) (fZ 1 [.b16 x9]))),(6001,.cells 49 [.b16 w5])],[1,2,3,5,6001],0⟩ (an2 ob3 trivial) ?_;refine tN ?_;refine AWp.le (Le.mk (s':=⟨33,[(2,.ptr 2 0),(3,.ptr 3 0),(5,.ptr 5 0),(1000000,.elem 32 1 T0F 0 0)],(f12z2 l7 i6 l8 x9 w5),[1,2,3,5,6001],0⟩) rfl rfl ⟨.refl _,.refl _,.refl _,.refl _,trivial⟩ ⟨⟨_,rfl,.refl _⟩,⟨_,rfl,.refl _⟩,⟨_,rfl,.refl _⟩,⟨_,rfl,.refl _⟩,⟨_,rfl,(BLe.of (RL.app (RL.self _) (RL.lst (enc:=eW) [x9] rfl rfl (fun _=>rfl))))⟩,⟨_,rfl,.refl _⟩,trivial⟩) ?_;refine aM [] [] ⟨33,[(2,.ptr 2 0),(3,.ptr 3 0),(31,.bool (decide (((((l8++[x9])).length:Nat):Int)>(400:Int)))),(1000000,.elem 32 1 T0F 0 0)],(f12z2 l7 i6 l8 x9 w5),[1,2,3,5,6001],0⟩ trivial ?_;refine AWp.cond (b:=(decide (((((l8++[x9])).length:Nat):Int)>(400:Int)))) (by kernel_rfl) (fun hc3=> ?_) (fun hc3=> ?_)
    ·
     replace h:=aK hc3 h;refine aM [] [] ⟨33,[(1000000,.elem 32 1 T0F 0 0)],[(1,.cells 30 [aZ l7]),(2,.cells 30 [.nils]),(3,.cells 31 [.i (3:Int)]),(5,.cells 30 [.own 6000]),(6000,aA (l8++[x9])),(6001,.cells 49 [.b16 w5])],[1,2,3,5,6001],0⟩ (an2 trivial trivial) ?_;refine AWp.ret (kR ?_);have hret:=Option.some.inj h;subst hret;exact⟨_,(Le.mk (s':=⟨33,[],[(1,.cells 30 [aZ l7]),(2,.cells 30 [.nils]),(3,.cells 31 [.i (3:Int)]),(5,.cells 30 [.own 6000]),(6000,aA (l8++[x9])),(6001,.cells 49 [.b16 w5])],[1,2,3,5,6001],0⟩) rfl rfl trivial ⟨⟨_,rfl,.refl _⟩,⟨_,rfl,.refl _⟩,⟨_,rfl,.refl _⟩,⟨_,rfl,.refl _⟩,⟨_,rfl,.refl _⟩,⟨_,rfl,.refl _⟩,trivial⟩),rfl,rfl,.inr ⟨0,_,rfl,rfl,.inl ⟨rfl,rfl⟩⟩⟩
    ·
     replace h:=aL hc3 h;refine AWp.skip (kN ?_);have hret:=Option.some.inj h;subst hret;exact⟨_,(Le.mk (s':=⟨33,[],(f12z2 l7 i6 l8 x9 w5),[1,2,3,5,6001],0⟩) rfl rfl trivial ⟨⟨_,rfl,.refl _⟩,⟨_,rfl,.refl _⟩,⟨_,rfl,.refl _⟩,⟨_,rfl,.refl _⟩,⟨_,rfl,.refl _⟩,⟨_,rfl,.refl _⟩,trivial⟩),rfl,rfl,.inl ⟨rfl,rfl⟩⟩
   ·
    replace h:=aL hc2 h;refine AWp.skip (kN ?_);have hret:=Option.some.inj h;subst hret;exact⟨_,(Le.mk (s':=⟨33,[],(f12z0 l7 i6 l8 w5),[1,2,3,5,6001],0⟩) rfl rfl trivial ⟨⟨_,rfl,.refl _⟩,⟨_,rfl,.refl _⟩,⟨_,rfl,.refl _⟩,⟨_,rfl,.refl _⟩,⟨_,rfl,.refl _⟩,⟨_,rfl,.refl _⟩,trivial⟩),rfl,rfl,.inl ⟨rfl,rfl⟩⟩
  ·
   intro hk0;replace h:=fG hk0 h;refine kN (tN ?_);refine aM [] [] ⟨33,[(2,.ptr 2 0),(3,.ptr 3 0),(1000000,.elem 32 1 T0F 0 0)],[(2,.cells 30 [.own 6000]),(3,.cells 31 (qV)),(6000,aA r12.2.2.2.1)],[],0⟩ (an2 trivial trivial) ?_;refine AWp.le (Le.trans (Le.ren (aW 6000 3000) (aE 6000 3000) rfl) (Le.mk (s':=⟨33,[(2,.ptr 2 0),(3,.ptr 3 0),(1000000,.elem 32 1 T0F 0 0)],[(2,.cells 30 [.own 3000]),(3,.cells 31 (qV)),(3000,aA r12.2.2.2.1)],[],0⟩) rfl rfl ⟨.refl _,.refl _,.refl _,trivial⟩ ⟨⟨_,rfl,.refl _⟩,⟨_,rfl,.refl _⟩,⟨_,rfl,.refl _⟩,trivial⟩)) ?_;have hret:=Option.some.inj h;subst hret;refine AWp.le (Le.mk (s':=⟨33,[(2,.ptr 2 0),(3,.ptr 3 0)],[(3000,aA r12.2.2.2.1),(2,.cells 30 [.own 3000]),(3,.cells 31 (qV))],[],0⟩) rfl rfl ⟨.refl _,.refl _,trivial⟩ ⟨⟨_,rfl,.refl _⟩,⟨_,rfl,.refl _⟩,⟨_,rfl,.refl _⟩,trivial⟩) ?_;refine AWp.ret ?_;exact bR _ rfl ⟨rfl,rfl⟩ rfl
  ·
   intro j hkj;replace h:=fH (by omega) h
   cases j with
   |zero=>
    replace h:=fG (by omega) h;refine⟨_,rfl, ?_⟩;refine AWp.le (Le.trans (Le.nilOwnC 2 0 3000 49 1 (cM eW 0#16 []) rfl rfl rfl) (Le.mk (s':=⟨33,[(1,.ptr 1 0),(2,.ptr 2 0),(3,.ptr 3 0),(5,.ptr 5 0),(14,.fn (.func 71) [.ptr 6001 0]),(1000000,.elem 32 1 T0F 0 0)],[(1,.cells 30 [aZ r12.2.1]),(2,.cells 30 [.own 3000]),(3,.cells 31 [.i r12.2.2.1]),(5,.cells 30 [.own 6000]),(6000,aA r12.2.2.2.1),(6001,.cells 49 [.b16 r12.2.2.2.2]),(3000,aA [])],[],0⟩) rfl rfl ⟨.refl _,.refl _,.refl _,.refl _,.refl _,.refl _,trivial⟩ ⟨⟨_,rfl,.refl _⟩,⟨_,rfl,.refl _⟩,⟨_,rfl,.refl _⟩,⟨_,rfl,.refl _⟩,⟨_,rfl,.refl _⟩,⟨_,rfl,.refl _⟩,⟨_,rfl,.refl _⟩,trivial⟩)) ?_;have hret:=Option.some.inj h;subst hret;refine AWp.le (Le.mk (s':=⟨33,[(2,.ptr 2 0),(3,.ptr 3 0)],[(3000,aA []),(2,.cells 30 [.own 3000]),(3,.cells 31 [.i r12.2.2.1])],[],0⟩) rfl rfl ⟨.refl _,.refl _,trivial⟩ ⟨⟨_,rfl,.refl _⟩,⟨_,rfl,.refl _⟩,⟨_,rfl,.refl _⟩,trivial⟩) ?_;refine AWp.ret (kR (tR ?_))
    exact bR _ rfl ⟨rfl,rfl⟩ rfl
   |succ j=>
   replace h:=fH (by omega) h;exact nomatch (show(none:Option (Int×List (BitVec 16)))=some r from h)
def f38  :Option (Ty7×Ty8):=
 some ([],[])
theorem f38_ok (r:Ty7×Ty8) (h:f38=some r):aF Tryd.prog 38 [] [] [] [] (.ptr 3500 0) [(3000,bL 88 3 cK (default:Tq0) r.1),(3001,bP aS (default:Tq0) cT 0 r.2),(3500,.cells 119 [.own 3000,.own 3001])]:=by
 unfold f38 at h;refine aF.body 0 _ _ Tryd.func38 rfl Tryd.ntmps38 rfl rfl ?_;refine aM [] [] ⟨4,[],[],[],0⟩ trivial ?_;refine aM [] [(0,⟨[],[],[],[(1,bP aS aP cT 0 [])],.own 1,[1],[],[]⟩)] ⟨4,[(0,.ptr 3 0)],[(1,bP aS aP cT 0 []),(3,.cells 119 [.nils,.own 1])],[],0⟩ (an1 (And.intro (kH (P:=Tryd.prog) aS aP cT 0 117 1 117) (eQ.same []))) ?_;refine AWp.le (Le.trans (Le.nilOwnC 3 0 5800 88 3 (cM cK aP []) rfl rfl rfl) (Le.mk (s':=⟨4,[(0,.ptr 3 0)],[(1,bP aS aP cT 0 []),(3,.cells 119 [.own 5800,.own 1]),(5800,aN [])],[],0⟩) rfl rfl ⟨.refl _,trivial⟩ ⟨⟨_,rfl,.refl _⟩,⟨_,rfl,.refl _⟩,⟨_,rfl,.refl _⟩,trivial⟩)) ?_;refine AWp.le (Le.trans (Le.ren (aW 3 3500) (aE 3 3500) rfl) (Le.mk (s':=⟨4,[(0,.ptr 3500 0)],[(1,bP aS aP cT 0 []),(3500,.cells 119 [.own 5800,.own 1]),(5800,aN [])],[],0⟩) rfl rfl ⟨.refl _,trivial⟩ ⟨⟨_,rfl,.refl _⟩,⟨_,rfl,.refl _⟩,⟨_,rfl,.refl _⟩,trivial⟩)) ?_;refine AWp.le (Le.trans (Le.ren (aW 5800 3000) (aE 5800 3000) rfl) (Le.mk (s':=⟨4,[(0,.ptr 3500 0)],[(1,bP aS aP cT 0 []),(3500,.cells 119 [.own 3000,.own 1]),(3000,aN [])],[],0⟩) rfl rfl ⟨.refl _,trivial⟩ ⟨⟨_,rfl,.refl _⟩,⟨_,rfl,.refl _⟩,⟨_,rfl,.refl _⟩,trivial⟩)) ?_;refine AWp.le (Le.trans (Le.ren (aW 1 3001) (aE 1 3001) rfl) (Le.mk (s':=⟨4,[(0,.ptr 3500 0)],[(3001,bP aS aP cT 0 []),(3500,.cells 119 [.own 3000,.own 3001]),(3000,aN [])],[],0⟩) rfl rfl ⟨.refl _,trivial⟩ ⟨⟨_,rfl,.refl _⟩,⟨_,rfl,.refl _⟩,⟨_,rfl,.refl _⟩,trivial⟩)) ?_;have hret:=Option.some.inj h;subst hret;refine AWp.le (Le.mk (s':=⟨4,[(0,.ptr 3500 0)],[(3000,aN []),(3001,bP aS aP cT 0 []),(3500,.cells 119 [.own 3000,.own 3001])],[],0⟩) rfl rfl ⟨.refl _,trivial⟩ ⟨⟨_,rfl,.refl _⟩,⟨_,rfl,.refl _⟩,⟨_,rfl,.refl _⟩,trivial⟩) ?_;refine AWp.ret ?_;exact bR _ rfl ⟨rfl,rfl⟩ rfl
abbrev zO (x1:List Ty0) (x2:Int):List V:=[vL 5 bY (default:Int×Int×Int×List Int×List Int) x1,.int .i64 x2]
def f34 (x1:List Ty0) (x2:Int) (x3:BitVec 16):Option (Bool×Int):=
 (f27 x1 x2).bind fun(r4:Int)=>
 if(r4 !=(0:Int))then(
 some (false,r4)
 )else(
 if(decide (x3.toNat≥(BitVec.ofInt 16 4096).toNat))then(
 some (false,(7:Int))
 )else(
 (f30 x1 x2 x3).bind fun(r5:Bool)=>
 some (r5,(0:Int))
 )
 )
theorem f34_ok (x1:List Ty0) (x2:Int) (x3:BitVec 16) (r:Bool×Int) (h:f34 x1 x2 x3=some r):aF Tryd.prog 34 [] [] [] [.agg [vL 5 bY (default:Int×Int×Int×List Int×List Int) x1,.int .i64 x2],.b16 x3] (.tup [.bool r.1,.int .i64 r.2]) []:=by
 unfold f34 at h;refine aF.body 0 _ _ Tryd.func34 rfl Tryd.ntmps34 rfl rfl ?_;refine aM [] [] ⟨17,[(1,.b16 x3),(2,.ptr 2 0)],[(2,.cells 28 (zO x1 x2))],[],0⟩ trivial ?_;refine AWp.seq (AWp.seq ?_);obtain⟨r4,hr4,h⟩:=bind_ok h;refine aR [] [(1,⟨[.agg (zO x1 x2)],[],[],[],.i r4,[],[],[]⟩)] ⟨17,[(1,.b16 x3),(2,.ptr 2 0),(6,.i r4)],[(2,.cells 28 (zO x1 x2))],[],0⟩ (an1 (cpT (xT _ _ _ hr4))) ?_;refine tN ?_;refine aM [] [] ⟨17,[(1,.b16 x3),(2,.ptr 2 0),(6,.i r4),(10,.bool (r4 !=(0:Int)))],[(2,.cells 28 (zO x1 x2))],[],0⟩ trivial ?_;refine AWp.cond (b:=(r4 !=(0:Int))) (by kernel_rfl) (fun hc1=> ?_) (fun hc1=> ?_)
 ·
  replace h:=aK hc1 h;refine aM [] [] ⟨17,[(4,.bool false),(5,.i r4)],[],[],0⟩ trivial ?_;have hret:=Option.some.inj h;subst hret;refine AWp.le (Le.mk (s':=⟨17,[(4,.bool false),(5,.i r4)],[],[],0⟩) rfl rfl ⟨.refl _,.refl _,trivial⟩ trivial) ?_;refine AWp.ret (tR ?_);exact bR _ rfl ⟨rfl,rfl⟩ rfl
 ·
  replace h:=aL hc1 h;refine AWp.skip (tN (AWp.seq ?_));refine aM [] [] ⟨17,[(1,.b16 x3),(2,.ptr 2 0),(13,.bool (decide (x3.toNat≥(bD 4096).toNat)))],[(2,.cells 28 (zO x1 x2))],[],0⟩ trivial ?_;refine AWp.cond (b:=(decide (x3.toNat≥(bD 4096).toNat))) (by kernel_rfl) (fun hc2=> ?_) (fun hc2=> ?_)
  ·
   replace h:=aK hc2 h;refine aM [] [] ⟨17,[(4,.bool false),(5,.i (7:Int))],[],[],0⟩ trivial ?_;have hret:=Option.some.inj h;subst hret;refine AWp.le (Le.mk (s':=⟨17,[(4,.bool false),(5,.i (7:Int))],[],[],0⟩) rfl rfl ⟨.refl _,.refl _,trivial⟩ trivial) ?_;refine AWp.ret (tR ?_);exact bR _ rfl ⟨rfl,rfl⟩ rfl
  ·
   replace h:=aL hc2 h;refine AWp.skip (tN (AWp.seq ?_));obtain⟨r5,hr5,h⟩:=bind_ok h;refine aR [] [(2,⟨[.agg (zO x1 x2),.b16 x3],[],[],[],.bool r5,[],[],[]⟩)] ⟨17,[(4,.bool r5),(5,.i (0:Int))],[],[],0⟩ (an1 (cpT (f30_ok _ _ _ _ hr5))) ?_;refine tN ?_;have hret:=Option.some.inj h;subst hret;refine AWp.le (Le.mk (s':=⟨17,[(4,.bool r5),(5,.i (0:Int))],[],[],0⟩) rfl rfl ⟨.refl _,.refl _,trivial⟩ trivial) ?_;refine AWp.ret ?_;exact bR _ rfl ⟨rfl,rfl⟩ rfl
abbrev f33z0 (x2:List Ty0) (x3:Int):List V:=[vL 5 bY (default:Int×Int×Int×List Int×List Int) x2,.int .i64 x3]
def f33 (x1:BitVec 16) (x2:List Ty0) (x3:Int):Option Bool:=
 (f34 x2 x3 x1).bind fun(r4:Bool×Int)=>
 some r4.1
theorem f33_ok (x1:BitVec 16) (x2:List Ty0) (x3:Int) (r:Bool) (h:f33 x1 x2 x3=some r):aF Tryd.prog 33 [] [2000] [(2000,.cells 28 [vL 5 bY (default:Int×Int×Int×List Int×List Int) x2,.int .i64 x3])] [.b16 x1,.ptr 2000 0] (.bool r) [(2000,.cells 28 [vL 5 bY (default:Int×Int×Int×List Int×List Int) x2,.int .i64 x3])]:=by
 unfold f33 at h;refine aF.body 0 _ _ Tryd.func33 rfl Tryd.ntmps33 rfl rfl ?_;refine aM [] [] ⟨13,[(0,.b16 x1),(1,.ptr 2000 0)],[(2000,.cells 28 (f33z0 x2 x3))],[2000],0⟩ trivial ?_;refine AWp.seq ?_;obtain⟨r4,hr4,h⟩:=bind_ok h;refine aR [] [(2,⟨[.agg (f33z0 x2 x3),.b16 x1],[],[],[],.tup [.bool r4.1,.i r4.2],[],[],[]⟩)] ⟨13,[(4,.bool r4.1)],[(2000,.cells 28 (f33z0 x2 x3))],[2000],0⟩ (an1 (cpT (f34_ok _ _ _ _ hr4))) ?_;refine tN ?_;refine aM [] [] ⟨13,[(3,.bool r4.1)],[(2000,.cells 28 (f33z0 x2 x3))],[2000],0⟩ trivial ?_;have hret:=Option.some.inj h;subst hret;refine AWp.le (Le.mk (s':=⟨13,[(3,.bool r4.1)],[(2000,.cells 28 (f33z0 x2 x3))],[2000],0⟩) rfl rfl ⟨.refl _,trivial⟩ ⟨⟨_,rfl,.refl _⟩,trivial⟩) ?_;refine AWp.ret ?_;exact bR _ rfl ⟨rfl,rfl⟩ rfl
def f77 (x1:Bool):Option Int:=
 if x1 then(
 some (1:Int)
 )else(
 some (0:Int)
 )
theorem f77_ok (x1:Bool) (r:Int) (h:f77 x1=some r):aF Tryd.prog 77 [] [] [] [.bool x1] (.int .i64 r) []:=by
 unfold f77 at h;refine aF.body 0 _ _ Tryd.func77 rfl Tryd.ntmps77 rfl rfl ?_;refine aM [] [] ⟨4,[(0,.bool x1)],[],[],0⟩ trivial ?_;refine AWp.seq ?_;refine aM [] [] ⟨4,[(3,.bool x1)],[],[],0⟩ trivial ?_;refine AWp.cond (b:=x1) (by kernel_rfl) (fun hc1=> ?_) (fun hc1=> ?_)
 ·
  replace h:=aK hc1 h;refine aM [] [] ⟨4,[(2,.i (1:Int))],[],[],0⟩ trivial ?_;have hret:=Option.some.inj h;subst hret;refine AWp.le (Le.mk (s':=⟨4,[(2,.i (1:Int))],[],[],0⟩) rfl rfl ⟨.refl _,trivial⟩ trivial) ?_;refine AWp.ret (tR ?_);exact bR _ rfl ⟨rfl,rfl⟩ rfl
 ·
  replace h:=aL hc1 h;refine AWp.skip (tN ?_);refine aM [] [] ⟨4,[(2,.i (0:Int))],[],[],0⟩ trivial ?_;have hret:=Option.some.inj h;subst hret;refine AWp.le (Le.mk (s':=⟨4,[(2,.i (0:Int))],[],[],0⟩) rfl rfl ⟨.refl _,trivial⟩ trivial) ?_;refine AWp.ret ?_;exact bR _ rfl ⟨rfl,rfl⟩ rfl
abbrev zM (x4:List Tq0) (x5:List (Tq0×Int)):aG:=[(2000,.cells 119 [.own 2001,.own 2002]),(2001,bL 88 3 cK (default:Tq0) x4),(2002,bP aS (default:Tq0) cT 0 x5)]
abbrev f40z1 (x4:List Tq0) (x1 x2 x3:Int) (x5:List (Tq0×Int)):aG:=[(2000,.cells 119 [.own 2001,.own 2002]),(2001,bL 88 3 cK (default:Tq0) (x4++[(x1,x2,x3)])),(2002,bP aS (default:Tq0) cT 0 (mV x5 (x1,x2,x3) (((((x4++[(x1,x2,x3)])).length+1):Nat):Int)))]
abbrev f40z2 (x1 x2 x3:Int) (x4:List Tq0) (x5:List (Tq0×Int)):aG:=[(9,.cells 88 [.int .i64 x1,.int .i64 x2,.int .i64 x3]),(2000,.cells 119 [.own 2001,.own 2002]),(2001,bL 88 3 cK (default:Tq0) x4),(2002,bP aS (default:Tq0) cT 0 x5)]
abbrev tV (x1 x2 x3:Int):List V:=[.int .i64 x1,.int .i64 x2,.int .i64 x3]
def f40 (x1 x2 x3:Int) (x4:List Tq0) (x5:List (Tq0×Int)):Option (Int×Ty7×Ty8):=
 if(x2==x3)then(
 some (x2,x4,x5)
 )else(
 if(hM x5 (x1,x2,x3))then(
 some ((gM x5 (0:Int) (x1,x2,x3)),x4,x5)
 )else(
 chk (((x4).length+1) *24≤140737488355328)<|
 chk ((((((x4++[(x1,x2,x3)])).length:Nat):Int)+(1:Int))≤9223372036854775807)<|
 some ((((((x4++[(x1,x2,x3)])).length+1):Nat):Int),(x4++[(x1,x2,x3)]),(mV x5 (x1,x2,x3) (((((x4++[(x1,x2,x3)])).length+1):Nat):Int)))
 )
 )
theorem f40_ok (x1 x2 x3:Int) (x4:List Tq0) (x5:List (Tq0×Int)) (r:Int×Ty7×Ty8) (h:f40 x1 x2 x3 x4 x5=some r):aF Tryd.prog 40 [] [2000] [(2000,.cells 119 [.own 2001,.own 2002]),(2001,bL 88 3 cK (default:Tq0) x4),(2002,bP aS (default:Tq0) cT 0 x5)] [.ptr 2000 0,.int .i64 x1,.int .i64 x2,.int .i64 x3] (.int .i64 r.1) [(2000,.cells 119 [.own 2001,.own 2002]),(2001,bL 88 3 cK (default:Tq0) r.2.1),(2002,bP aS (default:Tq0) cT 0 r.2.2)]:=by
 unfold f40 at h;refine aF.body 0 _ _ Tryd.func40 rfl Tryd.ntmps40 rfl rfl ?_;refine aM [] [] ⟨55,[(0,.ptr 2000 0),(1,.i x1),(2,.i x2),(3,.i x3)],(zM x4 x5),[2000],0⟩ trivial ?_;refine AWp.seq ?_;refine aM [] [] ⟨55,[(0,.ptr 2000 0),(1,.i x1),(2,.i x2),(3,.i x3),(15,.bool (x2==x3))],(zM x4 x5),[2000],0⟩ trivial ?_;refine AWp.cond (b:=(x2==x3)) (by kernel_rfl) (fun hc1=> ?_) (fun hc1=> ?_)
 ·
  replace h:=aK hc1 h;refine aM [] [] ⟨55,[(8,.i x2)],(zM x4 x5),[2000],0⟩ trivial ?_;have hret:=Option.some.inj h;subst hret;refine AWp.le (Le.mk (s':=⟨55,[(8,.i x2)],(zM x4 x5),[2000],0⟩) rfl rfl ⟨.refl _,trivial⟩ ⟨⟨_,rfl,.refl _⟩,⟨_,rfl,.refl _⟩,⟨_,rfl,.refl _⟩,trivial⟩) ?_;refine AWp.ret (tR ?_);exact bR _ rfl ⟨rfl,rfl⟩ rfl
 ·
  replace h:=aL hc1 h;refine AWp.skip (tN ?_);refine aM [] [] ⟨55,[(0,.ptr 2000 0),(9,.ptr 9 0)],(f40z2 x1 x2 x3 x4 x5),[2000],0⟩ (an1 trivial) ?_;refine AWp.seq ?_;refine aM [] [(5,⟨[.own 2002,.agg (tV x1 x2 x3)],[2002],[2002],[(2002,bP aS aP cT 0 x5)],.tup [.i (gM x5 (0:Int) (x1,x2,x3)),.bool (hM x5 (x1,x2,x3))],[],[],[]⟩)] ⟨55,[(0,.ptr 2000 0),(9,.ptr 9 0),(10,.i (gM x5 (0:Int) (x1,x2,x3))),(11,.bool (hM x5 (x1,x2,x3)))],(f40z2 x1 x2 x3 x4 x5),[2000],0⟩ (an1 (And.intro (pF (P:=Tryd.prog) Tryd.underlying117 aS kE117 aP cT 0 (0:Int) (by kernel_rfl) (.tmp 25) (.tmp 26) 86 2002 x5 (x1,x2,x3)) (eQ.same [.own 2002,.agg (tV x1 x2 x3)]))) ?_;refine aM [] [] ⟨55,[(0,.ptr 2000 0),(9,.ptr 9 0),(10,.i (gM x5 (0:Int) (x1,x2,x3))),(30,.bool (hM x5 (x1,x2,x3)))],(f40z2 x1 x2 x3 x4 x5),[2000],0⟩ trivial ?_;refine AWp.cond (b:=(hM x5 (x1,x2,x3))) (by kernel_rfl) (fun hc2=> ?_) (fun hc2=> ?_)
  ·
   replace h:=aK hc2 h;refine aM [] [] ⟨55,[(8,.i (gM x5 (0:Int) (x1,x2,x3)))],(zM x4 x5),[2000],0⟩ trivial ?_;have hret:=Option.some.inj h;subst hret;refine AWp.le (Le.mk (s':=⟨55,[(8,.i (gM x5 (0:Int) (x1,x2,x3)))],(zM x4 x5),[2000],0⟩) rfl rfl ⟨.refl _,trivial⟩ ⟨⟨_,rfl,.refl _⟩,⟨_,rfl,.refl _⟩,⟨_,rfl,.refl _⟩,trivial⟩) ?_;refine AWp.ret (tR ?_);exact bR _ rfl ⟨rfl,rfl⟩ rfl
  ·
   replace h:=aL hc2 h;refine AWp.skip (tN (AWp.seq ?_));obtain⟨ob0,h⟩:=aB h;refine aR [] [] ⟨55,[(0,.ptr 2000 0),(9,.ptr 9 0)],[(9,.cells 88 (tV x1 x2 x3)),(2000,.cells 119 [.own 2001,.own 2002]),(2001,.rows 88 3 ((x4).length+1) (kB (x4).length (cM cK aP x4) (fZ 3 (tV x1 x2 x3)))),(2002,bP aS aP cT 0 x5)],[2000],0⟩ (an2 ob0 trivial) ?_;refine tN ?_;refine AWp.le (Le.mk (s':=⟨55,[(0,.ptr 2000 0),(9,.ptr 9 0)],[(9,.cells 88 (tV x1 x2 x3)),(2000,.cells 119 [.own 2001,.own 2002]),(2001,aN (x4++[(x1,x2,x3)])),(2002,bP aS aP cT 0 x5)],[2000],0⟩) rfl rfl ⟨.refl _,.refl _,trivial⟩ ⟨⟨_,rfl,.refl _⟩,⟨_,rfl,.refl _⟩,⟨_,rfl,(BLe.of (RL.app (RL.self _) (RL.lst (enc:=cK) [(x1,x2,x3)] rfl rfl (fun _=>rfl))))⟩,⟨_,rfl,.refl _⟩,trivial⟩) ?_;refine AWp.seq ?_;obtain⟨ob1p,h⟩:=aB h;have ob1: -9223372036854775808≤(((((x4++[(x1,x2,x3)])).length:Nat):Int)+(1:Int))∧(((((x4++[(x1,x2,x3)])).length:Nat):Int)+(1:Int))≤9223372036854775807:=⟨by omega,ob1p⟩;refine aR [] [] ⟨55,[(0,.ptr 2000 0),(9,.ptr 9 0),(12,.i (((((x4++[(x1,x2,x3)])).length+1):Nat):Int))],[(9,.cells 88 (tV x1 x2 x3)),(2000,.cells 119 [.own 2001,.own 2002]),(2001,aN (x4++[(x1,x2,x3)])),(2002,bP aS aP cT 0 x5)],[2000],0⟩ (an1 ob1) ?_;refine tN ?_;refine aM [] [(6,⟨[.own 2002,.agg (tV x1 x2 x3),.i (((((x4++[(x1,x2,x3)])).length+1):Nat):Int)],[2002],[2002],[(2002,bP aS aP cT 0 (mV x5 (x1,x2,x3) (((((x4++[(x1,x2,x3)])).length+1):Nat):Int)))],.any,[],[],[]⟩)] ⟨55,[(12,.i (((((x4++[(x1,x2,x3)])).length+1):Nat):Int))],(f40z1 x4 x1 x2 x3 x5),[2000],0⟩ (an1 (And.intro (mU Tryd.underlying117 aS kE117 (.mapUpdate 117 (.tmp 51) (.tmp 52) (.tmp 53)) (.tmp 51) (.tmp 52) (.tmp 53) (.inr rfl) aP cT 0 (fun _=>rfl) 0 2002 x5 (x1,x2,x3) (((((x4++[(x1,x2,x3)])).length+1):Nat):Int)) (eQ.same [.own 2002,.agg (tV x1 x2 x3),.i (((((x4++[(x1,x2,x3)])).length+1):Nat):Int)]))) ?_;refine aM [] [] ⟨55,[(8,.i (((((x4++[(x1,x2,x3)])).length+1):Nat):Int))],(f40z1 x4 x1 x2 x3 x5),[2000],0⟩ trivial ?_;have hret:=Option.some.inj h;subst hret;refine AWp.le (Le.mk (s':=⟨55,[(8,.i (((((x4++[(x1,x2,x3)])).length+1):Nat):Int))],(f40z1 x4 x1 x2 x3 x5),[2000],0⟩) rfl rfl ⟨.refl _,trivial⟩ ⟨⟨_,rfl,.refl _⟩,⟨_,rfl,.refl _⟩,⟨_,rfl,.refl _⟩,trivial⟩) ?_;refine AWp.ret ?_;exact bR _ rfl ⟨rfl,rfl⟩ rfl
def f76 :Nat→Int→(BitVec 16)→Int→Ty4→Int→Ty7→Ty8→Option (Int×Ty7×Ty8)
 |0,_,_,_,_,_,_,_=>none
 |k+1,x1,x2,x3,x4,x5,x6,x7=>
  if(x1==x3)then(
  (f33 x2 x4 x5).bind fun(r8:Bool)=>
  (f77 r8).bind fun(r9:Int)=>
  some (r9,x6,x7)
  )else(
  ((f76 k) (x1+(1:Int)) x2 x3 x4 x5 x6 x7).bind fun(r10:Int×Ty7×Ty8)=>
  chk (-9223372036854775808≤(x1+(1:Int))∧(x1+(1:Int))≤9223372036854775807)<|
  ((f76 k) (x1+(1:Int)) (x2|||((BitVec.ofInt 16 1)<<<((x1).toNat))) x3 x4 x5 r10.2.1 r10.2.2).bind fun(r11:Int×Ty7×Ty8)=>
  (f40 x1 r10.1 r11.1 r11.2.1 r11.2.2).bind fun(r12:Int×Ty7×Ty8)=>
  chk (-9223372036854775808≤(x1+(1:Int))∧(x1+(1:Int))≤9223372036854775807)<|
  chk (0≤x1)<|
  some (r12.1,r12.2.1,r12.2.2)
  )
theorem f76_ok :∀(k:Nat) (x1:Int) (x2:BitVec 16) (x3:Int) (x4:List Ty0) (x5:Int) (x6:List Tq0) (x7:List (Tq0×Int)) (r:Int×Ty7×Ty8),f76 k x1 x2 x3 x4 x5 x6 x7=some r→aF Tryd.prog 76 [] [2000,2001,2002,2003,2004,2005] [(2000,.cells 3 [.int .i64 x3]),(2001,.cells 78 [.fn (.func 33) [.ptr 2002 0]]),(2002,.cells 28 [vL 5 bY (default:Int×Int×Int×List Int×List Int) x4,.int .i64 x5]),(2003,.cells 114 [.fn (.func 76) [.ptr 2000 0,.ptr 2001 0,.ptr 2003 0,.ptr 2004 0]]),(2004,.cells 82 [.ptr 2005 0]),(2005,.cells 119 [.own 2006,.own 2007]),(2006,bL 88 3 cK (default:Tq0) x6),(2007,bP aS (default:Tq0) cT 0 x7)] [.int .i64 x1,.b16 x2,.ptr 2000 0,.ptr 2001 0,.ptr 2003 0,.ptr 2004 0] (.int .i64 r.1) [(2000,.cells 3 [.int .i64 x3]),(2001,.cells 78 [.fn (.func 33) [.ptr 2002 0]]),(2002,.cells 28 [vL 5 bY (default:Int×Int×Int×List Int×List Int) x4,.int .i64 x5]),(2003,.cells 114 [.fn (.func 76) [.ptr 2000 0,.ptr 2001 0,.ptr 2003 0,.ptr 2004 0]]),(2004,.cells 82 [.ptr 2005 0]),(2005,.cells 119 [.own 2006,.own 2007]),(2006,bL 88 3 cK (default:Tq0) r.2.1),(2007,bP aS (default:Tq0) cT 0 r.2.2)]:=by
 intro k
 induction k with
 |zero=>intro x1 x2 x3 x4 x5 x6 x7 r h;exact nomatch (show(none:Option (Int×Ty7×Ty8))=some r from h)
 |succ k ih=>
 intro x1 x2 x3 x4 x5 x6 x7 r h;obtain⟨Frec,hFrec⟩:∃C,C=f76 k:=⟨_,rfl⟩;rw[f76.eq_2]at h;rw[←hFrec]at h ih;refine aF.body 0 _ _ Tryd.func76 rfl Tryd.ntmps76 rfl rfl ?_;refine aM [] [] ⟨34,[(0,.i x1),(1,.b16 x2),(2,.ptr 2000 0),(3,.ptr 2001 0),(4,.ptr 2003 0),(5,.ptr 2004 0)],[(2000,.cells 3 [.i x3]),(2001,.cells 78 [.fn (.func 33) [.ptr 2002 0]]),(2002,.cells 28 [aO x4,.i x5]),(2003,.cells 114 [.fn (.func 76) [.ptr 2000 0,.ptr 2001 0,.ptr 2003 0,.ptr 2004 0]]),(2004,.cells 82 [.ptr 2005 0]),(2005,.cells 119 [.own 2006,.own 2007]),(2006,aN x6),(2007,bP aS aP cT 0 x7)],[2000,2001,2002,2003,2004,2005],0⟩ trivial ?_;refine AWp.seq ?_;refine aM [] [] ⟨34,[(0,.i x1),(1,.b16 x2),(3,.ptr 2001 0),(4,.ptr 2003 0),(5,.ptr 2004 0),(12,.bool (x1==x3))],[(2000,.cells 3 [.i x3]),(2001,.cells 78 [.fn (.func 33) [.ptr 2002 0]]),(2002,.cells 28 [aO x4,.i x5]),(2003,.cells 114 [.fn (.func 76) [.ptr 2000 0,.ptr 2001 0,.ptr 2003 0,.ptr 2004 0]]),(2004,.cells 82 [.ptr 2005 0]),(2005,.cells 119 [.own 2006,.own 2007]),(2006,aN x6),(2007,bP aS aP cT 0 x7)],[2000,2001,2002,2003,2004,2005],0⟩ trivial ?_;refine AWp.cond (b:=(x1==x3)) (by kernel_rfl) (fun hc1=> ?_) (fun hc1=> ?_)
 ·
  replace h:=aK hc1 h;refine AWp.seq ?_;obtain⟨r8,hr8,h⟩:=bind_ok h;obtain⟨r9,hr9,h⟩:=bind_ok h;refine aR [] [(2,⟨[.b16 x2,.ptr 2002 0],[2002],[2002],[(2002,.cells 28 [aO x4,.i x5])],.bool r8,[],[2002],[]⟩),(3,⟨[.bool r8],[],[],[],.i r9,[],[],[]⟩)] ⟨34,[(8,.i r9)],[(2000,.cells 3 [.i x3]),(2001,.cells 78 [.fn (.func 33) [.ptr 2002 0]]),(2002,.cells 28 [aO x4,.i x5]),(2003,.cells 114 [.fn (.func 76) [.ptr 2000 0,.ptr 2001 0,.ptr 2003 0,.ptr 2004 0]]),(2004,.cells 82 [.ptr 2005 0]),(2005,.cells 119 [.own 2006,.own 2007]),(2006,aN x6),(2007,bP aS aP cT 0 x7)],[2000,2001,2002,2003,2004,2005],0⟩ (an2 (cpR (cpT (aF.ren (aW 2000 2002) (aE 2000 2002) rfl (f33_ok _ _ _ _ hr8))) [(2002,.cells 28 [aO x4,.i x5])]) (cpT (f77_ok _ _ hr9))) ?_;refine tN ?_;have hret:=Option.some.inj h;subst hret;refine AWp.le (Le.mk (s':=⟨34,[(8,.i r9)],[(2000,.cells 3 [.i x3]),(2001,.cells 78 [.fn (.func 33) [.ptr 2002 0]]),(2002,.cells 28 [aO x4,.i x5]),(2003,.cells 114 [.fn (.func 76) [.ptr 2000 0,.ptr 2001 0,.ptr 2003 0,.ptr 2004 0]]),(2004,.cells 82 [.ptr 2005 0]),(2005,.cells 119 [.own 2006,.own 2007]),(2006,aN x6),(2007,bP aS aP cT 0 x7)],[2000,2001,2002,2003,2004,2005],0⟩) rfl rfl ⟨.refl _,trivial⟩ ⟨⟨_,rfl,.refl _⟩,⟨_,rfl,.refl _⟩,⟨_,rfl,.refl _⟩,⟨_,rfl,.refl _⟩,⟨_,rfl,.refl _⟩,⟨_,rfl,.refl _⟩,⟨_,rfl,.refl _⟩,⟨_,rfl,.refl _⟩,trivial⟩) ?_;refine AWp.ret (tR ?_);exact bR _ rfl ⟨rfl,rfl⟩ rfl
 ·
  replace h:=aL hc1 h;refine AWp.skip (tN (AWp.seq ?_));obtain⟨r10,hr10,h⟩:=bind_ok h;obtain⟨ob0,h⟩:=aB h;refine aR [] [(4,⟨[.i (x1+(1:Int)),.b16 x2,.ptr 2000 0,.ptr 2001 0,.ptr 2003 0,.ptr 2004 0],[2000,2001,2002,2003,2004,2005,2006,2007],[2000,2001,2002,2003,2004,2005],[(2000,.cells 3 [.i x3]),(2001,.cells 78 [.fn (.func 33) [.ptr 2002 0]]),(2002,.cells 28 [aO x4,.i x5]),(2003,.cells 114 [.fn (.func 76) [.ptr 2000 0,.ptr 2001 0,.ptr 2003 0,.ptr 2004 0]]),(2004,.cells 82 [.ptr 2005 0]),(2005,.cells 119 [.own 2006,.own 2007]),(2006,aN r10.2.1),(2007,bP aS aP cT 0 r10.2.2)],.i r10.1,[2006,2007],[2000,2001,2002,2003,2004],[]⟩)] ⟨34,[(0,.i x1),(1,.b16 x2),(4,.ptr 2003 0),(5,.ptr 2004 0),(9,.i r10.1)],[(2000,.cells 3 [.i x3]),(2001,.cells 78 [.fn (.func 33) [.ptr 2002 0]]),(2002,.cells 28 [aO x4,.i x5]),(2003,.cells 114 [.fn (.func 76) [.ptr 2000 0,.ptr 2001 0,.ptr 2003 0,.ptr 2004 0]]),(2004,.cells 82 [.ptr 2005 0]),(2005,.cells 119 [.own 2006,.own 2007]),(2006,aN r10.2.1),(2007,bP aS aP cT 0 r10.2.2)],[2000,2001,2002,2003,2004,2005],0⟩ (an2 ob0 (cpR (cpT (ih _ _ _ _ _ _ _ _ hr10)) [(2000,.cells 3 [.i x3]),(2001,.cells 78 [.fn (.func 33) [.ptr 2002 0]]),(2002,.cells 28 [aO x4,.i x5]),(2003,.cells 114 [.fn (.func 76) [.ptr 2000 0,.ptr 2001 0,.ptr 2003 0,.ptr 2004 0]]),(2004,.cells 82 [.ptr 2005 0])])) ?_;refine tN (AWp.seq ?_);obtain⟨r11,hr11,h⟩:=bind_ok h;obtain⟨r12,hr12,h⟩:=bind_ok h;obtain⟨ob1,ob2,h⟩:=ck2 h;refine aR [] [(10,⟨[.i (x1+(1:Int)),.b16 (x2|||((bD 1)<<<((x1).toNat))),.ptr 2000 0,.ptr 2001 0,.ptr 2003 0,.ptr 2004 0],[2000,2001,2002,2003,2004,2005,2006,2007],[2000,2001,2002,2003,2004,2005],[(2000,.cells 3 [.i x3]),(2001,.cells 78 [.fn (.func 33) [.ptr 2002 0]]),(2002,.cells 28 [aO x4,.i x5]),(2003,.cells 114 [.fn (.func 76) [.ptr 2000 0,.ptr 2001 0,.ptr 2003 0,.ptr 2004 0]]),(2004,.cells 82 [.ptr 2005 0]),(2005,.cells 119 [.own 2006,.own 2007]),(2006,aN r11.2.1),(2007,bP aS aP cT 0 r11.2.2)],.i r11.1,[2006,2007],[2000,2001,2002,2003,2004],[]⟩),(11,⟨[.ptr 2005 0,.i x1,.i r10.1,.i r11.1],[2005,2006,2007],[2005],[(2005,.cells 119 [.own 2006,.own 2007]),(2006,aN r12.2.1),(2007,bP aS aP cT 0 r12.2.2)],.i r12.1,[2006,2007],[],[]⟩)] ⟨34,[(8,.i r12.1)],[(2000,.cells 3 [.i x3]),(2001,.cells 78 [.fn (.func 33) [.ptr 2002 0]]),(2002,.cells 28 [aO x4,.i x5]),(2003,.cells 114 [.fn (.func 76) [.ptr 2000 0,.ptr 2001 0,.ptr 2003 0,.ptr 2004 0]]),(2004,.cells 82 [.ptr 2005 0]),(2005,.cells 119 [.own 2006,.own 2007]),(2006,aN r12.2.1),(2007,bP aS aP cT 0 r12.2.2)],[2000,2001,2002,2003,2004,2005],0⟩ (an4 ob1 ob2 (cpR (cpT (ih _ _ _ _ _ _ _ _ hr11)) [(2000,.cells 3 [.i x3]),(2001,.cells 78 [.fn (.func 33) [.ptr 2002 0]]),(2002,.cells 28 [aO x4,.i x5]),(2003,.cells 114 [.fn (.func 76) [.ptr 2000 0,.ptr 2001 0,.ptr 2003 0,.ptr 2004 0]]),(2004,.cells 82 [.ptr 2005 0])]) (cpT (aF.ren (aW 2002 2007) (aE 2002 2007) rfl (aF.ren (aW 2001 2006) (aE 2001 2006) rfl (aF.ren (aW 2000 2005) (aE 2000 2005) rfl (f40_ok _ _ _ _ _ _ hr12)))))) ?_;refine tN ?_;have hret:=Option.some.inj h;subst hret;refine AWp.le (Le.mk (s':=⟨34,[(8,.i r12.1)],[(2000,.cells 3 [.i x3]),(2001,.cells 78 [.fn (.func 33) [.ptr 2002 0]]),(2002,.cells 28 [aO x4,.i x5]),(2003,.cells 114 [.fn (.func 76) [.ptr 2000 0,.ptr 2001 0,.ptr 2003 0,.ptr 2004 0]]),(2004,.cells 82 [.ptr 2005 0]),(2005,.cells 119 [.own 2006,.own 2007]),(2006,aN r12.2.1),(2007,bP aS aP cT 0 r12.2.2)],[2000,2001,2002,2003,2004,2005],0⟩) rfl rfl ⟨.refl _,trivial⟩ ⟨⟨_,rfl,.refl _⟩,⟨_,rfl,.refl _⟩,⟨_,rfl,.refl _⟩,⟨_,rfl,.refl _⟩,⟨_,rfl,.refl _⟩,⟨_,rfl,.refl _⟩,⟨_,rfl,.refl _⟩,⟨_,rfl,.refl _⟩,trivial⟩) ?_;refine AWp.ret ?_;exact bR _ rfl ⟨rfl,rfl⟩ rfl
def f41 (x1 x2:Int) (x3:List Tq0) (x4:List (Tq0×Int)):Option (Int×Int×Ty7×Ty8):=
 some (x1,x2,x3,x4)
theorem f41_ok (x1 x2:Int) (x3:List Tq0) (x4:List (Tq0×Int)) (r:Int×Int×Ty7×Ty8) (h:f41 x1 x2 x3 x4=some r):aF Tryd.prog 41 [] [2000] [(2000,.cells 119 [.own 2001,.own 2002]),(2001,bL 88 3 cK (default:Tq0) x3),(2002,bP aS (default:Tq0) cT 0 x4)] [.ptr 2000 0,.int .i64 x1,.int .i64 x2] (.agg [.int .i64 r.1,.own 2001,.int .i64 r.2.1]) [(2000,.cells 119 [.own 2001,.own 2002]),(2001,bL 88 3 cK (default:Tq0) r.2.2.1),(2002,bP aS (default:Tq0) cT 0 r.2.2.2)]:=by
 unfold f41 at h;refine aF.bodyD [6] 0 _ _ Tryd.func41 rfl Tryd.ntmps41 rfl rfl ?_;refine aM [] [] ⟨14,[(0,.ptr 2000 0),(1,.i x1),(2,.i x2),(6,.ptr 6 0)],[(6,.cells 36 [.i (0:Int),.nils,.i (0:Int)]),(2000,.cells 119 [.own 2001,.own 2002]),(2001,aN x3),(2002,bP aS aP cT 0 x4)],[2000],0⟩ trivial ?_;refine aM [] [] ⟨14,[(6,.ptr 6 0)],[(6,.cells 36 [.i x1,.own 2001,.i x2]),(2000,.cells 119 [.own 2001,.own 2002]),(2001,aN x3),(2002,bP aS aP cT 0 x4)],[2000],0⟩ (an1 trivial) ?_;have hret:=Option.some.inj h;subst hret;refine AWp.le (Le.mk (s':=⟨14,[(6,.ptr 6 0)],[(2000,.cells 119 [.own 2001,.own 2002]),(2001,aN x3),(2002,bP aS aP cT 0 x4),(6,.cells 36 [.i x1,.own 2001,.i x2])],[2000],0⟩) rfl rfl ⟨.refl _,trivial⟩ ⟨⟨_,rfl,.refl _⟩,⟨_,rfl,.refl _⟩,⟨_,rfl,.refl _⟩,⟨_,rfl,.refl _⟩,trivial⟩) ?_;refine AWp.ret ?_;exact bR _ rfl ⟨rfl,rfl⟩ rfl
abbrev qU (x2:List Ty0) (x3:Int):List V:=[vL 5 bY (default:Int×Int×Int×List Int×List Int) x2,.int .i64 x3]
abbrev f32z1 :List V:=[.int .i64 (0:Int),.nils,.int .i64 (0:Int)]
def f32 (x1:Int) (x2:List Ty0) (x3:Int):Option (Int×Int×Ty4×Int×Ty7):=
 (f38).bind fun(r4:Ty7×Ty8)=>
 (f76 bG (0:Int) (BitVec.ofInt 16 0) x1 x2 x3 r4.1 r4.2).bind fun(r5:Int×Ty7×Ty8)=>
 (f41 x1 r5.1 r5.2.1 r5.2.2).bind fun(r6:Int×Int×Ty7×Ty8)=>
 some (r6.1,r6.2.1,x2,x3,r6.2.2.1)
end Go.Abs
