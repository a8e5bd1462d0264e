/- Part 24 of the proof: X54A. -/
import Derived.Test.YtfkhgbcggabkjaaGreatDoorMonpreZ23
namespace Go.Abs
open Go Go.Proofs
set_option maxRecDepth 100000
set_option maxHeartbeats 4000000
def gB (x1:List Y51) (K1:Int→Option Tq6):Nat→(Nat×Int×(List Tq5)×(List Tq4)×Ty8×(List Tq2)×Ty8×Ty5×Ty6)→Option Tq6
 |0,_=>none
 |k+1,(n4,i5,l6,l7,l8,l9,l10,l11,l12)=>
  if(decide ((n4:Int)<(((x1).length:Nat):Int)))then(
  chk ((n4:Int)<(((x1).length:Nat):Int))<|
  (f42 ((x1.getD n4 (default:Y51)).1) ((x1.getD n4 (default:Y51)).2.1) ((x1.getD n4 (default:Y51)).2.2.1) ((x1.getD n4 (default:Y51)).2.2.2.1) ((x1.getD n4 (default:Y51)).2.2.2.2.1) ((x1.getD n4 (default:Y51)).2.2.2.2.2.1) ((x1.getD n4 (default:Y51)).2.2.2.2.2.2) l6 l7 l8 l9 l10 l11 l12 i5).bind fun(r13:Bool×(List Tq5)×(List Tq4)×Ty8×(List Tq2)×Ty8×Ty5×Ty6×Int)=>
  if r13.1 then(
  some ((n4:Int),(0:Int),r13.2.2.2.2.2.2.2.2)
  )else(
  (f45 ((x1.getD n4 (default:Y51)).1) ((x1.getD n4 (default:Y51)).2.1) ((x1.getD n4 (default:Y51)).2.2.1) ((x1.getD n4 (default:Y51)).2.2.2.1) ((x1.getD n4 (default:Y51)).2.2.2.2.1) ((x1.getD n4 (default:Y51)).2.2.2.2.2.1) ((x1.getD n4 (default:Y51)).2.2.2.2.2.2) r13.2.1 r13.2.2.1 r13.2.2.2.1 r13.2.2.2.2.1 r13.2.2.2.2.2.1 r13.2.2.2.2.2.2.1 r13.2.2.2.2.2.2.2.1).bind fun(r14:(List Tq5)×(List Tq4)×Ty8×(List Tq2)×Ty8×Ty5×Ty6)=>
  chk (((n4:Int)+(1:Int))≤9223372036854775807)<|
  (gB x1 K1 k) ((n4+1),r13.2.2.2.2.2.2.2.2,r14.1,r14.2.1,r14.2.2.1,r14.2.2.2.1,r14.2.2.2.2.1,r14.2.2.2.2.2.1,r14.2.2.2.2.2.2)
  )
  )else(
  K1 i5
  )
abbrev xM :List V:=[.own 6001,.own 6002,.own 6003,.own 6004,.own 6005,.own 6006,.own 6007]
abbrev f41z1 (x2:Int) (r3:(List Tq5)×(List Tq4)×Ty8×(List Tq2)×Ty8×Ty5×Ty6):aK:=[(6,.cells 115 (xM)),(2000,.cells 3 [.int .i64 x2]),(6001,bP (V.int .i64) 0 dP [] r3.1),(6002,bP (V.int .i64) 0 dV false r3.2.1),(6003,bP aM (default:Tq2) cC [] r3.2.2.1),(6004,bP (V.int .i64) 0 dU 0 r3.2.2.2.1),(6005,bP aM (default:Tq2) cC [] r3.2.2.2.2.1),(6006,bP bN (default:Tq0) eD false r3.2.2.2.2.2.1),(6007,bP bK (default:Tq2) eA false r3.2.2.2.2.2.2)]
abbrev f41z2 (r13:Bool×(List Tq5)×(List Tq4)×Ty8×(List Tq2)×Ty8×Ty5×Ty6×Int) (r14:(List Tq5)×(List Tq4)×Ty8×(List Tq2)×Ty8×Ty5×Ty6):aK:=[(6,.cells 115 (xM)),(2000,.cells 3 [.int .i64 r13.2.2.2.2.2.2.2.2]),(6001,bP (V.int .i64) 0 dP [] r14.1),(6002,bP (V.int .i64) 0 dV false r14.2.1),(6003,bP aM (default:Tq2) cC [] r14.2.2.1),(6004,bP (V.int .i64) 0 dU 0 r14.2.2.2.1),(6005,bP aM (default:Tq2) cC [] r14.2.2.2.2.1),(6006,bP bN (default:Tq0) eD false r14.2.2.2.2.2.1),(6007,bP bK (default:Tq2) eA false r14.2.2.2.2.2.2)]
def f41 (x1:List Y51) (x2:Int):Option Tq6:=
 (f44).bind fun(r3:(List Tq5)×(List Tq4)×Ty8×(List Tq2)×Ty8×Ty5×Ty6)=>
 jn (fun(i15:Int)=>
 some ((0:Int),(13:Int),i15)
 ) fun(K1:Int→Option Tq6)=>
 gB x1 K1 bG (0,x2,r3.1,r3.2.1,r3.2.2.1,r3.2.2.2.1,r3.2.2.2.2.1,r3.2.2.2.2.2.1,r3.2.2.2.2.2.2)
theorem f41_ok (x1:List Y51) (x2:Int) (r:Tq6) (h:f41 x1 x2=some r):aH Tryz.prog 41 [(1,.tab .u64 Lib.pow10Tab),(2,bF),(3,bF)] [2000] [(2000,.cells 3 [.int .i64 x2])] [vL 28 aAx (default:Y51) x1,.fn (.func 42) [.ptr 2000 0]] (.tup [.int .i64 r.1,.int .i64 r.2.1]) [(2000,.cells 3 [.int .i64 r.2.2])]:=by
 unfold f41 at h;refine aH.body 0 _ _ Tryz.func41 rfl Tryz.ntmps41 rfl rfl ?_;refine bJ [] [] [0,1,1000001,1000002,1000003] [2000] trivial ?_;refine AWp.seq ?_;obtain⟨r3,hr3,h⟩:=bind_ok h;refine aZ [] [(0,⟨[],[],[],(qmp 6001 r3.1 r3.2.1 r3.2.2.1 r3.2.2.2.1 r3.2.2.2.2.1 r3.2.2.2.2.2.1 r3.2.2.2.2.2.2),.agg (xM),[6001,6002,6003,6004,6005,6006,6007],[],[]⟩)] ⟨24,[(0,bC x1),(1,.fn (.func 42) [.ptr 2000 0]),(6,.ptr 6 0),(1000001,.tab .u64 Lib.pow10Tab),(1000002,bF),(1000003,bF)],(f41z1 x2 r3),[2000],0⟩ (an2 (cpT (aH.ren (bA 3006 6007) (aD 3006 6007) rfl (aH.ren (bA 3005 6006) (aD 3005 6006) rfl (aH.ren (bA 3004 6005) (aD 3004 6005) rfl (aH.ren (bA 3003 6004) (aD 3003 6004) rfl (aH.ren (bA 3002 6003) (aD 3002 6003) rfl (aH.ren (bA 3001 6002) (aD 3001 6002) rfl (aH.ren (bA 3000 6001) (aD 3000 6001) rfl (f44_ok _ hr3))))))))) trivial) ?_;refine tN ?_;obtain⟨K1,hK1,h⟩:=aS h;refine AWp.join (α:=Int) (fun(i15:Int)=>⟨24,[(1000001,.tab .u64 Lib.pow10Tab),(1000002,bF),(1000003,bF)],[(2000,.cells 3 [.i i15])],[2000],0⟩) (fun x=>K1 x=some r) ?_ ?_
 ·
  refine aU [] [] ⟨24,[(1,.fn (.func 42) [.ptr 2000 0]),(6,.ptr 6 0),(10,bC x1),(11,.i (lZ x1)),(12,.i (0:Int)),(1000001,.tab .u64 Lib.pow10Tab),(1000002,bF),(1000003,bF)],(f41z1 x2 r3),[2000],0⟩ trivial ?_;refine AWp.block ?_;refine AWp.loopL (α:=Nat×(Nat×Int×(List Tq5)×(List Tq4)×Ty8×(List Tq2)×Ty8×Ty5×Ty6)) (fun x=>match x with|(_,n4,i5,l6,l7,l8,l9,l10,l11,l12)=>⟨24,[(1,.fn (.func 42) [.ptr 2000 0]),(6,.ptr 6 0),(10,bC x1),(11,.i (lZ x1)),(12,.i (n4:Int)),(1000001,.tab .u64 Lib.pow10Tab),(1000002,bF),(1000003,bF)],((6,.cells 115 (xM))::(2000,.cells 3 [.i i5])::qmp 6001 l6 l7 l8 l9 l10 l11 l12),[2000],0⟩) (fun x=>gB x1 K1 x.1 x.2=some r) (fun x=>x.1) (bG,0,x2,r3.1,r3.2.1,r3.2.2.1,r3.2.2.2.1,r3.2.2.2.2.1,r3.2.2.2.2.2.1,r3.2.2.2.2.2.2) (LR (s':=⟨24,[(1,.fn (.func 42) [.ptr 2000 0]),(6,.ptr 6 0),(10,bC x1),(11,.i (lZ x1)),(12,.i (0:Int)),(1000001,.tab .u64 Lib.pow10Tab),(1000002,bF),(1000003,bF)],(f41z1 x2 r3),[2000],0⟩)) h ?_
  rintro⟨k0,n4,i5,l6,l7,l8,l9,l10,l11,l12⟩ h
  cases k0 with
  |zero=>exact nomatch (show none=some r from h)
  |succ k0=>
  obtain⟨C0,hC0⟩:∃C,C=gB x1 K1 k0:=⟨_,rfl⟩;replace h:=(gB.eq_2 ..).symm.trans h
  try rw[←hC0]at h
  refine aU [] [] ⟨24,[(1,.fn (.func 42) [.ptr 2000 0]),(6,.ptr 6 0),(10,bC x1),(11,.i (lZ x1)),(12,.i (n4:Int)),(13,.bool (decide ((n4:Int)<(lZ x1)))),(1000001,.tab .u64 Lib.pow10Tab),(1000002,bF),(1000003,bF)],((6,.cells 115 (xM))::(2000,.cells 3 [.i i5])::qmp 6001 l6 l7 l8 l9 l10 l11 l12),[2000],0⟩ trivial ?_;refine AWp.seq ?_;refine AWp.cond (b:=(decide ((n4:Int)<(lZ x1)))) (by kernel_rfl) (fun hc1=> ?_) (fun hc1=> ?_)
  ·
   replace h:=aE hc1 h;refine AWp.skip (tN (AWp.seq (AWp.block (AWp.seq ?_))));obtain⟨ob0p,h⟩:=aB h;have ob0:0≤(n4:Int)∧(n4:Int)<(((x1).length:Nat):Int):=⟨by omega,ob0p⟩;refine cA [] [] [1,6,7,8,10,11,12,1000001,1000002,1000003] [6,8,2000,6001,6002,6003,6004,6005,6006,6007] (an2 ob0 trivial) ?_;refine tN (AWp.seq (AWp.seq ?_));obtain⟨r13,hr13,h⟩:=bind_ok h;refine cA [] [(2,⟨[.ptr 6 0,.agg (qpt (x1.getD n4 aL)),.ptr 2000 0],[6,6001,6002,6003,6004,6005,6006,6007,2000],[6,2000],[(6,.cells 115 (xM)),(6001,bP (V.int .i64) 0 dP [] r13.2.1),(6002,bP (V.int .i64) 0 dV false r13.2.2.1),(6003,bP aM bI cC [] r13.2.2.2.1),(6004,bP (V.int .i64) 0 dU 0 r13.2.2.2.2.1),(6005,bP aM bI cC [] r13.2.2.2.2.2.1),(6006,bP bN bB eD false r13.2.2.2.2.2.2.1),(6007,bP bK bI eA false r13.2.2.2.2.2.2.2.1),(2000,.cells 3 [.i r13.2.2.2.2.2.2.2.2])],.bool r13.1,[6001,6002,6003,6004,6005,6006,6007],[],[1,2,3]⟩)] [1,6,7,8,10,11,12,19,1000001,1000002,1000003] [6,8,2000,6001,6002,6003,6004,6005,6006,6007] (an1 (cpT (aH.ren (bA 2008 2000) (aD 2008 2000) rfl (aH.ren (bA 2007 6007) (aD 2007 6007) rfl (aH.ren (bA 2006 6006) (aD 2006 6006) rfl (aH.ren (bA 2005 6005) (aD 2005 6005) rfl (aH.ren (bA 2004 6004) (aD 2004 6004) rfl (aH.ren (bA 2003 6003) (aD 2003 6003) rfl (aH.ren (bA 2002 6002) (aD 2002 6002) rfl (aH.ren (bA 2001 6001) (aD 2001 6001) rfl (aH.ren (bA 2000 6) (aD 2000 6) rfl (f42_ok _ _ _ _ _ _ _ _ _ _ _ _ _ _ _ _ hr13)))))))))))) ?_;refine tN ?_;refine AWp.cond (b:=r13.1) (by kernel_rfl) (fun hc2=> ?_) (fun hc2=> ?_)
   ·
    replace h:=aE hc2 h;refine aU [] [] ⟨24,[(4,.i (n4:Int)),(5,.i (0:Int))],[(2000,.cells 3 [.i r13.2.2.2.2.2.2.2.2])],[2000],0⟩ trivial ?_;have hret:=Option.some.inj h;subst hret;refine AWp.ret (tR (kR (tR (tR (kR (aY ?_))))));exact bR _ rfl ⟨rfl,rfl⟩ rfl
   ·
    replace h:=aF hc2 h;refine AWp.skip (tN ?_);obtain⟨r14,hr14,h⟩:=bind_ok h;refine aZ [] [(1,⟨[.ptr 6 0,.agg (qpt (x1.getD n4 aL))],[6,6001,6002,6003,6004,6005,6006,6007],[6],((6,.cells 115 (xM))::qmp 6001 r14.1 r14.2.1 r14.2.2.1 r14.2.2.2.1 r14.2.2.2.2.1 r14.2.2.2.2.2.1 r14.2.2.2.2.2.2),.tup [],[6001,6002,6003,6004,6005,6006,6007],[],[]⟩)] ⟨24,[(1,.fn (.func 42) [.ptr 2000 0]),(6,.ptr 6 0),(10,bC x1),(11,.i (lZ x1)),(12,.i (n4:Int)),(1000001,.tab .u64 Lib.pow10Tab),(1000002,bF),(1000003,bF)],(f41z2 r13 r14),[2000],0⟩ (an1 (cpT (aH.ren (bA 2007 6007) (aD 2007 6007) rfl (aH.ren (bA 2006 6006) (aD 2006 6006) rfl (aH.ren (bA 2005 6005) (aD 2005 6005) rfl (aH.ren (bA 2004 6004) (aD 2004 6004) rfl (aH.ren (bA 2003 6003) (aD 2003 6003) rfl (aH.ren (bA 2002 6002) (aD 2002 6002) rfl (aH.ren (bA 2001 6001) (aD 2001 6001) rfl (aH.ren (bA 2000 6) (aD 2000 6) rfl (f45_ok _ _ _ _ _ _ _ _ _ _ _ _ _ _ _ hr14))))))))))) ?_;refine kN (tN ?_);obtain⟨ob1p,h⟩:=aB h;have ob1: -9223372036854775808≤((n4:Int)+(1:Int))∧((n4:Int)+(1:Int))≤9223372036854775807:=⟨by omega,ob1p⟩;refine aZ [] [] ⟨24,[(1,.fn (.func 42) [.ptr 2000 0]),(6,.ptr 6 0),(10,bC x1),(11,.i (lZ x1)),(12,.i (((n4+1):Nat):Int)),(1000001,.tab .u64 Lib.pow10Tab),(1000002,bF),(1000003,bF)],(f41z2 r13 r14),[2000],0⟩ (an1 ob1) ?_;rw[hC0]at h;exact lN (_,(n4+1),r13.2.2.2.2.2.2.2.2,r14.1,r14.2.1,r14.2.2.1,r14.2.2.2.1,r14.2.2.2.2.1,r14.2.2.2.2.2.1,r14.2.2.2.2.2.2) LR h (Nat.lt_succ_self _)
  ·
   replace h:=aF hc1 h;refine AWp.exit (tE (tE (kS ?_)));exact jN (i5) LR h
 ·
  rintro i15 h;replace h:=(congrFun hK1 _).symm.trans h;refine aU [] [] ⟨24,[(4,.i (0:Int)),(5,.i (13:Int))],[(2000,.cells 3 [.i i15])],[2000],0⟩ trivial ?_;have hret:=Option.some.inj h;subst hret;refine AWp.ret ?_;exact bR _ rfl ⟨rfl,rfl⟩ rfl
def f13 (x1:List Ty0) (x2:List (List UInt8×BitVec 16)) (x3:BitVec 16) (x4:List Ty9) (x5:List Int) (x6:List (List UInt8×Bool×Ty7)) (x7:List Y51):Option Tq6:=
 (f41 x7 (0:Int)).bind fun(r8:Tq6)=>
 some (r8.1,r8.2.2,r8.2.1)
theorem vJ (x1:List Ty0) (x2:List (List UInt8×BitVec 16)) (x3:BitVec 16) (x4:List Ty9) (x5:List Int) (x6:List (List UInt8×Bool×Ty7)) (x7:List Y51) (r:Tq6) (h:f13 x1 x2 x3 x4 x5 x6 x7=some r):aH Tryz.prog 13 [(1,.tab .u64 Lib.pow10Tab),(2,bF),(3,bF)] [] [] [.agg [vL 1 eS [] x1,vL 2 eSW (default:List UInt8×BitVec 16) x2,.b16 x3,vL 6 eT73 (default:List UInt8×Int×BitVec 16×List (BitVec 16)×List (BitVec 16)×Ty7) x4,vL 1 eI 0 x5,vL 3 lQ (default:List UInt8×Bool×Ty7) x6],vL 28 aAx (default:Y51) x7] (.tup [.int .i64 r.1,.int .i64 r.2.1,.int .i64 r.2.2]) []:=by
 unfold f13 at h;refine aH.body 0 _ _ Tryz.func13 rfl Tryz.ntmps13 rfl rfl ?_;refine bJ [] [] [1,1000001,1000002,1000003] [] trivial ?_;refine bJ [] [] [1,7,1000001,1000002,1000003] [7] (an1 trivial) ?_;refine AWp.seq ?_;obtain⟨r8,hr8,h⟩:=bind_ok h;refine cA [] [(2,⟨[bC x7,.fn (.func 42) [.ptr 7 0]],[7],[7],[(7,.cells 3 [.i r8.2.2])],.tup [.i r8.1,.i r8.2.1],[],[],[1,2,3]⟩)] [7,8,9,1000001,1000002,1000003] [7] (an1 (cpT (aH.ren (bA 2000 7) (aD 2000 7) rfl (f41_ok _ _ _ hr8)))) ?_;refine tN ?_;refine aU [] [] ⟨19,[(4,.i r8.1),(5,.i r8.2.2),(6,.i r8.2.1)],[],[],0⟩ trivial ?_;have hret:=Option.some.inj h;subst hret;refine AWp.ret ?_;exact bR _ rfl ⟨rfl,rfl⟩ rfl
def mR (x1:List Y51) (K1:Ty3→Option (List Ty0)):Nat→(Nat×(List Tq5)×(List Tq4)×Ty8×(List Tq2)×Ty8×Ty5×Ty6)→Option (List Ty0)
 |0,_=>none
 |k+1,(n3,l4,l5,l6,l7,l8,l9,l10)=>
  if(decide ((n3:Int)<(((x1).length:Nat):Int)))then(
  chk ((n3:Int)<(((x1).length:Nat):Int))<|
  (f45 ((x1.getD n3 (default:Y51)).1) ((x1.getD n3 (default:Y51)).2.1) ((x1.getD n3 (default:Y51)).2.2.1) ((x1.getD n3 (default:Y51)).2.2.2.1) ((x1.getD n3 (default:Y51)).2.2.2.2.1) ((x1.getD n3 (default:Y51)).2.2.2.2.2.1) ((x1.getD n3 (default:Y51)).2.2.2.2.2.2) l4 l5 l6 l7 l8 l9 l10).bind fun(r11:(List Tq5)×(List Tq4)×Ty8×(List Tq2)×Ty8×Ty5×Ty6)=>
  chk (((n3:Int)+(1:Int))≤9223372036854775807)<|
  (mR x1 K1 k) ((n3+1),r11.1,r11.2.1,r11.2.2.1,r11.2.2.2.1,r11.2.2.2.2.1,r11.2.2.2.2.2.1,r11.2.2.2.2.2.2)
  )else(
  K1 (l4,l5,l6,l7,l8,l9,l10)
  )
def iP (l12:List Tq5) (l13:List Tq4):Nat→(List Ty0)→Option (List Ty0)
 |0,_=>none
 |k+1,l19=>
  if(!(hM l12 (((l19).length:Nat):Int)))=true then(
  some l19
  )else(
  if(gM l13 false (((l19).length:Nat):Int))then(
  some l19
  )else(
  chk (((l19).length+1) *16≤140737488355328)<|
  (iP l12 l13 k) (l19++[(gM l12 [] (((l19).length:Nat):Int))])
  )
  )
abbrev pT :List V:=[.own 6001,.own 6002,.own 6003,.own 6004,.own 6005,.own 6006,.own 6007]
abbrev f14z1 (r11:(List Tq5)×(List Tq4)×Ty8×(List Tq2)×Ty8×Ty5×Ty6):aK:=[(3,.cells 115 (pT)),(6001,bP (V.int .i64) 0 dP [] r11.1),(6002,bP (V.int .i64) 0 dV false r11.2.1),(6003,bP aM (default:Tq2) cC [] r11.2.2.1),(6004,bP (V.int .i64) 0 dU 0 r11.2.2.2.1),(6005,bP aM (default:Tq2) cC [] r11.2.2.2.2.1),(6006,bP bN (default:Tq0) eD false r11.2.2.2.2.2.1),(6007,bP bK (default:Tq2) eA false r11.2.2.2.2.2.2)]
abbrev f14z2 (l19:List Ty0) (l12:List Tq5) (l13:List Tq4) (l14:List Ty1) (l15:List Tq2) (l16:List Ty1) (l17:List (Tq0×Bool)) (l18:List (Tq2×Bool)):aK:=[(3,.cells 115 (pT)),(5006,bL 9 1 eS [] l19),(6001,bP (V.int .i64) 0 dP [] l12),(6002,bP (V.int .i64) 0 dV false l13),(6003,bP aM (default:Tq2) cC [] l14),(6004,bP (V.int .i64) 0 dU 0 l15),(6005,bP aM (default:Tq2) cC [] l16),(6006,bP bN (default:Tq0) eD false l17),(6007,bP bK (default:Tq2) eA false l18)]
abbrev f14z3 (r2:(List Tq5)×(List Tq4)×Ty8×(List Tq2)×Ty8×Ty5×Ty6):aK:=[(3,.cells 115 (pT)),(6001,bP (V.int .i64) 0 dP [] r2.1),(6002,bP (V.int .i64) 0 dV false r2.2.1),(6003,bP aM (default:Tq2) cC [] r2.2.2.1),(6004,bP (V.int .i64) 0 dU 0 r2.2.2.2.1),(6005,bP aM (default:Tq2) cC [] r2.2.2.2.2.1),(6006,bP bN (default:Tq0) eD false r2.2.2.2.2.2.1),(6007,bP bK (default:Tq2) eA false r2.2.2.2.2.2.2)]
abbrev f14z4 (l4:List Tq5) (l5:List Tq4) (l6:List Ty1) (l7:List Tq2) (l8:List Ty1) (l9:List (Tq0×Bool)) (l10:List (Tq2×Bool)):aK:=[(3,.cells 115 (pT)),(6001,bP (V.int .i64) 0 dP [] l4),(6002,bP (V.int .i64) 0 dV false l5),(6003,bP aM (default:Tq2) cC [] l6),(6004,bP (V.int .i64) 0 dU 0 l7),(6005,bP aM (default:Tq2) cC [] l8),(6006,bP bN (default:Tq0) eD false l9),(6007,bP bK (default:Tq2) eA false l10)]
abbrev f14z5 (l12:List Tq5) (l13:List Tq4) (l14:List Ty1) (l15:List Tq2) (l16:List Ty1) (l17:List (Tq0×Bool)) (l18:List (Tq2×Bool)):aK:=[(3,.cells 115 (pT)),(6001,bP (V.int .i64) 0 dP [] l12),(6002,bP (V.int .i64) 0 dV false l13),(6003,bP aM (default:Tq2) cC [] l14),(6004,bP (V.int .i64) 0 dU 0 l15),(6005,bP aM (default:Tq2) cC [] l16),(6006,bP bN (default:Tq0) eD false l17),(6007,bP bK (default:Tq2) eA false l18)]
abbrev f14z6 :=Ty8
abbrev f14z7 :List (Nat×V):=[(3,.ptr 3 0),(6,.own 5006)]
def f14 (x1:List Y51):Option (List Ty0):=
 (f44).bind fun(r2:(List Tq5)×(List Tq4)×Ty8×(List Tq2)×Ty8×Ty5×Ty6)=>
 jn (fun((l12,l13,l14,l15,l16,l17,l18):(List Tq5)×(List Tq4)×Ty8×(List Tq2)×Ty8×Ty5×Ty6)=>
 iP l12 l13 bG []
 ) fun(K1:Ty3→Option (List Ty0))=>
 mR x1 K1 bG (0,r2.1,r2.2.1,r2.2.2.1,r2.2.2.2.1,r2.2.2.2.2.1,r2.2.2.2.2.2.1,r2.2.2.2.2.2.2)
theorem f14_ok (x1:List Y51) (r:List Ty0) (h:f14 x1=some r):aH Tryz.prog 14 [] [] [] [vL 28 aAx (default:Y51) x1] (.own 3000) [(3000,bL 9 1 eS [] r)]:=by
 unfold f14 at h;refine aH.body 0 _ _ Tryz.func14 rfl Tryz.ntmps14 rfl rfl ?_;refine bJ [] [] [0] [] trivial ?_;refine AWp.seq ?_;obtain⟨r2,hr2,h⟩:=bind_ok h;refine aZ [] [(0,⟨[],[],[],(qmp 6001 r2.1 r2.2.1 r2.2.2.1 r2.2.2.2.1 r2.2.2.2.2.1 r2.2.2.2.2.2.1 r2.2.2.2.2.2.2),.agg (pT),[6001,6002,6003,6004,6005,6006,6007],[],[]⟩)] ⟨41,[(0,bC x1),(3,.ptr 3 0)],(f14z3 r2),[],0⟩ (an2 (cpT (aH.ren (bA 3006 6007) (aD 3006 6007) rfl (aH.ren (bA 3005 6006) (aD 3005 6006) rfl (aH.ren (bA 3004 6005) (aD 3004 6005) rfl (aH.ren (bA 3003 6004) (aD 3003 6004) rfl (aH.ren (bA 3002 6003) (aD 3002 6003) rfl (aH.ren (bA 3001 6002) (aD 3001 6002) rfl (aH.ren (bA 3000 6001) (aD 3000 6001) rfl (f44_ok _ hr2))))))))) trivial) ?_;refine tN ?_;obtain⟨K1,hK1,h⟩:=aS h;refine AWp.join (fun(x:(List Tq5)×(List Tq4)×(f14z6)×(List Tq2)×(f14z6)×Ty5×Ty6)=>match x with|(l12,l13,l14,l15,l16,l17,l18)=>⟨41,[(3,.ptr 3 0)],(f14z5 l12 l13 l14 l15 l16 l17 l18),[],0⟩) (fun x=>K1 x=some r) ?_ ?_
 ·
  refine aU [] [] ⟨41,[(3,.ptr 3 0),(10,bC x1),(11,.i (lZ x1)),(12,.i (0:Int))],(f14z3 r2),[],0⟩ trivial ?_;refine AWp.block ?_;refine AWp.loopL (α:=Nat×(Nat×(List Tq5)×(List Tq4)×(f14z6)×(List Tq2)×(f14z6)×Ty5×Ty6)) (fun x=>match x with|(_,n3,l4,l5,l6,l7,l8,l9,l10)=>⟨41,[(3,.ptr 3 0),(10,bC x1),(11,.i (lZ x1)),(12,.i (n3:Int))],(f14z4 l4 l5 l6 l7 l8 l9 l10),[],0⟩) (fun x=>mR x1 K1 x.1 x.2=some r) (fun x=>x.1) (bG,0,r2.1,r2.2.1,r2.2.2.1,r2.2.2.2.1,r2.2.2.2.2.1,r2.2.2.2.2.2.1,r2.2.2.2.2.2.2) (LR (s':=⟨41,[(3,.ptr 3 0),(10,bC x1),(11,.i (lZ x1)),(12,.i (0:Int))],(f14z3 r2),[],0⟩)) h ?_
  rintro⟨k0,n3,l4,l5,l6,l7,l8,l9,l10⟩ h
  cases k0 with
  |zero=>exact nomatch (show none=some r from h)
  |succ k0=>
  obtain⟨C0,hC0⟩:∃C,C=mR x1 K1 k0:=⟨_,rfl⟩;replace h:=(mR.eq_2 ..).symm.trans h
  try rw[←hC0]at h
  refine aU [] [] ⟨41,[(3,.ptr 3 0),(10,bC x1),(11,.i (lZ x1)),(12,.i (n3:Int)),(13,.bool (decide ((n3:Int)<(lZ x1))))],(f14z4 l4 l5 l6 l7 l8 l9 l10),[],0⟩ trivial ?_;refine AWp.seq ?_;refine AWp.cond (b:=(decide ((n3:Int)<(lZ x1)))) (by kernel_rfl) (fun hc1=> ?_) (fun hc1=> ?_)
  ·
   replace h:=aE hc1 h;refine AWp.skip (tN (AWp.seq (AWp.block (AWp.seq ?_))));obtain⟨ob0p,h⟩:=aB h;have ob0:0≤(n3:Int)∧(n3:Int)<(((x1).length:Nat):Int):=⟨by omega,ob0p⟩;refine cA [] [] [3,5,10,11,12] [3,5,6001,6002,6003,6004,6005,6006,6007] (an2 ob0 trivial) ?_;refine tN ?_;obtain⟨r11,hr11,h⟩:=bind_ok h;refine aZ [] [(1,⟨[.ptr 3 0,.agg (qpt (x1.getD n3 aL))],[3,6001,6002,6003,6004,6005,6006,6007],[3],(f14z1 r11),.tup [],[6001,6002,6003,6004,6005,6006,6007],[],[]⟩)] ⟨41,[(3,.ptr 3 0),(10,bC x1),(11,.i (lZ x1)),(12,.i (n3:Int))],(f14z1 r11),[],0⟩ (an1 (cpT (aH.ren (bA 2007 6007) (aD 2007 6007) rfl (aH.ren (bA 2006 6006) (aD 2006 6006) rfl (aH.ren (bA 2005 6005) (aD 2005 6005) rfl (aH.ren (bA 2004 6004) (aD 2004 6004) rfl (aH.ren (bA 2003 6003) (aD 2003 6003) rfl (aH.ren (bA 2002 6002) (aD 2002 6002) rfl (aH.ren (bA 2001 6001) (aD 2001 6001) rfl (aH.ren (bA 2000 3) (aD 2000 3) rfl (f45_ok _ _ _ _ _ _ _ _ _ _ _ _ _ _ _ hr11))))))))))) ?_;refine kN (tN ?_);obtain⟨ob1p,h⟩:=aB h;have ob1: -9223372036854775808≤((n3:Int)+(1:Int))∧((n3:Int)+(1:Int))≤9223372036854775807:=⟨by omega,ob1p⟩;refine aZ [] [] ⟨41,[(3,.ptr 3 0),(10,bC x1),(11,.i (lZ x1)),(12,.i (((n3+1):Nat):Int))],(f14z1 r11),[],0⟩ (an1 ob1) ?_;rw[hC0]at h;exact lN (_,(n3+1),r11.1,r11.2.1,r11.2.2.1,r11.2.2.2.1,r11.2.2.2.2.1,r11.2.2.2.2.2.1,r11.2.2.2.2.2.2) LR h (Nat.lt_succ_self _)
  ·
   replace h:=aF hc1 h;refine AWp.exit (tE (tE (kS ?_)));exact jN (l4,l5,l6,l7,l8,l9,l10) LR h
 ·
  rintro⟨l12,l13,l14,l15,l16,l17,l18⟩ h;replace h:=(congrFun hK1 _).symm.trans h;refine aU [] [] ⟨41,[(3,.ptr 3 0),(6,.nils)],(f14z5 l12 l13 l14 l15 l16 l17 l18),[],0⟩ trivial ?_;refine AWp.block ?_;refine AWp.loopL (α:=Nat×(List Ty0)) (fun x=>match x with|(_,l19)=>⟨41,(f14z7),(f14z2 l19 l12 l13 l14 l15 l16 l17 l18),[],0⟩) (fun x=>iP l12 l13 x.1 x.2=some r) (fun x=>x.1) (bG,[]) (Le.trans (Le.trans (Le.nilOwn 6 5006 9 1 (cD eS [] []) rfl rfl (Nat.le_of_ble_eq_true rfl)) (LR (s':=⟨41,(f14z7),[(3,.cells 115 (pT)),(6001,bP (V.int .i64) 0 dP [] l12),(6002,bP (V.int .i64) 0 dV false l13),(6003,bP aM bI cC [] l14),(6004,bP (V.int .i64) 0 dU 0 l15),(6005,bP aM bI cC [] l16),(6006,bP bN bB eD false l17),(6007,bP bK bI eA false l18),(5006,aG [])],[],0⟩))) (LR (s':=⟨41,(f14z7),((3,.cells 115 (pT))::(5006,aG [])::qmp 6001 l12 l13 l14 l15 l16 l17 l18),[],0⟩))) h ?_
  rintro⟨k1,l19⟩ h
  cases k1 with
  |zero=>exact nomatch (show none=some r from h)
  |succ k1=>
  obtain⟨C1,hC1⟩:∃C,C=iP l12 l13 k1:=⟨_,rfl⟩;replace h:=(iP.eq_2 ..).symm.trans h
  try rw[←hC1]at h
  refine AWp.block ?_;refine aU [] [(4,⟨[.own 6001,.i (lZ l19)],[6001],[6001],[(6001,bP (V.int .i64) 0 dP [] l12)],.tup [.str (gM l12 [] (lZ l19)),.bool (hM l12 (lZ l19))],[],[],[]⟩)] ⟨41,[(3,.ptr 3 0),(6,.own 5006),(7,.str (gM l12 [] (lZ l19))),(8,.bool (hM l12 (lZ l19)))],(f14z2 l19 l12 l13 l14 l15 l16 l17 l18),[],0⟩ (an1 (And.intro (dQ (P:=Tryz.prog) Tryz.underlying108 (V.int .i64) kE108 0 dP [] [] (by kernel_rfl) (.tmp 21) (.tmp 23) 118 6001 l12 (lZ l19)) (eJ.same [.own 6001,.i (lZ l19)]))) ?_;refine AWp.seq (AWp.seq ?_);by_cases hg9_2:(!(hM l12 (((l19).length:Nat):Int)))=true
  ·
   replace h:=uB hg9_2 h;have ob2:=idA (false=true);have ob3:=idA (false=true);have ob4:true=true→true=false→false=true:=by first|decide|omega|simp|(intro h;cases h)
   refine aZ [] [(2,⟨[],[],[],[],(.bool true),[],[0],[]⟩),(7,⟨[],[],[],[],.bool (gM l13 false (lZ l19)),[],[],[]⟩)] ⟨41,[(3,.ptr 3 0),(6,.own 5006),(7,.str (gM l12 [] (lZ l19))),(35,.bool true)],(f14z2 l19 l12 l13 l14 l15 l16 l17 l18),[],0⟩ (an5 (show((.bool (!(hM l12 (lZ l19)))):V)=(.bool true)from(congrArg (fun x=>((.bool x):V)) hg9_2)) (an1 ob2) (an1 ob3) trivial ob4) ?_;refine tN ?_;refine AWp.cond (b:=true) (by kernel_rfl) (fun hc=> ?_) (fun hc=> ?_)
   ·
    clear hc;refine aU [] [] ⟨41,[(2,.own 5006)],[(5006,aG l19)],[],0⟩ trivial ?_;refine AWp.le (Le.trans (Le.ren (bA 5006 3000) (aD 5006 3000) rfl) (LR (s':=⟨41,[(2,.own 3000)],[(3000,aG l19)],[],0⟩))) ?_;have hret:=Option.some.inj h;subst hret;refine AWp.le (LR (s':=⟨41,[(2,.own 3000)],[(3000,aG l19)],[],0⟩)) ?_;refine AWp.ret (tR (kR (tR (kR ?_))));exact bR _ rfl ⟨rfl,rfl⟩ rfl
   ·
    cases hc
  ·
   replace h:=uC hg9_2 h;have ob2:=idA (true=true);have ob3:=idA (true=true);have ob4:=idA (true=true);have ob5:=idA (true=true);refine cA [] [(2,⟨[],[],[],[],(.bool false),[],[0],[]⟩),(7,⟨[.own 6002,.i (lZ l19)],[6002],[6002],[(6002,bP (V.int .i64) 0 dV false l13)],.bool (gM l13 false (lZ l19)),[],[],[]⟩)] [3,6,7,35] [3,5006,6001,6002,6003,6004,6005,6006,6007] (an5 (show((.bool (!(hM l12 (lZ l19)))):V)=(.bool false)from(congrArg (fun x=>((.bool x):V)) (Bool.eq_false_iff.2 hg9_2))) (an1 ob2) (an1 ob3) (And.intro (And.intro (fA (P:=Tryz.prog) Tryz.underlying109 (V.int .i64) kE109 0 dV false false (by kernel_rfl) (.tmp 31) (.tmp 33) 4 6002 l13 (lZ l19)) (eJ.same [.own 6002,.i (lZ l19)])) (an2 ob4 ob5)) trivial) ?_;refine tN ?_;refine AWp.cond (b:=(gM l13 false (lZ l19))) (by kernel_rfl) (fun hc3=> ?_) (fun hc3=> ?_)
   ·
    replace h:=aE hc3 h;refine aU [] [] ⟨41,[(2,.own 5006)],[(5006,aG l19)],[],0⟩ trivial ?_;refine AWp.le (Le.trans (Le.ren (bA 5006 3000) (aD 5006 3000) rfl) (LR (s':=⟨41,[(2,.own 3000)],[(3000,aG l19)],[],0⟩))) ?_;have hret:=Option.some.inj h;subst hret;refine AWp.le (LR (s':=⟨41,[(2,.own 3000)],[(3000,aG l19)],[],0⟩)) ?_;refine AWp.ret (tR (kR (tR (kR ?_))));exact bR _ rfl ⟨rfl,rfl⟩ rfl
   ·
    replace h:=aF hc3 h;refine AWp.skip (tN ?_);obtain⟨ob6,h⟩:=aB h;refine aZ [] [] ⟨41,(f14z7),((3,.cells 115 (pT))::(5006,.rows 9 1 ((l19).length+1) (gF (l19).length (cD eS [] l19) (dH 1 [.str (gM l12 [] (lZ l19))])))::qmp 6001 l12 l13 l14 l15 l16 l17 l18),[],0⟩ (an1 ob6) ?_;refine kN ?_;rw[hC1]at h;exact lN (_,(l19++[(gM l12 [] (lZ l19))])) (Le.trans (Le.mk (s':=⟨41,(f14z7),((3,.cells 115 (pT))::(5006,aG (l19++[(gM l12 [] (lZ l19))]))::qmp 6001 l12 l13 l14 l15 l16 l17 l18),[],0⟩) rfl rfl ⟨.refl _,.refl _,trivial⟩ ⟨⟨_,rfl,.refl _⟩,⟨_,rfl,(BLe.of (RL.app (RL.self _) (RL.lst (enc:=eS) [(gM l12 [] (lZ l19))] rfl rfl (fun _=>rfl))))⟩,⟨_,rfl,.refl _⟩,⟨_,rfl,.refl _⟩,⟨_,rfl,.refl _⟩,⟨_,rfl,.refl _⟩,⟨_,rfl,.refl _⟩,⟨_,rfl,.refl _⟩,⟨_,rfl,.refl _⟩,trivial⟩) LR) h (Nat.lt_succ_self _)
def mP (x1 x2:List Ty0) (K1:Unit→Option Bool):Nat→Nat→Option Bool
 |0,_=>none
 |k+1,n3=>
  if(decide ((n3:Int)<(((x1).length:Nat):Int)))then(
  chk ((n3:Int)<(((x1).length:Nat):Int))<|
  chk ((n3:Int)<(((x2).length:Nat):Int))<|
  if(!((x1.getD n3 [])==(x2.getD n3 [])))then(
  some false
  )else(
  chk (((n3:Int)+(1:Int))≤9223372036854775807)<|
  (mP x1 x2 K1 k) (n3+1)
  )
  )else(
  K1 ()
  )
def f15 (x1 x2:List Ty0):Option Bool:=
 if((((x1).length:Nat):Int) !=(((x2).length:Nat):Int))then(
 some false
 )else(
 jn (fun(_:Unit)=>
 some true
 ) fun(K1:Unit→Option Bool)=>
 mP x1 x2 K1 bG 0
 )
theorem f15_ok (x1 x2:List Ty0) (r:Bool) (h:f15 x1 x2=some r):aH Tryz.prog 15 [] [] [] [vL 1 eS [] x1,vL 1 eS [] x2] (.bool r) []:=by
 unfold f15 at h;refine aH.body 0 _ _ Tryz.func15 rfl Tryz.ntmps15 rfl rfl ?_;refine bJ [] [] [0,1] [] trivial ?_;refine AWp.seq ?_;refine aU [] [] ⟨26,[(0,cS x1),(1,cS x2),(10,.bool ((lZ x1) !=(lZ x2)))],[],[],0⟩ trivial ?_;refine AWp.cond (b:=((lZ x1) !=(lZ x2))) (by kernel_rfl) (fun hc1=> ?_) (fun hc1=> ?_)
 ·
  replace h:=aE hc1 h;refine aU [] [] ⟨26,[(4,.bool false)],[],[],0⟩ trivial ?_;have hret:=Option.some.inj h;subst hret;refine AWp.ret (tR ?_);exact bR _ rfl ⟨rfl,rfl⟩ rfl
 ·
  replace h:=aF hc1 h;refine AWp.skip (tN ?_);obtain⟨K1,hK1,h⟩:=aS h;refine AWp.join (fun(x:Unit)=>match x with|()=>⟨26,[],[],[],0⟩) (fun x=>K1 x=some r) ?_ ?_
  ·
   refine aU [] [] ⟨26,[(0,cS x1),(1,cS x2),(5,.i (0:Int))],[],[],0⟩ trivial ?_;refine AWp.block ?_;refine AWp.loopL (α:=Nat×Nat) (fun x=>match x with|(_,n3)=>⟨26,[(0,cS x1),(1,cS x2),(5,.i (n3:Int))],[],[],0⟩) (fun x=>mP x1 x2 K1 x.1 x.2=some r) (fun x=>x.1) (bG,0) (LR (s':=⟨26,[(0,cS x1),(1,cS x2),(5,.i (0:Int))],[],[],0⟩)) h ?_
   rintro⟨k0,n3⟩ h
   cases k0 with
   |zero=>exact nomatch (show none=some r from h)
   |succ k0=>
   obtain⟨C0,hC0⟩:∃C,C=mP x1 x2 K1 k0:=⟨_,rfl⟩;replace h:=(mP.eq_2 ..).symm.trans h
   try rw[←hC0]at h
   refine AWp.seq ?_;refine aU [] [] ⟨26,[(0,cS x1),(1,cS x2),(5,.i (n3:Int)),(14,.bool (decide ((n3:Int)<(lZ x1))))],[],[],0⟩ trivial ?_;refine AWp.cond (b:=(decide ((n3:Int)<(lZ x1)))) (by kernel_rfl) (fun hc2=> ?_) (fun hc2=> ?_)
   ·
    replace h:=aE hc2 h;refine AWp.skip (tN (AWp.seq (AWp.block (AWp.seq ?_))));obtain⟨ob0p,h⟩:=aB h;have ob0:0≤(n3:Int)∧(n3:Int)<(((x1).length:Nat):Int):=⟨by omega,ob0p⟩;obtain⟨ob1p,h⟩:=aB h;have ob1:0≤(n3:Int)∧(n3:Int)<(((x2).length:Nat):Int):=⟨by omega,ob1p⟩;refine aZ [] [] ⟨26,[(0,cS x1),(1,cS x2),(5,.i (n3:Int)),(25,.bool (!((x1.getD n3 [])==(x2.getD n3 []))))],[],[],0⟩ (an2 ob0 ob1) ?_;refine tN ?_;refine AWp.cond (b:=(!((x1.getD n3 [])==(x2.getD n3 [])))) (by kernel_rfl) (fun hc3=> ?_) (fun hc3=> ?_)
    ·
     replace h:=aE hc3 h;refine aU [] [] ⟨26,[(4,.bool false)],[],[],0⟩ trivial ?_;have hret:=Option.some.inj h;subst hret;refine AWp.ret (kR (tR (tR (kR (aY ?_)))));exact bR _ rfl ⟨rfl,rfl⟩ rfl
    ·
     replace h:=aF hc3 h;refine AWp.skip (kN (tN ?_));obtain⟨ob2p,h⟩:=aB h;have ob2: -9223372036854775808≤((n3:Int)+(1:Int))∧((n3:Int)+(1:Int))≤9223372036854775807:=⟨by omega,ob2p⟩;refine aZ [] [] ⟨26,[(0,cS x1),(1,cS x2),(5,.i (((n3+1):Nat):Int))],[],[],0⟩ (an1 ob2) ?_;rw[hC0]at h;exact lN (_,(n3+1)) LR h (Nat.lt_succ_self _)
   ·
    replace h:=aF hc2 h;refine AWp.exit (tE (tE (kS ?_)));exact jN () LR h
  ·
   rintro⟨⟩ h;replace h:=(congrFun hK1 _).symm.trans h;refine aU [] [] ⟨26,[(4,.bool true)],[],[],0⟩ trivial ?_;have hret:=Option.some.inj h;subst hret;refine AWp.ret ?_;exact bR _ rfl ⟨rfl,rfl⟩ rfl
abbrev aBe (r1:Tq3) (r2:Tq6):=((((r1.2.2.2==(0:Int))&&((r1.1==(0:Int))&&((r1.2.1==(0:Int))&&((r1.2.2.1==(12:Int))&&true))))&&(r2.2.2==(0:Int)))&&(r2.1==(1:Int)))
abbrev f11z1 (r1:Tq3) (r2 r3 r4:Tq6):=((((aBe r1 r2)&&(r2.2.1==(1:Int)))&&(r3.2.2==(13:Int)))&&(r4.2.2==(0:Int)))
abbrev xY (r1:Tq3):=((r1.2.2.2==(0:Int))&&((r1.1==(0:Int))&&((r1.2.1==(0:Int))&&((r1.2.2.1==(12:Int))&&true))))
abbrev bS :=([118]:List UInt8)
abbrev bZ :=([119]:List UInt8)
abbrev pU (r1:Tq3) (r2 r3 r4:Tq6):=((f11z1 r1 r2 r3 r4)&&(r4.2.1==(3:Int)))
abbrev xX (r1:Tq3) (r2:Tq6):=((aBe r1 r2)&&(r2.2.1==(1:Int)))
abbrev f11z7 (r1:Tq3):List V:=[.int .i64 r1.1,.int .i64 r1.2.1,.int .i64 r1.2.2.1]
abbrev aBd (r1:Tq3):=((r1.2.2.2==(0:Int))==true)
abbrev vS :=Ty7
abbrev aAp (r1:Tq3) (r2:Tq6):=(((xY r1)&&(r2.2.2==(0:Int)))==true)
abbrev aAo (r1:Tq3) (r2 r3:Tq6):=(((xX r1 r2)&&(r3.2.2==(13:Int)))==true)
def f11  :Option Bool:=
 (f22 ([(((0:Int),(4:Int),(0:Int),(0:Int),(0:Int),([118]:List UInt8),[]):Y51),(((0:Int),(3:Int),(0:Int),(0:Int),(0:Int),([119]:List UInt8),[]):Y51)])).bind fun(r1:Tq3)=>
 (f13 [] [] (BitVec.ofInt 16 0) [] [] [] ([(((0:Int),(4:Int),(0:Int),(0:Int),(0:Int),([118]:List UInt8),[]):Y51),(((0:Int),(3:Int),(0:Int),(0:Int),(0:Int),([119]:List UInt8),[]):Y51)])).bind fun(r2:Tq6)=>
 chk ((0:Int)<((([(((0:Int),(4:Int),(0:Int),(0:Int),(0:Int),([118]:List UInt8),[]):Y51),(((0:Int),(3:Int),(0:Int),(0:Int),(0:Int),([119]:List UInt8),[]):Y51)]).length:Nat):Int))<|
 chk (0<([(((0:Int),(4:Int),(0:Int),(0:Int),(0:Int),([118]:List UInt8),[]):Y51),(((0:Int),(3:Int),(0:Int),(0:Int),(0:Int),([119]:List UInt8),[]):Y51)]).length)<|
 (f13 [] [] (BitVec.ofInt 16 0) [] [] [] ([(((([(((0:Int),(4:Int),(0:Int),(0:Int),(0:Int),([118]:List UInt8),[]):Y51),(((0:Int),(3:Int),(0:Int),(0:Int),(0:Int),([119]:List UInt8),[]):Y51)]).getD 0 (default:Y51)).1,(([(((0:Int),(4:Int),(0:Int),(0:Int),(0:Int),([118]:List UInt8),[]):Y51),(((0:Int),(3:Int),(0:Int),(0:Int),(0:Int),([119]:List UInt8),[]):Y51)]).getD 0 (default:Y51)).2.1,(([(((0:Int),(4:Int),(0:Int),(0:Int),(0:Int),([118]:List UInt8),[]):Y51),(((0:Int),(3:Int),(0:Int),(0:Int),(0:Int),([119]:List UInt8),[]):Y51)]).getD 0 (default:Y51)).2.2.1,(([(((0:Int),(4:Int),(0:Int),(0:Int),(0:Int),([118]:List UInt8),[]):Y51),(((0:Int),(3:Int),(0:Int),(0:Int),(0:Int),([119]:List UInt8),[]):Y51)]).getD 0 (default:Y51)).2.2.2.1,(([(((0:Int),(4:Int),(0:Int),(0:Int),(0:Int),([118]:List UInt8),[]):Y51),(((0:Int),(3:Int),(0:Int),(0:Int),(0:Int),([119]:List UInt8),[]):Y51)]).getD 0 (default:Y51)).2.2.2.2.1,(([(((0:Int),(4:Int),(0:Int),(0:Int),(0:Int),([118]:List UInt8),[]):Y51),(((0:Int),(3:Int),(0:Int),(0:Int),(0:Int),([119]:List UInt8),[]):Y51)]).getD 0 (default:Y51)).2.2.2.2.2.1,(([(((0:Int),(4:Int),(0:Int),(0:Int),(0:Int),([118]:List UInt8),[]):Y51),(((0:Int),(3:Int),(0:Int),(0:Int),(0:Int),([119]:List UInt8),[]):Y51)]).getD 0 (default:Y51)).2.2.2.2.2.2):Y51),(((0:Int),(3:Int),(0:Int),(0:Int),(0:Int),([118]:List UInt8),[]):Y51)])).bind fun(r3:Tq6)=>
 (f13 [] [] (BitVec.ofInt 16 0) [] [] [] ([(((0:Int),(2:Int),(0:Int),(0:Int),(1:Int),[],([111,107,32,49]:List UInt8)):Y51)])).bind fun(r4:Tq6)=>
 (f13 [] [] (BitVec.ofInt 16 0) [] [] [] ([(((0:Int),(3:Int),(0:Int),(1:Int),(0:Int),([118]:List UInt8),[]):Y51)])).bind fun(r5:Tq6)=>
 if((((((((((r1.2.2.2==(0:Int))&&((r1.1==(0:Int))&&((r1.2.1==(0:Int))&&((r1.2.2.1==(12:Int))&&true))))&&(r2.2.2==(0:Int)))&&(r2.1==(1:Int)))&&(r2.2.1==(1:Int)))&&(r3.2.2==(13:Int)))&&(r4.2.2==(0:Int)))&&(r4.2.1==(3:Int)))&&(r5.2.2==(0:Int)))&&(r5.2.1==(2:Int)))=true then(
 (f14 ([(((([(((0:Int),(4:Int),(0:Int),(0:Int),(0:Int),([118]:List UInt8),[]):Y51),(((0:Int),(3:Int),(0:Int),(0:Int),(0:Int),([119]:List UInt8),[]):Y51)]).getD 0 (default:Y51)).1,(([(((0:Int),(4:Int),(0:Int),(0:Int),(0:Int),([118]:List UInt8),[]):Y51),(((0:Int),(3:Int),(0:Int),(0:Int),(0:Int),([119]:List UInt8),[]):Y51)]).getD 0 (default:Y51)).2.1,(([(((0:Int),(4:Int),(0:Int),(0:Int),(0:Int),([118]:List UInt8),[]):Y51),(((0:Int),(3:Int),(0:Int),(0:Int),(0:Int),([119]:List UInt8),[]):Y51)]).getD 0 (default:Y51)).2.2.1,(([(((0:Int),(4:Int),(0:Int),(0:Int),(0:Int),([118]:List UInt8),[]):Y51),(((0:Int),(3:Int),(0:Int),(0:Int),(0:Int),([119]:List UInt8),[]):Y51)]).getD 0 (default:Y51)).2.2.2.1,(([(((0:Int),(4:Int),(0:Int),(0:Int),(0:Int),([118]:List UInt8),[]):Y51),(((0:Int),(3:Int),(0:Int),(0:Int),(0:Int),([119]:List UInt8),[]):Y51)]).getD 0 (default:Y51)).2.2.2.2.1,(([(((0:Int),(4:Int),(0:Int),(0:Int),(0:Int),([118]:List UInt8),[]):Y51),(((0:Int),(3:Int),(0:Int),(0:Int),(0:Int),([119]:List UInt8),[]):Y51)]).getD 0 (default:Y51)).2.2.2.2.2.1,(([(((0:Int),(4:Int),(0:Int),(0:Int),(0:Int),([118]:List UInt8),[]):Y51),(((0:Int),(3:Int),(0:Int),(0:Int),(0:Int),([119]:List UInt8),[]):Y51)]).getD 0 (default:Y51)).2.2.2.2.2.2):Y51),(((0:Int),(3:Int),(0:Int),(0:Int),(0:Int),([118]:List UInt8),[]):Y51)])).bind fun(r6:List Ty0)=>
 (f15 r6 ([([118]:List UInt8)])).bind fun(r7:Bool)=>
 some r7
 )else(
 some false
 )
theorem f11_ok (r:Bool) (h:f11=some r):aH Tryz.prog 11 [(1,.tab .u64 Lib.pow10Tab),(2,bF),(3,bF)] [] [] [] (.bool r) []:=by
 unfold f11 at h;refine aH.body 0 _ _ Tryz.func11 rfl Tryz.ntmps11 rfl rfl ?_;refine bJ [] [] [1000001,1000002,1000003] [] trivial ?_;refine bJ [] [] [1,1000001,1000002,1000003] [1] (an1 trivial) ?_;refine aU [] [] ⟨107,[(1,.ptr 1 0),(2,.own 21),(1000001,.tab .u64 Lib.pow10Tab),(1000002,bF),(1000003,bF)],[(1,.cells 37 [.nils,.nils,.b16 (kK 0),.nils,.nils,.nils]),(21,.rows 51 28 2 (dH 28 [.i (0:Int),.i (4:Int),.i (0:Int),.i (0:Int),.i (0:Int),.str (bS),.str [],.i (0:Int),.i (0:Int),.i (0:Int),.i (0:Int),.i (0:Int),.str [],.i (0:Int),.i (0:Int),.i (0:Int),.i (0:Int),.i (0:Int),.str [],.str [],.nils,.nils,.i (0:Int),.str [],.nils,.nils,.nils,.nils,.i (0:Int),.i (3:Int),.i (0:Int),.i (0:Int),.i (0:Int),.str (bZ),.str [],.i (0:Int),.i (0:Int),.i (0:Int),.i (0:Int),.i (0:Int),.str [],.i (0:Int),.i (0:Int),.i (0:Int),.i (0:Int),.i (0:Int),.str [],.str [],.nils,.nils,.i (0:Int),.str [],.nils,.nils,.nils,.nils]))],[],0⟩ trivial ?_;refine AWp.le (Le.mk (s':=⟨107,[(1,.ptr 1 0),(2,.own 21),(1000001,.tab .u64 Lib.pow10Tab),(1000002,bF),(1000003,bF)],[(1,.cells 37 [.nils,.nils,.b16 (kK 0),.nils,.nils,.nils]),(21,aI [(((0:Int),(4:Int),(0:Int),(0:Int),(0:Int),(bS),[]):Y51),(((0:Int),(3:Int),(0:Int),(0:Int),(0:Int),(bZ),[]):Y51)])],[],0⟩) rfl rfl ⟨.refl _,.refl _,.refl _,.refl _,.refl _,trivial⟩ ⟨⟨_,rfl,.refl _⟩,⟨_,rfl,(BLe.of (RL.lstV (enc:=aAx) [(((0:Int),(4:Int),(0:Int),(0:Int),(0:Int),(bS),[]):Y51),(((0:Int),(3:Int),(0:Int),(0:Int),(0:Int),(bZ),[]):Y51)] rfl ⟨.refl _,.refl _,.refl _,.refl _,.refl _,.refl _,.refl _,VLe.opq rfl,VLe.opq rfl,VLe.opq rfl,VLe.opq rfl,VLe.opq rfl,VLe.opq rfl,VLe.opq rfl,VLe.opq rfl,VLe.opq rfl,VLe.opq rfl,VLe.opq rfl,VLe.opq rfl,VLe.opq rfl,VLe.opq rfl,VLe.opq rfl,VLe.opq rfl,VLe.opq rfl,VLe.opq rfl,VLe.opq rfl,VLe.opq rfl,VLe.opq rfl,.refl _,.refl _,.refl _,.refl _,.refl _,.refl _,.refl _,VLe.opq rfl,VLe.opq rfl,VLe.opq rfl,VLe.opq rfl,VLe.opq rfl,VLe.opq rfl,VLe.opq rfl,VLe.opq rfl,VLe.opq rfl,VLe.opq rfl,VLe.opq rfl,VLe.opq rfl,VLe.opq rfl,VLe.opq rfl,VLe.opq rfl,VLe.opq rfl,VLe.opq rfl,VLe.opq rfl,VLe.opq rfl,VLe.opq rfl,VLe.opq rfl,trivial⟩ (fun _=>rfl)))⟩,trivial⟩) ?_;refine AWp.seq ?_;obtain⟨r1,hr1,h⟩:=bind_ok h;refine cA [] [(1,⟨[bC [(((0:Int),(4:Int),(0:Int),(0:Int),(0:Int),(bS),[]):Y51),(((0:Int),(3:Int),(0:Int),(0:Int),(0:Int),(bZ),[]):Y51)]],[],[],[],.tup [.agg (f11z7 r1),.i r1.2.2.2],[],[21],[]⟩)] [1,2,3,4,1000001,1000002,1000003] [1,3,21] (an2 (cpL (c:=true) [(21,aI [(((0:Int),(4:Int),(0:Int),(0:Int),(0:Int),(bS),[]):Y51),(((0:Int),(3:Int),(0:Int),(0:Int),(0:Int),(bZ),[]):Y51)])] [21] [.own 21] (fun _=>(f22_ok _ _ hr1)) (fun _=>⟨.refl _,trivial⟩) (.inr ⟨rfl,trivial⟩)) trivial) ?_;refine tN (AWp.seq ?_);obtain⟨r2,hr2,h⟩:=bind_ok h;refine cA [] [(2,⟨[.agg [cS [],q1aSW [],.b16 (kK 0),vL 6 eT73 (default:List UInt8×Int×BitVec 16×List (BitVec 16)×List (BitVec 16)×(vS)) [],kL [],vL 3 lQ (default:List UInt8×Bool×(vS)) []],bC [(((0:Int),(4:Int),(0:Int),(0:Int),(0:Int),(bS),[]):Y51),(((0:Int),(3:Int),(0:Int),(0:Int),(0:Int),(bZ),[]):Y51)]],[],[],[],.tup [.i r2.1,.i r2.2.1,.i r2.2.2],[],[21],[1,2,3]⟩)] [1,2,3,4,5,6,7,1000001,1000002,1000003] [1,3,21] (an1 (cpL (c:=true) [(21,aI [(((0:Int),(4:Int),(0:Int),(0:Int),(0:Int),(bS),[]):Y51),(((0:Int),(3:Int),(0:Int),(0:Int),(0:Int),(bZ),[]):Y51)])] [21] [.agg [.nils,.nils,.b16 (kK 0),.nils,.nils,.nils],.own 21] (fun _=>(vJ _ _ _ _ _ _ _ _ hr2)) (fun _=>⟨(.aggs ⟨.nilL,.nilL,.refl _,.nilL,.nilL,.nilL,trivial⟩),.refl _,trivial⟩) (.inr ⟨rfl,trivial⟩))) ?_;refine tN (AWp.seq ?_);obtain⟨ob0p,h⟩:=aB h;have ob0:0≤(0:Int)∧(0:Int)<((([(((0:Int),(4:Int),(0:Int),(0:Int),(0:Int),([118]:List UInt8),[]):Y51),(((0:Int),(3:Int),(0:Int),(0:Int),(0:Int),([119]:List UInt8),[]):Y51)]).length:Nat):Int):=⟨by omega,ob0p⟩;obtain⟨ob1,h⟩:=aB h;refine aZ [] [] ⟨107,[(1,.ptr 1 0),(3,.ptr 3 0),(4,.i r1.2.2.2),(5,.i r2.1),(6,.i r2.2.1),(7,.i r2.2.2),(8,.own 38),(1000001,.tab .u64 Lib.pow10Tab),(1000002,bF),(1000003,bF)],[(1,.cells 37 [.nils,.nils,.b16 (kK 0),.nils,.nils,.nils]),(3,.cells 60 (f11z7 r1)),(38,.rows 51 28 2 (dH 28 [.i (([(((0:Int),(4:Int),(0:Int),(0:Int),(0:Int),(bS),[]):Y51),(((0:Int),(3:Int),(0:Int),(0:Int),(0:Int),(bZ),[]):Y51)]).getD 0 aL).1,.i (([(((0:Int),(4:Int),(0:Int),(0:Int),(0:Int),(bS),[]):Y51),(((0:Int),(3:Int),(0:Int),(0:Int),(0:Int),(bZ),[]):Y51)]).getD 0 aL).2.1,.i (([(((0:Int),(4:Int),(0:Int),(0:Int),(0:Int),(bS),[]):Y51),(((0:Int),(3:Int),(0:Int),(0:Int),(0:Int),(bZ),[]):Y51)]).getD 0 aL).2.2.1,.i (([(((0:Int),(4:Int),(0:Int),(0:Int),(0:Int),(bS),[]):Y51),(((0:Int),(3:Int),(0:Int),(0:Int),(0:Int),(bZ),[]):Y51)]).getD 0 aL).2.2.2.1,.i (([(((0:Int),(4:Int),(0:Int),(0:Int),(0:Int),(bS),[]):Y51),(((0:Int),(3:Int),(0:Int),(0:Int),(0:Int),(bZ),[]):Y51)]).getD 0 aL).2.2.2.2.1,.str (([(((0:Int),(4:Int),(0:Int),(0:Int),(0:Int),(bS),[]):Y51),(((0:Int),(3:Int),(0:Int),(0:Int),(0:Int),(bZ),[]):Y51)]).getD 0 aL).2.2.2.2.2.1,.str (([(((0:Int),(4:Int),(0:Int),(0:Int),(0:Int),(bS),[]):Y51),(((0:Int),(3:Int),(0:Int),(0:Int),(0:Int),(bZ),[]):Y51)]).getD 0 aL).2.2.2.2.2.2,.opq,.opq,.opq,.opq,.opq,.opq,.opq,.opq,.opq,.opq,.opq,.opq,.opq,.opq,.opq,.opq,.opq,.opq,.opq,.opq,.opq,.i (0:Int),.i (3:Int),.i (0:Int),.i (0:Int),.i (0:Int),.str (bS),.str [],.i (0:Int),.i (0:Int),.i (0:Int),.i (0:Int),.i (0:Int),.str [],.i (0:Int),.i (0:Int),.i (0:Int),.i (0:Int),.i (0:Int),.str [],.str [],.nils,.nils,.i (0:Int),.str [],.nils,.nils,.nils,.nils]))],[],0⟩ (an2 ob0 ob1) ?_;refine tN ?_;refine AWp.le (Le.mk (s':=⟨107,[(1,.ptr 1 0),(3,.ptr 3 0),(4,.i r1.2.2.2),(5,.i r2.1),(6,.i r2.2.1),(7,.i r2.2.2),(8,.own 38),(1000001,.tab .u64 Lib.pow10Tab),(1000002,bF),(1000003,bF)],[(1,.cells 37 [.nils,.nils,.b16 (kK 0),.nils,.nils,.nils]),(3,.cells 60 (f11z7 r1)),(38,aI [(((([(((0:Int),(4:Int),(0:Int),(0:Int),(0:Int),(bS),[]):Y51),(((0:Int),(3:Int),(0:Int),(0:Int),(0:Int),(bZ),[]):Y51)]).getD 0 aL).1,(([(((0:Int),(4:Int),(0:Int),(0:Int),(0:Int),(bS),[]):Y51),(((0:Int),(3:Int),(0:Int),(0:Int),(0:Int),(bZ),[]):Y51)]).getD 0 aL).2.1,(([(((0:Int),(4:Int),(0:Int),(0:Int),(0:Int),(bS),[]):Y51),(((0:Int),(3:Int),(0:Int),(0:Int),(0:Int),(bZ),[]):Y51)]).getD 0 aL).2.2.1,(([(((0:Int),(4:Int),(0:Int),(0:Int),(0:Int),(bS),[]):Y51),(((0:Int),(3:Int),(0:Int),(0:Int),(0:Int),(bZ),[]):Y51)]).getD 0 aL).2.2.2.1,(([(((0:Int),(4:Int),(0:Int),(0:Int),(0:Int),(bS),[]):Y51),(((0:Int),(3:Int),(0:Int),(0:Int),(0:Int),(bZ),[]):Y51)]).getD 0 aL).2.2.2.2.1,(([(((0:Int),(4:Int),(0:Int),(0:Int),(0:Int),(bS),[]):Y51),(((0:Int),(3:Int),(0:Int),(0:Int),(0:Int),(bZ),[]):Y51)]).getD 0 aL).2.2.2.2.2.1,(([(((0:Int),(4:Int),(0:Int),(0:Int),(0:Int),(bS),[]):Y51),(((0:Int),(3:Int),(0:Int),(0:Int),(0:Int),(bZ),[]):Y51)]).getD 0 aL).2.2.2.2.2.2):Y51),(((0:Int),(3:Int),(0:Int),(0:Int),(0:Int),(bS),[]):Y51)])],[],0⟩) rfl rfl ⟨.refl _,.refl _,.refl _,.refl _,.refl _,.refl _,.refl _,.refl _,.refl _,.refl _,trivial⟩ ⟨⟨_,rfl,.refl _⟩,⟨_,rfl,.refl _⟩,⟨_,rfl,(BLe.of (RL.lstV (enc:=aAx) [(((([(((0:Int),(4:Int),(0:Int),(0:Int),(0:Int),(bS),[]):Y51),(((0:Int),(3:Int),(0:Int),(0:Int),(0:Int),(bZ),[]):Y51)]).getD 0 aL).1,(([(((0:Int),(4:Int),(0:Int),(0:Int),(0:Int),(bS),[]):Y51),(((0:Int),(3:Int),(0:Int),(0:Int),(0:Int),(bZ),[]):Y51)]).getD 0 aL).2.1,(([(((0:Int),(4:Int),(0:Int),(0:Int),(0:Int),(bS),[]):Y51),(((0:Int),(3:Int),(0:Int),(0:Int),(0:Int),(bZ),[]):Y51)]).getD 0 aL).2.2.1,(([(((0:Int),(4:Int),(0:Int),(0:Int),(0:Int),(bS),[]):Y51),(((0:Int),(3:Int),(0:Int),(0:Int),(0:Int),(bZ),[]):Y51)]).getD 0 aL).2.2.2.1,(([(((0:Int),(4:Int),(0:Int),(0:Int),(0:Int),(bS),[]):Y51),(((0:Int),(3:Int),(0:Int),(0:Int),(0:Int),(bZ),[]):Y51)]).getD 0 aL).2.2.2.2.1,(([(((0:Int),(4:Int),(0:Int),(0:Int),(0:Int),(bS),[]):Y51),(((0:Int),(3:Int),(0:Int),(0:Int),(0:Int),(bZ),[]):Y51)]).getD 0 aL).2.2.2.2.2.1,(([(((0:Int),(4:Int),(0:Int),(0:Int),(0:Int),(bS),[]):Y51),(((0:Int),(3:Int),(0:Int),(0:Int),(0:Int),(bZ),[]):Y51)]).getD 0 aL).2.2.2.2.2.2):Y51),(((0:Int),(3:Int),(0:Int),(0:Int),(0:Int),(bS),[]):Y51)] rfl ⟨.refl _,.refl _,.refl _,.refl _,.refl _,.refl _,.refl _,.refl _,.refl _,.refl _,.refl _,.refl _,.refl _,.refl _,.refl _,.refl _,.refl _,.refl _,.refl _,.refl _,.refl _,.refl _,.refl _,.refl _,.refl _,.refl _,.refl _,.refl _,.refl _,.refl _,.refl _,.refl _,.refl _,.refl _,.refl _,VLe.opq rfl,VLe.opq rfl,VLe.opq rfl,VLe.opq rfl,VLe.opq rfl,VLe.opq rfl,VLe.opq rfl,VLe.opq rfl,VLe.opq rfl,VLe.opq rfl,VLe.opq rfl,VLe.opq rfl,VLe.opq rfl,VLe.opq rfl,VLe.opq rfl,VLe.opq rfl,VLe.opq rfl,VLe.opq rfl,VLe.opq rfl,VLe.opq rfl,VLe.opq rfl,trivial⟩ (fun _=>rfl)))⟩,trivial⟩) ?_;refine AWp.seq ?_;obtain⟨r3,hr3,h⟩:=bind_ok h;refine cA [] [(2,⟨[.agg [cS [],q1aSW [],.b16 (kK 0),vL 6 eT73 (default:List UInt8×Int×BitVec 16×List (BitVec 16)×List (BitVec 16)×(vS)) [],kL [],vL 3 lQ (default:List UInt8×Bool×(vS)) []],bC [(((([(((0:Int),(4:Int),(0:Int),(0:Int),(0:Int),(bS),[]):Y51),(((0:Int),(3:Int),(0:Int),(0:Int),(0:Int),(bZ),[]):Y51)]).getD 0 aL).1,(([(((0:Int),(4:Int),(0:Int),(0:Int),(0:Int),(bS),[]):Y51),(((0:Int),(3:Int),(0:Int),(0:Int),(0:Int),(bZ),[]):Y51)]).getD 0 aL).2.1,(([(((0:Int),(4:Int),(0:Int),(0:Int),(0:Int),(bS),[]):Y51),(((0:Int),(3:Int),(0:Int),(0:Int),(0:Int),(bZ),[]):Y51)]).getD 0 aL).2.2.1,(([(((0:Int),(4:Int),(0:Int),(0:Int),(0:Int),(bS),[]):Y51),(((0:Int),(3:Int),(0:Int),(0:Int),(0:Int),(bZ),[]):Y51)]).getD 0 aL).2.2.2.1,(([(((0:Int),(4:Int),(0:Int),(0:Int),(0:Int),(bS),[]):Y51),(((0:Int),(3:Int),(0:Int),(0:Int),(0:Int),(bZ),[]):Y51)]).getD 0 aL).2.2.2.2.1,(([(((0:Int),(4:Int),(0:Int),(0:Int),(0:Int),(bS),[]):Y51),(((0:Int),(3:Int),(0:Int),(0:Int),(0:Int),(bZ),[]):Y51)]).getD 0 aL).2.2.2.2.2.1,(([(((0:Int),(4:Int),(0:Int),(0:Int),(0:Int),(bS),[]):Y51),(((0:Int),(3:Int),(0:Int),(0:Int),(0:Int),(bZ),[]):Y51)]).getD 0 aL).2.2.2.2.2.2):Y51),(((0:Int),(3:Int),(0:Int),(0:Int),(0:Int),(bS),[]):Y51)]],[],[],[],.tup [.i r3.1,.i r3.2.1,.i r3.2.2],[],[38],[1,2,3]⟩)] [1,3,4,5,6,7,8,11,1000001,1000002,1000003] [1,3,38] (an1 (cpL (c:=true) [(38,aI [(((([(((0:Int),(4:Int),(0:Int),(0:Int),(0:Int),(bS),[]):Y51),(((0:Int),(3:Int),(0:Int),(0:Int),(0:Int),(bZ),[]):Y51)]).getD 0 aL).1,(([(((0:Int),(4:Int),(0:Int),(0:Int),(0:Int),(bS),[]):Y51),(((0:Int),(3:Int),(0:Int),(0:Int),(0:Int),(bZ),[]):Y51)]).getD 0 aL).2.1,(([(((0:Int),(4:Int),(0:Int),(0:Int),(0:Int),(bS),[]):Y51),(((0:Int),(3:Int),(0:Int),(0:Int),(0:Int),(bZ),[]):Y51)]).getD 0 aL).2.2.1,(([(((0:Int),(4:Int),(0:Int),(0:Int),(0:Int),(bS),[]):Y51),(((0:Int),(3:Int),(0:Int),(0:Int),(0:Int),(bZ),[]):Y51)]).getD 0 aL).2.2.2.1,(([(((0:Int),(4:Int),(0:Int),(0:Int),(0:Int),(bS),[]):Y51),(((0:Int),(3:Int),(0:Int),(0:Int),(0:Int),(bZ),[]):Y51)]).getD 0 aL).2.2.2.2.1,(([(((0:Int),(4:Int),(0:Int),(0:Int),(0:Int),(bS),[]):Y51),(((0:Int),(3:Int),(0:Int),(0:Int),(0:Int),(bZ),[]):Y51)]).getD 0 aL).2.2.2.2.2.1,(([(((0:Int),(4:Int),(0:Int),(0:Int),(0:Int),(bS),[]):Y51),(((0:Int),(3:Int),(0:Int),(0:Int),(0:Int),(bZ),[]):Y51)]).getD 0 aL).2.2.2.2.2.2):Y51),(((0:Int),(3:Int),(0:Int),(0:Int),(0:Int),(bS),[]):Y51)])] [38] [.agg [.nils,.nils,.b16 (kK 0),.nils,.nils,.nils],.own 38] (fun _=>(vJ _ _ _ _ _ _ _ _ hr3)) (fun _=>⟨(.aggs ⟨.nilL,.nilL,.refl _,.nilL,.nilL,.nilL,trivial⟩),.refl _,trivial⟩) (.inr ⟨rfl,trivial⟩))) ?_;refine tN (AWp.seq ?_);obtain⟨r4,hr4,h⟩:=bind_ok h;refine cA [] [(3,⟨[.agg [cS [],q1aSW [],.b16 (kK 0),vL 6 eT73 (default:List UInt8×Int×BitVec 16×List (BitVec 16)×List (BitVec 16)×(vS)) [],kL [],vL 3 lQ (default:List UInt8×Bool×(vS)) []],bC [(((0:Int),(2:Int),(0:Int),(0:Int),(1:Int),[],([111,107,32,49]:List UInt8)):Y51)]],[],[],[],.tup [.i r4.1,.i r4.2.1,.i r4.2.2],[],[49],[1,2,3]⟩)] [1,3,4,5,6,7,8,11,13,14,1000001,1000002,1000003] [1,3,38] (an1 (cpL (c:=true) [(49,.rows 51 28 1 (dH 28 [.i (0:Int),.i (2:Int),.i (0:Int),.i (0:Int),.i (1:Int),.str [],.str ([111,107,32,49]:List UInt8),.i (0:Int),.i (0:Int),.i (0:Int),.i (0:Int),.i (0:Int),.str [],.i (0:Int),.i (0:Int),.i (0:Int),.i (0:Int),.i (0:Int),.str [],.str [],.nils,.nils,.i (0:Int),.str [],.nils,.nils,.nils,.nils]))] [49] [.agg [.nils,.nils,.b16 (kK 0),.nils,.nils,.nils],.own 49] (fun _=>(vJ _ _ _ _ _ _ _ _ hr4)) (fun _=>⟨(.aggs ⟨.nilL,.nilL,.refl _,.nilL,.nilL,.nilL,trivial⟩),(VLe.of (RL.lstV (enc:=aAx) [(((0:Int),(2:Int),(0:Int),(0:Int),(1:Int),[],([111,107,32,49]:List UInt8)):Y51)] rfl ⟨.refl _,.refl _,.refl _,.refl _,.refl _,.refl _,.refl _,VLe.opq rfl,VLe.opq rfl,VLe.opq rfl,VLe.opq rfl,VLe.opq rfl,VLe.opq rfl,VLe.opq rfl,VLe.opq rfl,VLe.opq rfl,VLe.opq rfl,VLe.opq rfl,VLe.opq rfl,VLe.opq rfl,VLe.opq rfl,VLe.opq rfl,VLe.opq rfl,VLe.opq rfl,VLe.opq rfl,VLe.opq rfl,VLe.opq rfl,VLe.opq rfl,trivial⟩ (fun _=>rfl))),trivial⟩) (.inr ⟨rfl,trivial⟩))) ?_;refine tN (AWp.seq ?_);obtain⟨r5,hr5,h⟩:=bind_ok h;refine aZ [] [(3,⟨[.agg [cS [],q1aSW [],.b16 (kK 0),vL 6 eT73 (default:List UInt8×Int×BitVec 16×List (BitVec 16)×List (BitVec 16)×(vS)) [],kL [],vL 3 lQ (default:List UInt8×Bool×(vS)) []],bC [(((0:Int),(3:Int),(0:Int),(1:Int),(0:Int),(bS),[]):Y51)]],[],[],[],.tup [.i r5.1,.i r5.2.1,.i r5.2.2],[],[57],[1,2,3]⟩)] ⟨107,[(3,.ptr 3 0),(4,.i r1.2.2.2),(5,.i r2.1),(6,.i r2.2.1),(7,.i r2.2.2),(8,.own 38),(11,.i r3.2.2),(13,.i r4.2.1),(14,.i r4.2.2),(16,.i r5.2.1),(17,.i r5.2.2),(1000001,.tab .u64 Lib.pow10Tab),(1000002,bF),(1000003,bF)],[(3,.cells 60 (f11z7 r1)),(38,aI [(((([(((0:Int),(4:Int),(0:Int),(0:Int),(0:Int),(bS),[]):Y51),(((0:Int),(3:Int),(0:Int),(0:Int),(0:Int),(bZ),[]):Y51)]).getD 0 aL).1,(([(((0:Int),(4:Int),(0:Int),(0:Int),(0:Int),(bS),[]):Y51),(((0:Int),(3:Int),(0:Int),(0:Int),(0:Int),(bZ),[]):Y51)]).getD 0 aL).2.1,(([(((0:Int),(4:Int),(0:Int),(0:Int),(0:Int),(bS),[]):Y51),(((0:Int),(3:Int),(0:Int),(0:Int),(0:Int),(bZ),[]):Y51)]).getD 0 aL).2.2.1,(([(((0:Int),(4:Int),(0:Int),(0:Int),(0:Int),(bS),[]):Y51),(((0:Int),(3:Int),(0:Int),(0:Int),(0:Int),(bZ),[]):Y51)]).getD 0 aL).2.2.2.1,(([(((0:Int),(4:Int),(0:Int),(0:Int),(0:Int),(bS),[]):Y51),(((0:Int),(3:Int),(0:Int),(0:Int),(0:Int),(bZ),[]):Y51)]).getD 0 aL).2.2.2.2.1,(([(((0:Int),(4:Int),(0:Int),(0:Int),(0:Int),(bS),[]):Y51),(((0:Int),(3:Int),(0:Int),(0:Int),(0:Int),(bZ),[]):Y51)]).getD 0 aL).2.2.2.2.2.1,(([(((0:Int),(4:Int),(0:Int),(0:Int),(0:Int),(bS),[]):Y51),(((0:Int),(3:Int),(0:Int),(0:Int),(0:Int),(bZ),[]):Y51)]).getD 0 aL).2.2.2.2.2.2):Y51),(((0:Int),(3:Int),(0:Int),(0:Int),(0:Int),(bS),[]):Y51)])],[],0⟩ (an1 (cpL (c:=true) [(57,.rows 51 28 1 (dH 28 [.i (0:Int),.i (3:Int),.i (0:Int),.i (1:Int),.i (0:Int),.str (bS),.str [],.i (0:Int),.i (0:Int),.i (0:Int),.i (0:Int),.i (0:Int),.str [],.i (0:Int),.i (0:Int),.i (0:Int),.i (0:Int),.i (0:Int),.str [],.str [],.nils,.nils,.i (0:Int),.str [],.nils,.nils,.nils,.nils]))] [57] [.agg [.nils,.nils,.b16 (kK 0),.nils,.nils,.nils],.own 57] (fun _=>(vJ _ _ _ _ _ _ _ _ hr5)) (fun _=>⟨(.aggs ⟨.nilL,.nilL,.refl _,.nilL,.nilL,.nilL,trivial⟩),(VLe.of (RL.lstV (enc:=aAx) [(((0:Int),(3:Int),(0:Int),(1:Int),(0:Int),(bS),[]):Y51)] rfl ⟨.refl _,.refl _,.refl _,.refl _,.refl _,.refl _,.refl _,VLe.opq rfl,VLe.opq rfl,VLe.opq rfl,VLe.opq rfl,VLe.opq rfl,VLe.opq rfl,VLe.opq rfl,VLe.opq rfl,VLe.opq rfl,VLe.opq rfl,VLe.opq rfl,VLe.opq rfl,VLe.opq rfl,VLe.opq rfl,VLe.opq rfl,VLe.opq rfl,VLe.opq rfl,VLe.opq rfl,VLe.opq rfl,VLe.opq rfl,VLe.opq rfl,trivial⟩ (fun _=>rfl))),trivial⟩) (.inr ⟨rfl,trivial⟩))) ?_;refine tN (AWp.seq ?_);by_cases hg9_39:((((((((((r1.2.2.2==(0:Int))&&((r1.1==(0:Int))&&((r1.2.1==(0:Int))&&((r1.2.2.1==(12:Int))&&true))))&&(r2.2.2==(0:Int)))&&(r2.1==(1:Int)))&&(r2.2.1==(1:Int)))&&(r3.2.2==(13:Int)))&&(r4.2.2==(0:Int)))&&(r4.2.1==(3:Int)))&&(r5.2.2==(0:Int)))&&(r5.2.1==(2:Int)))=true
 ·
  replace h:=uB hg9_39 h;obtain⟨r6,hr6,h⟩:=bind_ok h;obtain⟨r7,hr7,h⟩:=bind_ok h;have ob2:=idA ((aBd r1)=true);have ob3:=idA ((aBd r1)=true);have ob4:true=true→(r1.2.2.2==(0:Int))=true→(aBd r1)=true:=fun _ h=>beq_iff_eq.2 h;have ob5:=idA (((xY r1)==true)=true);have ob6:=bqA (xY r1) true;have ob7:=idA ((aAp r1 r2)=true);have ob8:true=true→((xY r1)&&(r2.2.2==(0:Int)))=true→(aAp r1 r2)=true:=fun _ h=>beq_iff_eq.2 h;have ob9:=idA (((aBe r1 r2)==true)=true);have ob10:=bqA (aBe r1 r2) true;have ob11:=idA (((xX r1 r2)==true)=true);have ob12:=bqA (xX r1 r2) true;have ob13:=idA ((aAo r1 r2 r3)=true);have ob14:true=true→((xX r1 r2)&&(r3.2.2==(13:Int)))=true→(aAo r1 r2 r3)=true:=fun _ h=>beq_iff_eq.2 h;have ob15:=idA (((f11z1 r1 r2 r3 r4)==true)=true);have ob16:=bqA (f11z1 r1 r2 r3 r4) true;have ob17:=idA (((pU r1 r2 r3 r4)==true)=true);have ob18:=bqA (pU r1 r2 r3 r4) true;have ob19:=idA ((((pU r1 r2 r3 r4)&&(r5.2.2==(0:Int)))==true)=true);have ob20:=bqA ((pU r1 r2 r3 r4)&&(r5.2.2==(0:Int))) true;have ob21:=idA (true=true);have ob22:true=true→true=true→true=true:=fun _ h=>h;refine aZ [] [(39,⟨[],[],[],[],(.bool true),[],[0],[]⟩),(41,⟨[bC [(((([(((0:Int),(4:Int),(0:Int),(0:Int),(0:Int),(bS),[]):Y51),(((0:Int),(3:Int),(0:Int),(0:Int),(0:Int),(bZ),[]):Y51)]).getD 0 aL).1,(([(((0:Int),(4:Int),(0:Int),(0:Int),(0:Int),(bS),[]):Y51),(((0:Int),(3:Int),(0:Int),(0:Int),(0:Int),(bZ),[]):Y51)]).getD 0 aL).2.1,(([(((0:Int),(4:Int),(0:Int),(0:Int),(0:Int),(bS),[]):Y51),(((0:Int),(3:Int),(0:Int),(0:Int),(0:Int),(bZ),[]):Y51)]).getD 0 aL).2.2.1,(([(((0:Int),(4:Int),(0:Int),(0:Int),(0:Int),(bS),[]):Y51),(((0:Int),(3:Int),(0:Int),(0:Int),(0:Int),(bZ),[]):Y51)]).getD 0 aL).2.2.2.1,(([(((0:Int),(4:Int),(0:Int),(0:Int),(0:Int),(bS),[]):Y51),(((0:Int),(3:Int),(0:Int),(0:Int),(0:Int),(bZ),[]):Y51)]).getD 0 aL).2.2.2.2.1,(([(((0:Int),(4:Int),(0:Int),(0:Int),(0:Int),(bS),[]):Y51),(((0:Int),(3:Int),(0:Int),(0:Int),(0:Int),(bZ),[]):Y51)]).getD 0 aL).2.2.2.2.2.1,(([(((0:Int),(4:Int),(0:Int),(0:Int),(0:Int),(bS),[]):Y51),(((0:Int),(3:Int),(0:Int),(0:Int),(0:Int),(bZ),[]):Y51)]).getD 0 aL).2.2.2.2.2.2):Y51),(((0:Int),(3:Int),(0:Int),(0:Int),(0:Int),(bS),[]):Y51)]],[],[],[(6001,aG r6)],.own 6001,[6001],[38],[]⟩),(43,⟨[cS r6,cS [(bS)]],[],[],[],.bool r7,[],[6001,104],[]⟩)] ⟨107,[(0,.bool r7)],[],[],0⟩ (ac6 (an2 ob2 ob3) ob4 (an1 ob5) ob6 (an1 ob7) ob8 (ac6 (an1 ob9) ob10 (an1 ob11) ob12 (an1 ob13) ob14 (ac6 (an1 ob15) ob16 (an1 ob17) ob18 (an1 ob19) ob20 (an4 (show((.bool (((pU r1 r2 r3 r4)&&(r5.2.2==(0:Int)))&&(r5.2.1==(2:Int)))):V)=(.bool true)from(congrArg (fun x=>((.bool x):V)) hg9_39)) (And.intro (cpL (c:=true) [(38,aI [(((([(((0:Int),(4:Int),(0:Int),(0:Int),(0:Int),(bS),[]):Y51),(((0:Int),(3:Int),(0:Int),(0:Int),(0:Int),(bZ),[]):Y51)]).getD 0 aL).1,(([(((0:Int),(4:Int),(0:Int),(0:Int),(0:Int),(bS),[]):Y51),(((0:Int),(3:Int),(0:Int),(0:Int),(0:Int),(bZ),[]):Y51)]).getD 0 aL).2.1,(([(((0:Int),(4:Int),(0:Int),(0:Int),(0:Int),(bS),[]):Y51),(((0:Int),(3:Int),(0:Int),(0:Int),(0:Int),(bZ),[]):Y51)]).getD 0 aL).2.2.1,(([(((0:Int),(4:Int),(0:Int),(0:Int),(0:Int),(bS),[]):Y51),(((0:Int),(3:Int),(0:Int),(0:Int),(0:Int),(bZ),[]):Y51)]).getD 0 aL).2.2.2.1,(([(((0:Int),(4:Int),(0:Int),(0:Int),(0:Int),(bS),[]):Y51),(((0:Int),(3:Int),(0:Int),(0:Int),(0:Int),(bZ),[]):Y51)]).getD 0 aL).2.2.2.2.1,(([(((0:Int),(4:Int),(0:Int),(0:Int),(0:Int),(bS),[]):Y51),(((0:Int),(3:Int),(0:Int),(0:Int),(0:Int),(bZ),[]):Y51)]).getD 0 aL).2.2.2.2.2.1,(([(((0:Int),(4:Int),(0:Int),(0:Int),(0:Int),(bS),[]):Y51),(((0:Int),(3:Int),(0:Int),(0:Int),(0:Int),(bZ),[]):Y51)]).getD 0 aL).2.2.2.2.2.2):Y51),(((0:Int),(3:Int),(0:Int),(0:Int),(0:Int),(bS),[]):Y51)])] [38] [.own 38] (fun _=>(aH.ren (bA 3000 6001) (aD 3000 6001) rfl (f14_ok _ _ hr6))) (fun _=>⟨.refl _,trivial⟩) (.inr ⟨rfl,⟨(fun _ _ _ _=>eS_flat _ _),trivial⟩⟩)) (an1 ob21)) (cpL (c:=true) [(6001,aG r6),(104,.rows 9 1 1 (dH 1 [.str (bS)]))] [6001,104] [.own 6001,.own 104] (fun _=>(f15_ok _ _ _ hr7)) (fun _=>⟨.refl _,(VLe.of (RL.lst (enc:=eS) [(bS)] rfl rfl (fun _=>rfl))),trivial⟩) (.inr ⟨rfl,trivial⟩)) ob22)))) ?_;refine tN ?_;have hret:=Option.some.inj h;subst hret;refine AWp.ret ?_;exact bR _ rfl ⟨rfl,rfl⟩ rfl
 ·
  replace h:=uC hg9_39 h;have ob2:=idA ((aBd r1)=true);have ob3:=idA ((aBd r1)=true);have ob4:true=true→(r1.2.2.2==(0:Int))=true→(aBd r1)=true:=fun _ h=>beq_iff_eq.2 h;have ob5:=idA (((xY r1)==true)=true);have ob6:=bqA (xY r1) true;have ob7:=idA ((aAp r1 r2)=true);have ob8:true=true→((xY r1)&&(r2.2.2==(0:Int)))=true→(aAp r1 r2)=true:=fun _ h=>beq_iff_eq.2 h;have ob9:=idA (((aBe r1 r2)==true)=true);have ob10:=bqA (aBe r1 r2) true;have ob11:=idA (((xX r1 r2)==true)=true);have ob12:=bqA (xX r1 r2) true;have ob13:=idA ((aAo r1 r2 r3)=true);have ob14:true=true→((xX r1 r2)&&(r3.2.2==(13:Int)))=true→(aAo r1 r2 r3)=true:=fun _ h=>beq_iff_eq.2 h;have ob15:=idA (((f11z1 r1 r2 r3 r4)==true)=true);have ob16:=bqA (f11z1 r1 r2 r3 r4) true;have ob17:=idA (((pU r1 r2 r3 r4)==true)=true);have ob18:=bqA (pU r1 r2 r3 r4) true;have ob19:=idA ((((pU r1 r2 r3 r4)&&(r5.2.2==(0:Int)))==true)=true);have ob20:=bqA ((pU r1 r2 r3 r4)&&(r5.2.2==(0:Int))) true;have ob21:=idA (false=true);have ob22:=idA (false=true);have ob23:=idA (false=true);have ob24:true=true→false=true→false=true:=fun _ h=>h;refine aZ [] [(39,⟨[],[],[],[],(.bool false),[],[0],[]⟩),(41,⟨[],[],[],[],.any,[],[],[]⟩),(43,⟨[],[],[],[],.bool false,[],[],[]⟩)] ⟨107,[(0,.bool false)],[],[],0⟩ (ac6 (an2 ob2 ob3) ob4 (an1 ob5) ob6 (an1 ob7) ob8 (ac6 (an1 ob9) ob10 (an1 ob11) ob12 (an1 ob13) ob14 (ac6 (an1 ob15) ob16 (an1 ob17) ob18 (an1 ob19) ob20 (an4 (show((.bool (((pU r1 r2 r3 r4)&&(r5.2.2==(0:Int)))&&(r5.2.1==(2:Int)))):V)=(.bool false)from(congrArg (fun x=>((.bool x):V)) (Bool.eq_false_iff.2 hg9_39))) (And.intro (show(pD Tryz.prog false 14 [] [] [] [] [] [.own 38] [] (.any) [])from⟨nofun,nofun,.inl rfl⟩) (an1 ob21)) (And.intro (show(pD Tryz.prog false 15 [] [] [] [] [] [.any,.bool false] [] (.bool false) [])from⟨nofun,nofun,.inl rfl⟩) (an2 ob22 ob23)) ob24)))) ?_;refine tN ?_;have hret:=Option.some.inj h;subst hret;refine AWp.ret ?_;exact bR _ rfl ⟨rfl,rfl⟩ rfl
abbrev f36z0 :=([cs11,cs12,cs8,cs13]:List Ty0)
def f36 (x1:Int):Option Ty0:=
 chk (0≤x1∧1≤(4:Int))<|
 chk (0≤(x1%(4:Int))∧(x1%(4:Int))<(4:Int))<|
 chk ((((x1%(4:Int))).toNat)<4)<|
 some (([cs11,cs12,cs8,cs13]:List Ty0).getD (((x1%(4:Int))).toNat) [])
theorem f36_ok (x1:Int) (r:List UInt8) (h:f36 x1=some r):aH Tryz.prog 36 [] [] [] [.int .i64 x1] (.str r) []:=by
 unfold f36 at h;refine aH.body 0 _ _ Tryz.func36 rfl Tryz.ntmps36 rfl rfl ?_;refine bJ [] [] [0] [] trivial ?_;refine AWp.seq ?_;obtain⟨ob0,ob1,ob2,h⟩:=ck3 h;refine aZ [] [(4,⟨[],[],[],[],.str ((f36z0).getD (((x1%(4:Int))).toNat) []),[],[0],[]⟩)] ⟨8,[(2,.str ((f36z0).getD (((x1%(4:Int))).toNat) []))],[],[],0⟩ (an3 ob0 ob1 (And.intro ob2 (show((dH 1 [.str cs11,.str cs12,.str cs8,.str cs13]) (((x1%(4:Int))).toNat) 0:V)= .str ((f36z0).getD (((x1%(4:Int))).toNat) [])from(lst_at eS [] 1 (f36z0) (fun _=>rfl) (show(((x1%(4:Int))).toNat)<4 from by assumption) (j:=0) (by decide))))) ?_;refine tN ?_;have hret:=Option.some.inj h;subst hret;refine AWp.ret ?_;exact bR _ rfl ⟨rfl,rfl⟩ rfl
abbrev f112z0 :List (Nat×V):=[(4,.int .i64 (0:Int)),(5,.int .i64 (0:Int))]
def aBq (x1:List UInt8) (x2:Int):Option Tq2:=
 if(x1==[])then(
 some ((0:Int),(0:Int))
 )else(
 chk ((0:Int)<((x1.length:Nat):Int))<|
 chk ((((x1.getD 0 0).toNat:Nat):Int)≤9223372036854775807)<|
 jn (fun((i3,n4):Int×Nat)=>
 if(decide (i3>x2))then(
 some ((0:Int),(0:Int))
 )else(
 some (i3,(n4:Int))
 )
 ) fun(K1:(Int×Nat)→Option Tq2)=>
 if(decide ((((x1.getD 0 0).toNat:Nat):Int)≥(128:Int)))then(
 chk (((decide (((x1.length:Nat):Int)<(2:Int)))==false)=true→0≤(1:Int)∧(1:Int)<((x1.length:Nat):Int))<|
 chk ((((decide (((x1.length:Nat):Int)<(2:Int)))||((((x1.getD 1 0).toNat:Nat):Int)==(0:Int)))==false)=true→0≤(1:Int)∧(1:Int)<((x1.length:Nat):Int))<|
 if(((decide (((x1.length:Nat):Int)<(2:Int)))||((((x1.getD 1 0).toNat:Nat):Int)==(0:Int)))||(decide ((((x1.getD 1 0).toNat:Nat):Int)≥(128:Int))))then(
 some ((0:Int),(0:Int))
 )else(
 chk (-9223372036854775808≤((((x1.getD 0 0).toNat:Nat):Int)-(128:Int))∧((((x1.getD 0 0).toNat:Nat):Int)-(128:Int))≤9223372036854775807)<|
 chk ((1:Int)<((x1.length:Nat):Int))<|
 chk ((((x1.getD 1 0).toNat:Nat):Int)≤9223372036854775807)<|
 chk (-9223372036854775808≤((128:Int) *(((x1.getD 1 0).toNat:Nat):Int))∧((128:Int) *(((x1.getD 1 0).toNat:Nat):Int))≤9223372036854775807)<|
 chk (-9223372036854775808≤(((((x1.getD 0 0).toNat:Nat):Int)-(128:Int))+(((128 *(x1.getD 1 0).toNat):Nat):Int))∧(((((x1.getD 0 0).toNat:Nat):Int)-(128:Int))+(((128 *(x1.getD 1 0).toNat):Nat):Int))≤9223372036854775807)<|
 K1 ((((((x1.getD 0 0).toNat:Nat):Int)-(128:Int))+(((128 *(x1.getD 1 0).toNat):Nat):Int)),2)
 )
 )else(
 K1 ((((x1.getD 0 0).toNat:Nat):Int),1)
 )
 )
theorem f112_ok (x1:List UInt8) (x2:Int) (r:Tq2) (h:aBq x1 x2=some r):aH Tryz.prog 112 [] [] [] [.str x1,.int .i64 x2] (.tup [.int .i64 r.1,.int .i64 r.2]) []:=by
 unfold aBq at h;refine aH.body 0 _ _ Tryz.func112 rfl Tryz.ntmps112 rfl rfl ?_;refine bJ [] [] [0,1] [] trivial ?_;refine AWp.seq ?_;refine bJ [] [] [0,1,9] [] trivial ?_;refine AWp.cond (b:=(x1==[])) (by kernel_rfl) (fun hc1=> ?_) (fun hc1=> ?_)
 ·
  replace h:=aE hc1 h;refine aU [] [] ⟨40,(f112z0),[],[],0⟩ trivial ?_;have hret:=Option.some.inj h;subst hret;refine AWp.ret (tR ?_);exact bR _ rfl ⟨rfl,rfl⟩ rfl
 ·
  replace h:=aF hc1 h;refine AWp.skip (tN (AWp.seq ?_));obtain⟨ob0p,h⟩:=aB h;have ob0:0≤(0:Int)∧(0:Int)<((x1.length:Nat):Int):=⟨by omega,ob0p⟩;obtain⟨ob1p,h⟩:=aB h;have ob1: -9223372036854775808≤(((x1.getD 0 0).toNat:Nat):Int)∧(((x1.getD 0 0).toNat:Nat):Int)≤9223372036854775807:=⟨by omega,ob1p⟩;refine aZ [] [] ⟨40,[(0,.str x1),(1,.i x2),(6,.i (((x1.getD 0 0).toNat:Nat):Int)),(7,.i (1:Int))],[],[],0⟩ (an2 ob0 ob1) ?_;refine tN ?_;obtain⟨K1,hK1,h⟩:=aS h;refine AWp.join (fun(x:Int×Nat)=>match x with|(i3,n4)=>⟨40,[(1,.i x2),(6,.i i3),(7,.i (n4:Int))],[],[],0⟩) (fun x=>K1 x=some r) ?_ ?_
  ·
   refine aU [] [] ⟨40,[(0,.str x1),(1,.i x2),(6,.i (((x1.getD 0 0).toNat:Nat):Int)),(7,.i (1:Int)),(14,.bool (decide ((((x1.getD 0 0).toNat:Nat):Int)≥(128:Int))))],[],[],0⟩ trivial ?_;refine AWp.cond (b:=(decide ((((x1.getD 0 0).toNat:Nat):Int)≥(128:Int)))) (by kernel_rfl) (fun hc2=> ?_) (fun hc2=> ?_)
   ·
    replace h:=aE hc2 h;refine AWp.seq (AWp.seq ?_);obtain⟨ob2,h⟩:=aB h;have ob3:=idA (((decide ((lZ x1)<(2:Int)))==false)=true);have ob4:=idA (((decide ((lZ x1)<(2:Int)))==false)=true);have ob5:=bqA (decide ((lZ x1)<(2:Int))) false;obtain⟨ob6,h⟩:=aB h;have ob7:=idA ((((decide ((lZ x1)<(2:Int)))||((((x1.getD 1 0).toNat:Nat):Int)==(0:Int)))==false)=true);have ob8:=idA ((((decide ((lZ x1)<(2:Int)))||((((x1.getD 1 0).toNat:Nat):Int)==(0:Int)))==false)=true);have ob9:=bqA ((decide ((lZ x1)<(2:Int)))||((((x1.getD 1 0).toNat:Nat):Int)==(0:Int))) false;refine cA [] [] [0,1,6,27] [] (an6 (And.intro ob2 (an1 ob3)) (an1 ob4) ob5 (And.intro ob6 (an1 ob7)) (an1 ob8) ob9) ?_;refine tN ?_;refine AWp.cond (b:=(((decide ((lZ x1)<(2:Int)))||((((x1.getD 1 0).toNat:Nat):Int)==(0:Int)))||(decide ((((x1.getD 1 0).toNat:Nat):Int)≥(128:Int))))) (by kernel_rfl) (fun hc3=> ?_) (fun hc3=> ?_)
    ·
     replace h:=aE hc3 h;refine aU [] [] ⟨40,(f112z0),[],[],0⟩ trivial ?_;have hret:=Option.some.inj h;subst hret;refine AWp.ret (tR (aY ?_));exact bR _ rfl ⟨rfl,rfl⟩ rfl
    ·
     replace h:=aF hc3 h;refine AWp.skip (tN ?_);obtain⟨ob10,ob11p,h⟩:=ck2 h;have ob11:0≤(1:Int)∧(1:Int)<((x1.length:Nat):Int):=⟨by omega,ob11p⟩;obtain⟨ob12p,h⟩:=aB h;have ob12: -9223372036854775808≤(((x1.getD 1 0).toNat:Nat):Int)∧(((x1.getD 1 0).toNat:Nat):Int)≤9223372036854775807:=⟨by omega,ob12p⟩;obtain⟨ob13,ob14,h⟩:=ck2 h;refine aZ [] [] ⟨40,[(1,.i x2),(6,.i (((((x1.getD 0 0).toNat:Nat):Int)-(128:Int))+(((128 *(x1.getD 1 0).toNat):Nat):Int))),(7,.i (2:Int))],[],[],0⟩ (an5 ob10 ob11 ob12 ob13 ob14) ?_;exact jN ((((((x1.getD 0 0).toNat:Nat):Int)-(128:Int))+(((128 *(x1.getD 1 0).toNat):Nat):Int)),2) LR h
   ·
    replace h:=aF hc2 h;refine AWp.skip ?_;exact jN ((((x1.getD 0 0).toNat:Nat):Int),1) LR h
  ·
   rintro⟨i3,n4⟩ h;replace h:=(congrFun hK1 _).symm.trans h;refine AWp.seq ?_;refine bJ [] [] [6,7,37] [] trivial ?_;refine AWp.cond (b:=(decide (i3>x2))) (by kernel_rfl) (fun hc4=> ?_) (fun hc4=> ?_)
   ·
    replace h:=aE hc4 h;refine aU [] [] ⟨40,(f112z0),[],[],0⟩ trivial ?_;have hret:=Option.some.inj h;subst hret;refine AWp.ret (tR ?_);exact bR _ rfl ⟨rfl,rfl⟩ rfl
   ·
    replace h:=aF hc4 h;refine AWp.skip (tN ?_);refine aU [] [] ⟨40,[(4,.i i3),(5,.i (n4:Int))],[],[],0⟩ trivial ?_;have hret:=Option.some.inj h;subst hret;refine AWp.ret ?_;exact bR _ rfl ⟨rfl,rfl⟩ rfl
def iG (x1:List UInt8) (r2:Tq2) (K1:(Int×List Ty0)→Option (Bool×List Ty0)):Nat→(Int×Nat×List Ty0)→Option (Bool×List Ty0)
 |0,_=>none
 |k+1,(i3,n4,l5)=>
  if(decide ((n4:Int)<r2.1))then(
  (aBq (x1.drop ((i3).toNat)) (200:Int)).bind fun(r6:Tq2)=>
  chk (0≤i3∧i3≤((x1.length:Nat):Int))<|
  chk (((r6.2==(0:Int))==false)=true→ -9223372036854775808≤(i3+r6.2)∧(i3+r6.2)≤9223372036854775807)<|
  chk (((r6.2==(0:Int))==false)=true→ -9223372036854775808≤((i3+r6.2)+r6.1)∧((i3+r6.2)+r6.1)≤9223372036854775807)<|
  if((r6.2==(0:Int))||(decide (((i3+r6.2)+r6.1)>((x1.length:Nat):Int))))then(
  some (false,[])
  )else(
  chk (-9223372036854775808≤(i3+r6.2)∧(i3+r6.2)≤9223372036854775807)<|
  chk (-9223372036854775808≤(i3+r6.2)∧(i3+r6.2)≤9223372036854775807)<|
  chk (-9223372036854775808≤((i3+r6.2)+r6.1)∧((i3+r6.2)+r6.1)≤9223372036854775807)<|
  chk (0≤(i3+r6.2)∧(i3+r6.2)≤((i3+r6.2)+r6.1)∧((i3+r6.2)+r6.1)≤((x1.length:Nat):Int))<|
  chk (((l5).length+1) *16≤140737488355328)<|
  chk (-9223372036854775808≤(i3+r6.2)∧(i3+r6.2)≤9223372036854775807)<|
  chk (-9223372036854775808≤((i3+r6.2)+r6.1)∧((i3+r6.2)+r6.1)≤9223372036854775807)<|
  chk (((n4:Int)+(1:Int))≤9223372036854775807)<|
  (iG x1 r2 K1 k) (((i3+r6.2)+r6.1),(n4+1),(l5++[((x1.take ((((i3+r6.2)+r6.1)).toNat)).drop (((i3+r6.2)).toNat))]))
  )
  )else(
  K1 (i3,l5)
  )
abbrev uT (r6:Tq2):=((r6.2==(0:Int))==false)
abbrev f81z1 (l5:List Ty0) (x1:List UInt8) (i3:Int) (r6:Tq2):aK:=[(5006,bL 9 1 eS [] (l5++[((x1.take ((((i3+r6.2)+r6.1)).toNat)).drop (((i3+r6.2)).toNat))]))]
abbrev f81z2 (x1:List UInt8) (r2:Tq2) (i3:Int) (n4:Nat) (r6:Tq2):List (Nat×V):=[(0,.str x1),(4,.int .i64 r2.1),(5,.int .i64 i3),(6,.own 5006),(7,.int .i64 (n4:Int)),(8,.int .i64 r6.1),(9,.int .i64 r6.2)]
abbrev f81z3 :List (Nat×V):=[(2,.own 3000),(3,.bool false)]
def f81 (x1:List UInt8):Option (Bool×List Ty0):=
 (aBq x1 (25:Int)).bind fun(r2:Tq2)=>
 if(r2.2==(0:Int))then(
 some (false,[])
 )else(
 jn (fun((i7,l8):Int×List Ty0)=>
 some ((i7==((x1.length:Nat):Int)),l8)
 ) fun(K1:(Int×List Ty0)→Option (Bool×List Ty0))=>
 iG x1 r2 K1 bG (r2.2,0,[])
 )
theorem f81_ok (x1:List UInt8) (r:Bool×List Ty0) (h:f81 x1=some r):aH Tryz.prog 81 [] [] [] [.str x1] (.tup [.own 3000,.bool r.1]) [(3000,bL 9 1 eS [] r.2)]:=by
 unfold f81 at h;refine aH.body 0 _ _ Tryz.func81 rfl Tryz.ntmps81 rfl rfl ?_;refine bJ [] [] [0] [] trivial ?_;refine AWp.seq ?_;obtain⟨r2,hr2,h⟩:=bind_ok h;refine cA [] [(1,⟨[.str x1,.i (25:Int)],[],[],[],.tup [.i r2.1,.i r2.2],[],[],[]⟩)] [0,4,5] [] (an1 (cpT (f112_ok _ _ _ hr2))) ?_;refine tN (AWp.seq ?_);refine bJ [] [] [0,4,5,16] [] trivial ?_;refine AWp.cond (b:=(r2.2==(0:Int))) (by kernel_rfl) (fun hc1=> ?_) (fun hc1=> ?_)
 ·
  replace h:=aE hc1 h;refine aU [] [] ⟨64,[(2,.nils),(3,.bool false)],[],[],0⟩ trivial ?_;refine AWp.le (Le.trans (Le.nilOwn 2 3000 9 1 (cD eS [] []) rfl rfl (Nat.le_of_ble_eq_true rfl)) (LR (s':=⟨64,(f81z3),[(3000,aG [])],[],0⟩))) ?_;have hret:=Option.some.inj h;subst hret;refine AWp.le (LR (s':=⟨64,(f81z3),[(3000,aG [])],[],0⟩)) ?_;refine AWp.ret (tR ?_);exact bR _ rfl ⟨rfl,rfl⟩ rfl
 ·
  replace h:=aF hc1 h;refine AWp.skip (tN ?_);refine aU [] [] ⟨64,[(0,.str x1),(4,.i r2.1),(5,.i r2.2),(6,.nils)],[],[],0⟩ trivial ?_;obtain⟨K1,hK1,h⟩:=aS h;refine AWp.join (fun(x:Int×List Ty0)=>match x with|(i7,l8)=>⟨64,[(0,.str x1),(5,.i i7),(6,.own 5006)],[(5006,aG l8)],[],0⟩) (fun x=>K1 x=some r) ?_ ?_
  ·
   refine aU [] [] ⟨64,[(0,.str x1),(4,.i r2.1),(5,.i r2.2),(6,.nils),(7,.i (0:Int))],[],[],0⟩ trivial ?_;refine AWp.block ?_;refine AWp.loopL (α:=Nat×(Int×Nat×List Ty0)) (fun x=>match x with|(_,i3,n4,l5)=>⟨64,[(0,.str x1),(4,.i r2.1),(5,.i i3),(6,.own 5006),(7,.i (n4:Int))],[(5006,aG l5)],[],0⟩) (fun x=>iG x1 r2 K1 x.1 x.2=some r) (fun x=>x.1) (bG,r2.2,0,[]) (Le.trans (Le.trans (Le.nilOwn 6 5006 9 1 (cD eS [] []) rfl rfl (Nat.le_of_ble_eq_true rfl)) (LR (s':=⟨64,[(0,.str x1),(4,.i r2.1),(5,.i r2.2),(6,.own 5006),(7,.i (0:Int))],[(5006,aG [])],[],0⟩))) (LR (s':=⟨64,[(0,.str x1),(4,.i r2.1),(5,.i r2.2),(6,.own 5006),(7,.i (0:Int))],[(5006,aG [])],[],0⟩))) h ?_
   rintro⟨k0,i3,n4,l5⟩ h
   cases k0 with
   |zero=>exact nomatch (show none=some r from h)
   |succ k0=>
   obtain⟨C0,hC0⟩:∃C,C=iG x1 r2 K1 k0:=⟨_,rfl⟩;replace h:=(iG.eq_2 ..).symm.trans h
   try rw[←hC0]at h
   refine AWp.seq ?_;refine aU [] [] ⟨64,[(0,.str x1),(4,.i r2.1),(5,.i i3),(6,.own 5006),(7,.i (n4:Int)),(19,.bool (decide ((n4:Int)<r2.1)))],[(5006,aG l5)],[],0⟩ trivial ?_;refine AWp.cond (b:=(decide ((n4:Int)<r2.1))) (by kernel_rfl) (fun hc2=> ?_) (fun hc2=> ?_)
   ·
    replace h:=aE hc2 h;refine AWp.skip (tN (AWp.seq (AWp.block (AWp.seq ?_))));obtain⟨r6,hr6,h⟩:=bind_ok h;obtain⟨ob0,h⟩:=aB h;refine cA [] [(3,⟨[.str (x1.drop ((i3).toNat)),.i (200:Int)],[],[],[],.tup [.i r6.1,.i r6.2],[],[],[]⟩)] [0,4,5,6,7,8,9] [5006] (an2 ob0 (cpT (f112_ok _ _ _ hr6))) ?_;refine tN (AWp.seq (AWp.seq ?_));obtain⟨ob1,h⟩:=aB h;have ob2:=idA ((uT r6)=true);have ob3:=idA ((uT r6)=true);obtain⟨ob4,h⟩:=aB h;have ob5:=idA ((uT r6)=true);have ob6:=idA ((uT r6)=true);have ob7:=idA ((uT r6)=true);have ob8:=idA ((uT r6)=true);have ob9:=idA ((uT r6)=true);have ob10:true=true→(r6.2==(0:Int))=false→(uT r6)=true:=fun _ h=>beq_iff_eq.2 h;refine cA [] [] [0,4,5,6,7,8,9,40] [5006] (an5 (And.intro ob1 (an2 ob2 ob3)) (And.intro ob4 (an2 ob5 ob6)) (an1 ob7) (an2 ob8 ob9) ob10) ?_;refine tN ?_;refine AWp.cond (b:=((r6.2==(0:Int))||(decide (((i3+r6.2)+r6.1)>(lZ x1))))) (by kernel_rfl) (fun hc3=> ?_) (fun hc3=> ?_)
    ·
     replace h:=aE hc3 h;refine aU [] [] ⟨64,[(2,.nils),(3,.bool false)],[],[],0⟩ trivial ?_;refine AWp.le (Le.trans (Le.nilOwn 2 3000 9 1 (cD eS [] []) rfl rfl (Nat.le_of_ble_eq_true rfl)) (LR (s':=⟨64,(f81z3),[(3000,aG [])],[],0⟩))) ?_;have hret:=Option.some.inj h;subst hret;refine AWp.le (LR (s':=⟨64,(f81z3),[(3000,aG [])],[],0⟩)) ?_;refine AWp.ret (tR (kR (tR (tR (kR (aY ?_))))));exact bR _ rfl ⟨rfl,rfl⟩ rfl
    ·
     replace h:=aF hc3 h;refine AWp.skip (tN (AWp.seq ?_));obtain⟨ob11,ob12,ob13,ob14,ob15,h⟩:=ck5 h;refine aZ [] [] ⟨64,(f81z2 x1 r2 i3 n4 r6),[(5006,.rows 9 1 ((l5).length+1) (gF (l5).length (cD eS [] l5) (dH 1 [.str ((x1.take ((((i3+r6.2)+r6.1)).toNat)).drop (((i3+r6.2)).toNat))])))],[],0⟩ (an5 ob11 ob12 ob13 ob14 ob15) ?_;refine tN ?_;refine AWp.le (Le.mk (s':=⟨64,(f81z2 x1 r2 i3 n4 r6),(f81z1 l5 x1 i3 r6),[],0⟩) rfl rfl ⟨.refl _,.refl _,.refl _,.refl _,.refl _,.refl _,.refl _,trivial⟩ ⟨⟨_,rfl,(BLe.of (RL.app (RL.self _) (RL.lst (enc:=eS) [((x1.take ((((i3+r6.2)+r6.1)).toNat)).drop (((i3+r6.2)).toNat))] rfl rfl (fun _=>rfl))))⟩,trivial⟩) ?_;obtain⟨ob16,ob17,h⟩:=ck2 h;refine aZ [] [] ⟨64,[(0,.str x1),(4,.i r2.1),(5,.i ((i3+r6.2)+r6.1)),(6,.own 5006),(7,.i (n4:Int))],(f81z1 l5 x1 i3 r6),[],0⟩ (an2 ob16 ob17) ?_;refine kN (tN ?_);obtain⟨ob18p,h⟩:=aB h;have ob18: -9223372036854775808≤((n4:Int)+(1:Int))∧((n4:Int)+(1:Int))≤9223372036854775807:=⟨by omega,ob18p⟩;refine aZ [] [] ⟨64,[(0,.str x1),(4,.i r2.1),(5,.i ((i3+r6.2)+r6.1)),(6,.own 5006),(7,.i (((n4+1):Nat):Int))],(f81z1 l5 x1 i3 r6),[],0⟩ (an1 ob18) ?_;rw[hC0]at h;exact lN (_,((i3+r6.2)+r6.1),(n4+1),(l5++[((x1.take ((((i3+r6.2)+r6.1)).toNat)).drop (((i3+r6.2)).toNat))])) LR h (Nat.lt_succ_self _)
   ·
    replace h:=aF hc2 h;refine AWp.exit (tE (tE (kS ?_)));exact jN (i3,l5) LR h
  ·
   rintro⟨i7,l8⟩ h;replace h:=(congrFun hK1 _).symm.trans h;refine aU [] [] ⟨64,[(2,.own 5006),(3,.bool (i7==(lZ x1)))],[(5006,aG l8)],[],0⟩ trivial ?_;refine AWp.le (Le.trans (Le.ren (bA 5006 3000) (aD 5006 3000) rfl) (LR (s':=⟨64,[(2,.own 3000),(3,.bool (i7==(lZ x1)))],[(3000,aG l8)],[],0⟩))) ?_;have hret:=Option.some.inj h;subst hret;refine AWp.le (LR (s':=⟨64,[(2,.own 3000),(3,.bool (i7==(lZ x1)))],[(3000,aG l8)],[],0⟩)) ?_;refine AWp.ret ?_;exact bR _ rfl ⟨rfl,rfl⟩ rfl
def f88 :Nat→Int→Option Ty0
 |0,_=>none
 |k+1,x1=>
  if(decide (x1<(10:Int)))then(
  chk (-9223372036854775808≤((48:Int)+x1)∧((48:Int)+x1)≤9223372036854775807)<|
  chk (0≤((48:Int)+x1)∧((48:Int)+x1)≤255)<|
  some [UInt8.ofNat ((((48:Int)+x1)).toNat)]
  )else(
  ((f88 k) (x1/(10:Int))).bind fun(r2:List UInt8)=>
  chk (0≤x1∧1≤(10:Int)∧ -9223372036854775808≤(x1/(10:Int))∧(x1/(10:Int))≤9223372036854775807)<|
  chk (0≤x1∧1≤(10:Int))<|
  chk (-9223372036854775808≤((48:Int)+(x1%(10:Int)))∧((48:Int)+(x1%(10:Int)))≤9223372036854775807)<|
  chk (0≤((48:Int)+(x1%(10:Int)))∧((48:Int)+(x1%(10:Int)))≤255)<|
  chk (r2.length+[UInt8.ofNat ((((48:Int)+(x1%(10:Int)))).toNat)].length≤9223372036854775807)<|
  some (r2++[UInt8.ofNat ((((48:Int)+(x1%(10:Int)))).toNat)])
  )
theorem zR :∀(k:Nat) (x1:Int) (r:List UInt8),f88 k x1=some r→aH Tryz.prog 88 [] [] [] [.int .i64 x1] (.str r) []:=by
 intro k
 induction k with
 |zero=>intro x1 r h;exact nomatch (show none=some r from h)
 |succ k ih=>
 intro x1 r h;obtain⟨Frec,hFrec⟩:∃C,C=f88 k:=⟨_,rfl⟩;rw[f88.eq_2]at h;rw[←hFrec]at h ih;refine aH.body 0 _ _ Tryz.func88 rfl Tryz.ntmps88 rfl rfl ?_;refine bJ [] [] [0] [] trivial ?_;refine AWp.seq ?_;refine bJ [] [] [0,4] [] trivial ?_;refine AWp.cond (b:=(decide (x1<(10:Int)))) (by kernel_rfl) (fun hc1=> ?_) (fun hc1=> ?_)
 ·
  replace h:=aE hc1 h;refine AWp.seq ?_;obtain⟨ob0,ob1,h⟩:=ck2 h;have ob2:∀i,i<1→isByte ((dH 1 [.int .u8 ((48:Int)+x1)]) i 0):=fun i hi=>match i,hi with|0,_=>trivial
  refine aZ [] [] ⟨20,[(2,.str [UInt8.ofNat ((((48:Int)+x1)).toNat)])],[],[],0⟩ (an3 ob0 ob1 ob2) ?_;refine tN ?_;have hret:=Option.some.inj h;subst hret;refine AWp.ret (tR ?_);exact bR _ rfl ⟨rfl,rfl⟩ rfl
 ·
  replace h:=aF hc1 h;refine AWp.skip (tN (AWp.seq ?_));obtain⟨r2,hr2,h⟩:=bind_ok h;obtain⟨ob3,ob4,ob5,ob6,h⟩:=ck4 h;have ob7:∀i,i<1→isByte ((dH 1 [.int .u8 ((48:Int)+(x1%(10:Int)))]) i 0):=fun i hi=>match i,hi with|0,_=>trivial
  obtain⟨ob8,h⟩:=aB h;refine aZ [] [(2,⟨[.i (x1/(10:Int))],[],[],[],.str r2,[],[],[]⟩)] ⟨20,[(2,.str (r2++[UInt8.ofNat ((((48:Int)+(x1%(10:Int)))).toNat)]))],[],[],0⟩ (ac6 ob3 (cpT (ih _ _ hr2)) ob4 ob5 ob6 ob7 (an1 ob8)) ?_;refine tN ?_;have hret:=Option.some.inj h;subst hret;refine AWp.ret ?_;exact bR _ rfl ⟨rfl,rfl⟩ rfl
def fN (x1:List UInt8) (K1:Int→Option Int):Nat→(Int×Nat)→Option Int
 |0,_=>none
 |k+1,(i2,n3)=>
  if(decide ((n3:Int)<((x1.length:Nat):Int)))then(
  chk ((n3:Int)<((x1.length:Nat):Int))<|
  chk (((decide ((((x1.getD n3 0).toNat:Nat):Int)<(48:Int)))==false)=true→0≤(n3:Int)∧(n3:Int)<((x1.length:Nat):Int))<|
  if(((decide ((((x1.getD n3 0).toNat:Nat):Int)<(48:Int)))||(decide ((((x1.getD n3 0).toNat:Nat):Int)>(57:Int))))||(decide ((n3:Int)>(6:Int))))then(
  some (-1:Int)
  )else(
  chk (-9223372036854775808≤((10:Int) *i2)∧((10:Int) *i2)≤9223372036854775807)<|
  chk ((n3:Int)<((x1.length:Nat):Int))<|
  chk (0≤((((x1.getD n3 0).toNat:Nat):Int)-(48:Int))∧((((x1.getD n3 0).toNat:Nat):Int)-(48:Int))≤255)<|
  chk (-9223372036854775808≤((((x1.getD n3 0).toNat:Nat):Int)-(48:Int))∧((((x1.getD n3 0).toNat:Nat):Int)-(48:Int))≤9223372036854775807)<|
  chk (-9223372036854775808≤(((10:Int) *i2)+((((x1.getD n3 0).toNat:Nat):Int)-(48:Int)))∧(((10:Int) *i2)+((((x1.getD n3 0).toNat:Nat):Int)-(48:Int)))≤9223372036854775807)<|
  chk (((n3:Int)+(1:Int))≤9223372036854775807)<|
  (fN x1 K1 k) ((((10:Int) *i2)+((((x1.getD n3 0).toNat:Nat):Int)-(48:Int))),(n3+1))
  )
  )else(
  K1 i2
  )
def f82 (x1:List UInt8):Option Int:=
 jn (fun(i4:Int)=>
 gW ((x1==[])==false) (f88 bG i4) fun(r5:List UInt8)=>
 if((x1==[])||(!(r5==x1)))then(
 some (-1:Int)
 )else(
 some i4
 )
 ) fun(K1:Int→Option Int)=>
 fN x1 K1 bG ((0:Int),0)
theorem f82_ok (x1:List UInt8) (r:Int) (h:f82 x1=some r):aH Tryz.prog 82 [] [] [] [.str x1] (.int .i64 r) []:=by
 unfold f82 at h;refine aH.body 0 _ _ Tryz.func82 rfl Tryz.ntmps82 rfl rfl ?_;refine bJ [] [] [0] [] trivial ?_;refine aU [] [] ⟨42,[(0,.str x1),(3,.i (0:Int))],[],[],0⟩ trivial ?_;obtain⟨K1,hK1,h⟩:=aS h;refine AWp.join (α:=Int) (fun(i4:Int)=>⟨42,[(0,.str x1),(3,.i i4)],[],[],0⟩) (fun x=>K1 x=some r) ?_ ?_
 ·
  refine aU [] [] ⟨42,[(0,.str x1),(3,.i (0:Int)),(4,.i (0:Int))],[],[],0⟩ trivial ?_;refine AWp.block ?_;refine AWp.loopL (α:=Nat×(Int×Nat)) (fun x=>match x with|(_,i2,n3)=>⟨42,[(0,.str x1),(3,.i i2),(4,.i (n3:Int))],[],[],0⟩) (fun x=>fN x1 K1 x.1 x.2=some r) (fun x=>x.1) (bG,(0:Int),0) (LR (s':=⟨42,[(0,.str x1),(3,.i (0:Int)),(4,.i (0:Int))],[],[],0⟩)) h ?_
  rintro⟨k0,i2,n3⟩ h
  cases k0 with
  |zero=>exact nomatch (show none=some r from h)
  |succ k0=>
  obtain⟨C0,hC0⟩:∃C,C=fN x1 K1 k0:=⟨_,rfl⟩;replace h:=(fN.eq_2 ..).symm.trans h
  try rw[←hC0]at h
  refine AWp.seq ?_;refine aU [] [] ⟨42,[(0,.str x1),(3,.i i2),(4,.i (n3:Int)),(8,.bool (decide ((n3:Int)<(lZ x1))))],[],[],0⟩ trivial ?_;refine AWp.cond (b:=(decide ((n3:Int)<(lZ x1)))) (by kernel_rfl) (fun hc1=> ?_) (fun hc1=> ?_)
  ·
   replace h:=aE hc1 h;refine AWp.skip (tN (AWp.seq (AWp.block (AWp.seq (AWp.seq ?_)))));obtain⟨ob0p,h⟩:=aB h;have ob0:0≤(n3:Int)∧(n3:Int)<((x1.length:Nat):Int):=⟨by omega,ob0p⟩;obtain⟨ob1,h⟩:=aB h;have ob2:=idA (((decide ((((x1.getD n3 0).toNat:Nat):Int)<(48:Int)))==false)=true);have ob3:=idA (((decide ((((x1.getD n3 0).toNat:Nat):Int)<(48:Int)))==false)=true);have ob4:=idA (((decide ((((x1.getD n3 0).toNat:Nat):Int)<(48:Int)))==false)=true);have ob5:=bqA (decide ((((x1.getD n3 0).toNat:Nat):Int)<(48:Int))) false;have ob6:=idA ((((decide ((((x1.getD n3 0).toNat:Nat):Int)<(48:Int)))||(decide ((((x1.getD n3 0).toNat:Nat):Int)>(57:Int))))==false)=true);have ob7:=bqA ((decide ((((x1.getD n3 0).toNat:Nat):Int)<(48:Int)))||(decide ((((x1.getD n3 0).toNat:Nat):Int)>(57:Int)))) false;refine cA [] [] [0,3,4,24] [] (an6 ob0 (And.intro ob1 (an2 ob2 ob3)) (an1 ob4) ob5 (an1 ob6) ob7) ?_;refine tN ?_;refine AWp.cond (b:=(((decide ((((x1.getD n3 0).toNat:Nat):Int)<(48:Int)))||(decide ((((x1.getD n3 0).toNat:Nat):Int)>(57:Int))))||(decide ((n3:Int)>(6:Int))))) (by kernel_rfl) (fun hc2=> ?_) (fun hc2=> ?_)
   ·
    replace h:=aE hc2 h;refine aU [] [] ⟨42,[(2,.i (-1:Int))],[],[],0⟩ trivial ?_;have hret:=Option.some.inj h;subst hret;refine AWp.ret (tR (kR (tR (tR (kR (aY ?_))))));exact bR _ rfl ⟨rfl,rfl⟩ rfl
   ·
    replace h:=aF hc2 h;refine AWp.skip (tN ?_);obtain⟨ob8,ob9p,h⟩:=ck2 h;have ob9:0≤(n3:Int)∧(n3:Int)<((x1.length:Nat):Int):=⟨by omega,ob9p⟩;obtain⟨ob10,ob11,ob12,h⟩:=ck3 h;refine aZ [] [] ⟨42,[(0,.str x1),(3,.i (((10:Int) *i2)+((((x1.getD n3 0).toNat:Nat):Int)-(48:Int)))),(4,.i (n3:Int))],[],[],0⟩ (an5 ob8 ob9 ob10 ob11 ob12) ?_;refine kN (tN ?_);obtain⟨ob13p,h⟩:=aB h;have ob13: -9223372036854775808≤((n3:Int)+(1:Int))∧((n3:Int)+(1:Int))≤9223372036854775807:=⟨by omega,ob13p⟩;refine aZ [] [] ⟨42,[(0,.str x1),(3,.i (((10:Int) *i2)+((((x1.getD n3 0).toNat:Nat):Int)-(48:Int)))),(4,.i (((n3+1):Nat):Int))],[],[],0⟩ (an1 ob13) ?_;rw[hC0]at h;exact lN (_,(((10:Int) *i2)+((((x1.getD n3 0).toNat:Nat):Int)-(48:Int))),(n3+1)) LR h (Nat.lt_succ_self _)
  ·
   replace h:=aF hc1 h;refine AWp.exit (tE (tE (kS ?_)));exact jN (i2) LR h
 ·
  rintro i4 h;replace h:=(congrFun hK1 _).symm.trans h;refine AWp.seq (AWp.seq ?_);obtain⟨r5,hr5,h⟩:=cG h;have ob14:=idA (((x1==[])==false)=true);have ob15:=idA (((x1==[])==false)=true);have ob16:=idA (((x1==[])==false)=true);have ob17:=bqA (x1==[]) false;refine cA [] [(4,⟨[.i i4],[],[],[],.str r5,[],[],[]⟩)] [3,40] [] (an3 (And.intro (cpC fun hc=>(zR bG _ _ (hr5 hc))) (an1 ob14)) (an2 ob15 ob16) ob17) ?_;refine tN ?_;refine AWp.cond (b:=((x1==[])||(!(r5==x1)))) (by kernel_rfl) (fun hc3=> ?_) (fun hc3=> ?_)
  ·
   replace h:=aE hc3 h;refine aU [] [] ⟨42,[(2,.i (-1:Int))],[],[],0⟩ trivial ?_;have hret:=Option.some.inj h;subst hret;refine AWp.ret (tR ?_);exact bR _ rfl ⟨rfl,rfl⟩ rfl
  ·
   replace h:=aF hc3 h;refine AWp.skip (tN ?_);refine aU [] [] ⟨42,[(2,.i i4)],[],[],0⟩ trivial ?_;have hret:=Option.some.inj h;subst hret;refine AWp.ret ?_;exact bR _ rfl ⟨rfl,rfl⟩ rfl
abbrev aAr (x1:Int):=((decide (x1<(0:Int)))||(decide (x1≥(6:Int))))
abbrev aAq (x1 x2:Int):=((aAr x1)||(decide (x2<(1:Int))))
abbrev f119z2 (x1:Int):=((decide (x1<(0:Int)))==false)
def f119 (x1 x2:Int) (x3:List UInt8):Option Int:=
 if((((decide (x1<(0:Int)))||(decide (x1≥(6:Int))))||(decide (x2<(1:Int))))||(decide (x2>(1000000:Int))))then(
 some (7:Int)
 )else(
 if(x3==[])then(
 some (9:Int)
 )else(
 if(decide (((x3.length:Nat):Int)>(200:Int)))then(
 some (3:Int)
 )else(
 some (0:Int)
 )
 )
 )
theorem f119_ok (x1 x2:Int) (x3:List UInt8) (r:Int) (h:f119 x1 x2 x3=some r):aH Tryz.prog 119 [] [] [] [.agg [.int .i64 x1,.int .i64 x2,.str x3]] (.int .i64 r) []:=by
 unfold f119 at h;refine aH.body 0 _ _ Tryz.func119 rfl Tryz.ntmps119 rfl rfl ?_;refine bJ [] [] [1] [1] trivial ?_;refine AWp.seq (AWp.seq ?_);have ob0:=idA ((f119z2 x1)=true);have ob1:=idA ((f119z2 x1)=true);have ob2:true=true→(decide (x1<(0:Int)))=false→(f119z2 x1)=true:=fun _ h=>beq_iff_eq.2 h;have ob3:=idA (((aAr x1)==false)=true);have ob4:=idA (((aAr x1)==false)=true);have ob5:=bqA (aAr x1) false;have ob6:=idA (((aAq x1 x2)==false)=true);have ob7:=idA (((aAq x1 x2)==false)=true);have ob8:=bqA (aAq x1 x2) false;refine cA [] [] [1,20] [1] (ac6 (an1 ob0) (an1 ob1) ob2 (an1 ob3) (an1 ob4) ob5 (an3 (an1 ob6) (an1 ob7) ob8)) ?_;refine tN ?_;refine AWp.cond (b:=((aAq x1 x2)||(decide (x2>(1000000:Int))))) (by kernel_rfl) (fun hc1=> ?_) (fun hc1=> ?_)
 ·
  replace h:=aE hc1 h;refine aU [] [] ⟨28,[(2,.i (7:Int))],[],[],0⟩ trivial ?_;have hret:=Option.some.inj h;subst hret;refine AWp.ret (tR ?_);exact bR _ rfl ⟨rfl,rfl⟩ rfl
 ·
  replace h:=aF hc1 h;refine AWp.skip (tN (AWp.seq ?_));refine bJ [] [] [1,23] [1] trivial ?_;refine AWp.cond (b:=(x3==[])) (by kernel_rfl) (fun hc2=> ?_) (fun hc2=> ?_)
  ·
   replace h:=aE hc2 h;refine aU [] [] ⟨28,[(2,.i (9:Int))],[],[],0⟩ trivial ?_;have hret:=Option.some.inj h;subst hret;refine AWp.ret (tR ?_);exact bR _ rfl ⟨rfl,rfl⟩ rfl
  ·
   replace h:=aF hc2 h;refine AWp.skip (tN (AWp.seq ?_));refine bJ [] [] [27] [] trivial ?_;refine AWp.cond (b:=(decide ((lZ x3)>(200:Int)))) (by kernel_rfl) (fun hc3=> ?_) (fun hc3=> ?_)
   ·
    replace h:=aE hc3 h;refine aU [] [] ⟨28,[(2,.i (3:Int))],[],[],0⟩ trivial ?_;have hret:=Option.some.inj h;subst hret;refine AWp.ret (tR ?_);exact bR _ rfl ⟨rfl,rfl⟩ rfl
   ·
    replace h:=aF hc3 h;refine AWp.skip (tN ?_);refine aU [] [] ⟨28,[(2,.i (0:Int))],[],[],0⟩ trivial ?_;have hret:=Option.some.inj h;subst hret;refine AWp.ret ?_;exact bR _ rfl ⟨rfl,rfl⟩ rfl
def f149 (x1 x2:Int) (x3:List UInt8) (x4 x5:Int) (x6:List UInt8):Option Bool:=
 some ((x1==x4)&&(x2==x5))
theorem f149_ok (x1 x2:Int) (x3:List UInt8) (x4 x5:Int) (x6:List UInt8) (r:Bool) (h:f149 x1 x2 x3 x4 x5 x6=some r):aH Tryz.prog 149 [] [] [] [.agg [.int .i64 x1,.int .i64 x2,.str x3],.agg [.int .i64 x4,.int .i64 x5,.str x6]] (.bool r) []:=by
 unfold f149 at h;refine aH.body 0 _ _ Tryz.func149 rfl Tryz.ntmps149 rfl rfl ?_;refine bJ [] [] [2,3] [2,3] trivial ?_;refine AWp.seq ?_;have ob0:=idA (((x1==x4)==true)=true);have ob1:=idA (((x1==x4)==true)=true);have ob2:=idA (((x1==x4)==true)=true);have ob3:=idA (((x1==x4)==true)=true);have ob4:=bqA (x1==x4) true;refine aZ [] [] ⟨17,[(4,.bool ((x1==x4)&&(x2==x5)))],[],[],0⟩ (an4 (an1 ob0) (an1 ob1) (an2 ob2 ob3) ob4) ?_;refine tN ?_;have hret:=Option.some.inj h;subst hret;refine AWp.ret ?_;exact bR _ rfl ⟨rfl,rfl⟩ rfl
def gO (x1:List Tq0) (x2 x3:Int) (x4:List UInt8) (K1:Unit→Option Bool):Nat→Nat→Option Bool
 |0,_=>none
 |k+1,n5=>
  if(decide ((n5:Int)<(((x1).length:Nat):Int)))then(
  (f149 ((x1.getD n5 (default:Tq0)).1) ((x1.getD n5 (default:Tq0)).2.1) ((x1.getD n5 (default:Tq0)).2.2) x2 x3 x4).bind fun(r6:Bool)=>
  chk ((n5:Int)<(((x1).length:Nat):Int))<|
  if r6 then(
  some true
  )else(
  chk (((n5:Int)+(1:Int))≤9223372036854775807)<|
  (gO x1 x2 x3 x4 K1 k) (n5+1)
  )
  )else(
  K1 ()
  )
abbrev oY (x2 x3:Int) (x4:List UInt8):aK:=[(3,.cells 88 [.int .i64 x2,.int .i64 x3,.str x4])]
def f120 (x1:List Tq0) (x2 x3:Int) (x4:List UInt8):Option Bool:=
 jn (fun(_:Unit)=>
 some false
 ) fun(K1:Unit→Option Bool)=>
 gO x1 x2 x3 x4 K1 bG 0
theorem f120_ok (x1:List Tq0) (x2 x3:Int) (x4:List UInt8) (r:Bool) (h:f120 x1 x2 x3 x4=some r):aH Tryz.prog 120 [] [] [] [vL 3 bW (default:Tq0) x1,.agg [.int .i64 x2,.int .i64 x3,.str x4]] (.bool r) []:=by
 unfold f120 at h;refine aH.body 0 _ _ Tryz.func120 rfl Tryz.ntmps120 rfl rfl ?_;refine aU [] [] ⟨18,[(0,aT x1),(3,.ptr 3 0)],(oY x2 x3 x4),[],0⟩ trivial ?_;obtain⟨K1,hK1,h⟩:=aS h;refine AWp.join (fun(x:Unit)=>match x with|()=>⟨18,[],[],[],0⟩) (fun x=>K1 x=some r) ?_ ?_
 ·
  refine aU [] [] ⟨18,[(0,aT x1),(3,.ptr 3 0),(5,.i (0:Int))],(oY x2 x3 x4),[],0⟩ trivial ?_;refine AWp.block ?_;refine AWp.loopL (α:=Nat×Nat) (fun x=>match x with|(_,n5)=>⟨18,[(0,aT x1),(3,.ptr 3 0),(5,.i (n5:Int))],(oY x2 x3 x4),[],0⟩) (fun x=>gO x1 x2 x3 x4 K1 x.1 x.2=some r) (fun x=>x.1) (bG,0) (LR (s':=⟨18,[(0,aT x1),(3,.ptr 3 0),(5,.i (0:Int))],(oY x2 x3 x4),[],0⟩)) h ?_
  rintro⟨k0,n5⟩ h
  cases k0 with
  |zero=>exact nomatch (show none=some r from h)
  |succ k0=>
  obtain⟨C0,hC0⟩:∃C,C=gO x1 x2 x3 x4 K1 k0:=⟨_,rfl⟩;replace h:=(gO.eq_2 ..).symm.trans h
  try rw[←hC0]at h
  refine AWp.seq ?_;refine aU [] [] ⟨18,[(0,aT x1),(3,.ptr 3 0),(5,.i (n5:Int)),(9,.bool (decide ((n5:Int)<(lZ x1))))],(oY x2 x3 x4),[],0⟩ trivial ?_;refine AWp.cond (b:=(decide ((n5:Int)<(lZ x1)))) (by kernel_rfl) (fun hc1=> ?_) (fun hc1=> ?_)
  ·
   replace h:=aE hc1 h;refine AWp.skip (tN (AWp.seq (AWp.block (AWp.seq ?_))));obtain⟨r6,hr6,h⟩:=bind_ok h;obtain⟨ob0p,h⟩:=aB h;have ob0:0≤(n5:Int)∧(n5:Int)<(((x1).length:Nat):Int):=⟨by omega,ob0p⟩;refine aZ [] [(5,⟨[.agg [.i (x1.getD n5 bB).1,.i (x1.getD n5 bB).2.1,.str (x1.getD n5 bB).2.2],.agg [.i x2,.i x3,.str x4]],[],[],[],.bool r6,[],[],[]⟩)] ⟨18,[(0,aT x1),(3,.ptr 3 0),(5,.i (n5:Int)),(17,.bool r6)],(oY x2 x3 x4),[],0⟩ (an2 ob0 (cpT (f149_ok _ _ _ _ _ _ _ hr6))) ?_;refine tN ?_;refine AWp.cond (b:=r6) (by kernel_rfl) (fun hc2=> ?_) (fun hc2=> ?_)
   ·
    replace h:=aE hc2 h;refine aU [] [] ⟨18,[(4,.bool true)],[],[],0⟩ trivial ?_;have hret:=Option.some.inj h;subst hret;refine AWp.ret (kR (tR (tR (kR (aY ?_)))));exact bR _ rfl ⟨rfl,rfl⟩ rfl
   ·
    replace h:=aF hc2 h;refine AWp.skip (kN (tN ?_));obtain⟨ob1p,h⟩:=aB h;have ob1: -9223372036854775808≤((n5:Int)+(1:Int))∧((n5:Int)+(1:Int))≤9223372036854775807:=⟨by omega,ob1p⟩;refine aZ [] [] ⟨18,[(0,aT x1),(3,.ptr 3 0),(5,.i (((n5+1):Nat):Int))],(oY x2 x3 x4),[],0⟩ (an1 ob1) ?_;rw[hC0]at h;exact lN (_,(n5+1)) LR h (Nat.lt_succ_self _)
  ·
   replace h:=aF hc1 h;refine AWp.exit (tE (tE (kS ?_)));exact jN () LR h
 ·
  rintro⟨⟩ h;replace h:=(congrFun hK1 _).symm.trans h;refine aU [] [] ⟨18,[(4,.bool false)],[],[],0⟩ trivial ?_;have hret:=Option.some.inj h;subst hret;refine AWp.ret ?_;exact bR _ rfl ⟨rfl,rfl⟩ rfl
def jI (x1:List Tq0) (K1:Unit→Option Int):Nat→Nat→Option Int
 |0,_=>none
 |k+1,n2=>
  if(decide ((n2:Int)<(((x1).length:Nat):Int)))then(
  (f119 ((x1.getD n2 (default:Tq0)).1) ((x1.getD n2 (default:Tq0)).2.1) ((x1.getD n2 (default:Tq0)).2.2)).bind fun(r3:Int)=>
  chk ((n2:Int)<(((x1).length:Nat):Int))<|
  if(r3 !=(0:Int))then(
  some r3
  )else(
  (f120 (x1.take n2) ((x1.getD n2 (default:Tq0)).1) ((x1.getD n2 (default:Tq0)).2.1) ((x1.getD n2 (default:Tq0)).2.2)).bind fun(r4:Bool)=>
  chk ((n2:Int)≤(((x1).length:Nat):Int))<|
  chk ((n2:Int)<(((x1).length:Nat):Int))<|
  if r4 then(
  some (5:Int)
  )else(
  chk (((n2:Int)+(1:Int))≤9223372036854775807)<|
  (jI x1 K1 k) (n2+1)
  )
  )
  )else(
  K1 ()
  )
abbrev f86z0 (x1:List Tq0) (n2:Nat):List V:=[.int .i64 (x1.getD n2 (default:Tq0)).1,.int .i64 (x1.getD n2 (default:Tq0)).2.1,.str (x1.getD n2 (default:Tq0)).2.2]
def f86 (x1:List Tq0):Option Int:=
 jn (fun(_:Unit)=>
 some (0:Int)
 ) fun(K1:Unit→Option Int)=>
 jI x1 K1 bG 0
theorem f86_ok (x1:List Tq0) (r:Int) (h:f86 x1=some r):aH Tryz.prog 86 [] [] [] [vL 3 bW (default:Tq0) x1] (.int .i64 r) []:=by
 unfold f86 at h;refine aH.body 0 _ _ Tryz.func86 rfl Tryz.ntmps86 rfl rfl ?_;refine aU [] [] ⟨27,[(0,aT x1)],[],[],0⟩ trivial ?_;obtain⟨K1,hK1,h⟩:=aS h;refine AWp.join (fun(x:Unit)=>match x with|()=>⟨27,[],[],[],0⟩) (fun x=>K1 x=some r) ?_ ?_
 ·
  refine aU [] [] ⟨27,[(0,aT x1),(3,.i (0:Int))],[],[],0⟩ trivial ?_;refine AWp.block ?_;refine AWp.loopL (α:=Nat×Nat) (fun x=>match x with|(_,n2)=>⟨27,[(0,aT x1),(3,.i (n2:Int))],[],[],0⟩) (fun x=>jI x1 K1 x.1 x.2=some r) (fun x=>x.1) (bG,0) (LR (s':=⟨27,[(0,aT x1),(3,.i (0:Int))],[],[],0⟩)) h ?_
  rintro⟨k0,n2⟩ h
  cases k0 with
  |zero=>exact nomatch (show none=some r from h)
  |succ k0=>
  obtain⟨C0,hC0⟩:∃C,C=jI x1 K1 k0:=⟨_,rfl⟩;replace h:=(jI.eq_2 ..).symm.trans h
  try rw[←hC0]at h
  refine AWp.seq ?_;refine aU [] [] ⟨27,[(0,aT x1),(3,.i (n2:Int)),(8,.bool (decide ((n2:Int)<(lZ x1))))],[],[],0⟩ trivial ?_;refine AWp.cond (b:=(decide ((n2:Int)<(lZ x1)))) (by kernel_rfl) (fun hc1=> ?_) (fun hc1=> ?_)
  ·
   replace h:=aE hc1 h;refine AWp.skip (tN (AWp.seq (AWp.block (AWp.seq (AWp.seq ?_)))));obtain⟨r3,hr3,h⟩:=bind_ok h;obtain⟨ob0p,h⟩:=aB h;have ob0:0≤(n2:Int)∧(n2:Int)<(((x1).length:Nat):Int):=⟨by omega,ob0p⟩;refine cA [] [(4,⟨[.agg (f86z0 x1 n2)],[],[],[],.i r3,[],[],[]⟩)] [0,3,4] [] (an2 ob0 (cpT (f119_ok _ _ _ _ hr3))) ?_;refine tN ?_;refine bJ [] [] [0,3,4,17] [] trivial ?_;refine AWp.cond (b:=(r3 !=(0:Int))) (by kernel_rfl) (fun hc2=> ?_) (fun hc2=> ?_)
   ·
    replace h:=aE hc2 h;refine aU [] [] ⟨27,[(2,.i r3)],[],[],0⟩ trivial ?_;have hret:=Option.some.inj h;subst hret;refine AWp.ret (tR (kR (tR (tR (kR (aY ?_))))));exact bR _ rfl ⟨rfl,rfl⟩ rfl
   ·
    replace h:=aF hc2 h;refine AWp.skip (tN (AWp.seq ?_));obtain⟨r4,hr4,h⟩:=bind_ok h;obtain⟨ob1p,h⟩:=aB h;have ob1:0≤(n2:Int)∧(n2:Int)≤(((x1).length:Nat):Int):=⟨by omega,ob1p⟩;obtain⟨ob2p,h⟩:=aB h;have ob2:0≤(n2:Int)∧(n2:Int)<(((x1).length:Nat):Int):=⟨by omega,ob2p⟩;refine aZ [] [(7,⟨[aT (x1.take n2),.agg (f86z0 x1 n2)],[],[],[],.bool r4,[],[],[]⟩)] ⟨27,[(0,aT x1),(3,.i (n2:Int)),(26,.bool r4)],[],[],0⟩ (an3 ob1 ob2 (cpL (c:=true) [] [] [.arr 3 n2 (cD bW bB x1),.agg (f86z0 x1 n2)] (fun _=>(f120_ok _ _ _ _ _ hr4)) (fun _=>⟨(VLe.takeL (by first|omega|(simp only[List.length_append,List.length_cons,List.length_nil,List.length_take,List.length_drop]at *;omega)|(simp;done)|(simp_all;done)|(simp_all;omega)|rfl)),.refl _,trivial⟩) (.inl rfl))) ?_;refine tN ?_;refine AWp.cond (b:=r4) (by kernel_rfl) (fun hc3=> ?_) (fun hc3=> ?_)
    ·
     replace h:=aE hc3 h;refine aU [] [] ⟨27,[(2,.i (5:Int))],[],[],0⟩ trivial ?_;have hret:=Option.some.inj h;subst hret;refine AWp.ret (kR (tR (tR (kR (aY ?_)))));exact bR _ rfl ⟨rfl,rfl⟩ rfl
    ·
     replace h:=aF hc3 h;refine AWp.skip (kN (tN ?_));obtain⟨ob3p,h⟩:=aB h;have ob3: -9223372036854775808≤((n2:Int)+(1:Int))∧((n2:Int)+(1:Int))≤9223372036854775807:=⟨by omega,ob3p⟩;refine aZ [] [] ⟨27,[(0,aT x1),(3,.i (((n2+1):Nat):Int))],[],[],0⟩ (an1 ob3) ?_;rw[hC0]at h;exact lN (_,(n2+1)) LR h (Nat.lt_succ_self _)
  ·
   replace h:=aF hc1 h;refine AWp.exit (tE (tE (kS ?_)));exact jN () LR h
 ·
  rintro⟨⟩ h;replace h:=(congrFun hK1 _).symm.trans h;refine aU [] [] ⟨27,[(2,.i (0:Int))],[],[],0⟩ trivial ?_;have hret:=Option.some.inj h;subst hret;refine AWp.ret ?_;exact bR _ rfl ⟨rfl,rfl⟩ rfl
def aBp :Nat→Int→Option Ty0
 |0,_=>none
 |k+1,x1=>
  if(decide (x1<(128:Int)))then(
  chk (0≤x1∧x1≤255)<|
  some [UInt8.ofNat ((x1).toNat)]
  )else(
  ((aBp k) (x1/(128:Int))).bind fun(r2:List UInt8)=>
  chk (0≤x1∧1≤(128:Int))<|
  chk (-9223372036854775808≤((x1%(128:Int))+(128:Int))∧((x1%(128:Int))+(128:Int))≤9223372036854775807)<|
  chk (0≤((x1%(128:Int))+(128:Int))∧((x1%(128:Int))+(128:Int))≤255)<|
  chk (0≤x1∧1≤(128:Int)∧ -9223372036854775808≤(x1/(128:Int))∧(x1/(128:Int))≤9223372036854775807)<|
  chk ([UInt8.ofNat ((((x1%(128:Int))+(128:Int))).toNat)].length+r2.length≤9223372036854775807)<|
  some ([UInt8.ofNat ((((x1%(128:Int))+(128:Int))).toNat)]++r2)
  )
theorem f121_ok :∀(k:Nat) (x1:Int) (r:List UInt8),aBp k x1=some r→aH Tryz.prog 121 [] [] [] [.int .i64 x1] (.str r) []:=by
 intro k
 induction k with
 |zero=>intro x1 r h;exact nomatch (show none=some r from h)
 |succ k ih=>
 intro x1 r h;obtain⟨Frec,hFrec⟩:∃C,C=aBp k:=⟨_,rfl⟩;rw[aBp.eq_2]at h;rw[←hFrec]at h ih;refine aH.body 0 _ _ Tryz.func121 rfl Tryz.ntmps121 rfl rfl ?_;refine bJ [] [] [0] [] trivial ?_;refine AWp.seq ?_;refine bJ [] [] [0,4] [] trivial ?_;refine AWp.cond (b:=(decide (x1<(128:Int)))) (by kernel_rfl) (fun hc1=> ?_) (fun hc1=> ?_)
 ·
  replace h:=aE hc1 h;refine AWp.seq ?_;obtain⟨ob0,h⟩:=aB h;have ob1:∀i,i<1→isByte ((dH 1 [.int .u8 x1]) i 0):=fun i hi=>match i,hi with|0,_=>trivial
  refine aZ [] [] ⟨19,[(2,.str [UInt8.ofNat ((x1).toNat)])],[],[],0⟩ (an2 ob0 ob1) ?_;refine tN ?_;have hret:=Option.some.inj h;subst hret;refine AWp.ret (tR ?_);exact bR _ rfl ⟨rfl,rfl⟩ rfl
 ·
  replace h:=aF hc1 h;refine AWp.skip (tN (AWp.seq ?_));obtain⟨r2,hr2,h⟩:=bind_ok h;obtain⟨ob2,ob3,ob4,h⟩:=ck3 h;have ob5:∀i,i<1→isByte ((dH 1 [.int .u8 ((x1%(128:Int))+(128:Int))]) i 0):=fun i hi=>match i,hi with|0,_=>trivial
  obtain⟨ob6,ob7,h⟩:=ck2 h;refine aZ [] [(8,⟨[.i (x1/(128:Int))],[],[],[],.str r2,[],[],[]⟩)] ⟨19,[(2,.str ([UInt8.ofNat ((((x1%(128:Int))+(128:Int))).toNat)]++r2))],[],[],0⟩ (ac6 ob2 ob3 ob4 ob5 ob6 (cpT (ih _ _ hr2)) (an1 ob7)) ?_;refine tN ?_;have hret:=Option.some.inj h;subst hret;refine AWp.ret ?_;exact bR _ rfl ⟨rfl,rfl⟩ rfl
def iF (x1:List Ty0) (K1:Ty0→Option Ty0):Nat→(List UInt8×Nat)→Option Ty0
 |0,_=>none
 |k+1,(s3,n4)=>
  if(decide ((n4:Int)<(((x1).length:Nat):Int)))then(
  (aBp bG (((x1.getD n4 []).length:Nat):Int)).bind fun(r5:List UInt8)=>
  chk ((n4:Int)<(((x1).length:Nat):Int))<|
  chk (s3.length+r5.length≤9223372036854775807)<|
  chk ((n4:Int)<(((x1).length:Nat):Int))<|
  chk ((s3++r5).length+(x1.getD n4 []).length≤9223372036854775807)<|
  chk (((n4:Int)+(1:Int))≤9223372036854775807)<|
  (iF x1 K1 k) (((s3++r5)++(x1.getD n4 [])),(n4+1))
  )else(
  K1 s3
  )
def f87 (x1:List Ty0):Option Ty0:=
 (aBp bG (((x1).length:Nat):Int)).bind fun(r2:List UInt8)=>
 jn (fun(s6:List UInt8)=>
 some s6
 ) fun(K1:Ty0→Option Ty0)=>
 iF x1 K1 bG (r2,0)
theorem f87_ok (x1:List Ty0) (r:List UInt8) (h:f87 x1=some r):aH Tryz.prog 87 [] [] [] [vL 1 eS [] x1] (.str r) []:=by
 unfold f87 at h;refine aH.body 0 _ _ Tryz.func87 rfl Tryz.ntmps87 rfl rfl ?_;refine bJ [] [] [0] [] trivial ?_;refine AWp.seq ?_;obtain⟨r2,hr2,h⟩:=bind_ok h;refine aZ [] [(2,⟨[.i (lZ x1)],[],[],[],.str r2,[],[],[]⟩)] ⟨28,[(0,cS x1),(3,.str r2)],[],[],0⟩ (an1 (cpT (f121_ok bG _ _ hr2))) ?_;refine tN ?_;obtain⟨K1,hK1,h⟩:=aS h;refine AWp.join (α:=List UInt8) (fun(s6:List UInt8)=>⟨28,[(3,.str s6)],[],[],0⟩) (fun x=>K1 x=some r) ?_ ?_
 ·
  refine aU [] [] ⟨28,[(0,cS x1),(3,.str r2),(4,.i (0:Int))],[],[],0⟩ trivial ?_;refine AWp.block ?_;refine AWp.loopL (α:=Nat×(List UInt8×Nat)) (fun x=>match x with|(_,s3,n4)=>⟨28,[(0,cS x1),(3,.str s3),(4,.i (n4:Int))],[],[],0⟩) (fun x=>iF x1 K1 x.1 x.2=some r) (fun x=>x.1) (bG,r2,0) (LR (s':=⟨28,[(0,cS x1),(3,.str r2),(4,.i (0:Int))],[],[],0⟩)) h ?_
  rintro⟨k0,s3,n4⟩ h
  cases k0 with
  |zero=>exact nomatch (show none=some r from h)
  |succ k0=>
  obtain⟨C0,hC0⟩:∃C,C=iF x1 K1 k0:=⟨_,rfl⟩;replace h:=(iF.eq_2 ..).symm.trans h
  try rw[←hC0]at h
  refine AWp.seq ?_;refine aU [] [] ⟨28,[(0,cS x1),(3,.str s3),(4,.i (n4:Int)),(11,.bool (decide ((n4:Int)<(lZ x1))))],[],[],0⟩ trivial ?_;refine AWp.cond (b:=(decide ((n4:Int)<(lZ x1)))) (by kernel_rfl) (fun hc1=> ?_) (fun hc1=> ?_)
  ·
   replace h:=aE hc1 h;refine AWp.skip (tN (AWp.seq (AWp.block ?_)));obtain⟨r5,hr5,h⟩:=bind_ok h;obtain⟨ob0p,h⟩:=aB h;have ob0:0≤(n4:Int)∧(n4:Int)<(((x1).length:Nat):Int):=⟨by omega,ob0p⟩;obtain⟨ob1,ob2p,h⟩:=ck2 h;have ob2:0≤(n4:Int)∧(n4:Int)<(((x1).length:Nat):Int):=⟨by omega,ob2p⟩;obtain⟨ob3,h⟩:=aB h;refine aZ [] [(6,⟨[.i (((x1.getD n4 []).length:Nat):Int)],[],[],[],.str r5,[],[],[]⟩)] ⟨28,[(0,cS x1),(3,.str ((s3++r5)++(x1.getD n4 []))),(4,.i (n4:Int))],[],[],0⟩ (an5 ob0 (cpT (f121_ok bG _ _ hr5)) ob1 ob2 ob3) ?_;refine kN (tN ?_);obtain⟨ob4p,h⟩:=aB h;have ob4: -9223372036854775808≤((n4:Int)+(1:Int))∧((n4:Int)+(1:Int))≤9223372036854775807:=⟨by omega,ob4p⟩;refine aZ [] [] ⟨28,[(0,cS x1),(3,.str ((s3++r5)++(x1.getD n4 []))),(4,.i (((n4+1):Nat):Int))],[],[],0⟩ (an1 ob4) ?_;rw[hC0]at h;exact lN (_,((s3++r5)++(x1.getD n4 [])),(n4+1)) LR h (Nat.lt_succ_self _)
  ·
   replace h:=aF hc1 h;refine AWp.exit (tE (tE (kS ?_)));exact jN (s3) LR h
 ·
  rintro s6 h;replace h:=(congrFun hK1 _).symm.trans h;refine aU [] [] ⟨28,[(2,.str s6)],[],[],0⟩ trivial ?_;have hret:=Option.some.inj h;subst hret;refine AWp.ret ?_;exact bR _ rfl ⟨rfl,rfl⟩ rfl
def iI (x3:List Tq0) (K1:(List Ty0)→Option Ty0):Nat→(Nat×List Ty0)→Option Ty0
 |0,_=>none
 |k+1,(n7,l8)=>
  if(decide ((n7:Int)<(((x3).length:Nat):Int)))then(
  chk ((n7:Int)<(((x3).length:Nat):Int))<|
  (f88 bG ((x3.getD n7 (default:Tq0)).1)).bind fun(r9:List UInt8)=>
  (f88 bG ((x3.getD n7 (default:Tq0)).2.1)).bind fun(r10:List UInt8)=>
  chk (((l8).length+3) *16≤140737488355328)<|
  chk (((n7:Int)+(1:Int))≤9223372036854775807)<|
  (iI x3 K1 k) ((n7+1),(l8++[r9,r10,(x3.getD n7 (default:Tq0)).2.2]))
  )else(
  K1 l8
  )
abbrev pR (x1 x2:Int) (x3:List Tq0):List V:=[.int .i64 x1,.int .i64 x2,vL 3 bW (default:Tq0) x3]
abbrev xJ (x3:List Tq0) (n7:Nat):=(x3.getD n7 (default:Tq0))
abbrev f65z2 (n7:Nat):List (Nat×V):=[(1,.ptr 1 0),(3,.own 19),(4,.int .i64 (n7:Int))]
def f65 (x1 x2:Int) (x3:List Tq0):Option Ty0:=
 if(x1==(2:Int))then(
 (f88 bG x2).bind fun(r4:List UInt8)=>
 (f87 ([([106,111,105,110]:List UInt8),r4])).bind fun(r5:List UInt8)=>
 some r5
 )else(
 if(x1==(3:Int))then(
 (f87 [cs1]).bind fun(r6:List UInt8)=>
 some r6
 )else(
 jn (fun(l11:List Ty0)=>
 (f87 l11).bind fun(r12:List UInt8)=>
 some r12
 ) fun(K1:(List Ty0)→Option Ty0)=>
 iI x3 K1 bG (0,[cs2])
 )
 )
theorem f65_ok (x1 x2:Int) (x3:List Tq0) (r:List UInt8) (h:f65 x1 x2 x3=some r):aH Tryz.prog 65 [] [] [] [.agg [.int .i64 x1,.int .i64 x2,vL 3 bW (default:Tq0) x3]] (.str r) []:=by
 unfold f65 at h;refine aH.body 0 _ _ Tryz.func65 rfl Tryz.ntmps65 rfl rfl ?_;refine bJ [] [] [1] [1] trivial ?_;refine AWp.seq ?_;refine bJ [] [] [1,7] [1] trivial ?_;refine AWp.block ?_;refine bJ [] [] [1,7,8] [1] trivial ?_;refine AWp.cond (b:=(x1==(2:Int))) (by kernel_rfl) (fun hc1=> ?_) (fun hc1=> ?_)
 ·
  replace h:=aE hc1 h;refine AWp.seq ?_;obtain⟨r4,hr4,h⟩:=bind_ok h;obtain⟨r5,hr5,h⟩:=bind_ok h;refine aZ [] [(2,⟨[.i x2],[],[],[],.str r4,[],[],[]⟩),(4,⟨[cS [([106,111,105,110]:List UInt8),r4]],[],[],[],.str r5,[],[13],[]⟩)] ⟨45,[(2,.str r5)],[],[],0⟩ (an2 (cpT (zR bG _ _ hr4)) (cpL (c:=true) [(13,.rows 9 1 2 (dH 1 [.str ([106,111,105,110]:List UInt8),.str r4]))] [13] [.own 13] (fun _=>(f87_ok _ _ hr5)) (fun _=>⟨(VLe.of (RL.lst (enc:=eS) [([106,111,105,110]:List UInt8),r4] rfl rfl (fun _=>rfl))),trivial⟩) (.inr ⟨rfl,trivial⟩))) ?_;refine tN ?_;have hret:=Option.some.inj h;subst hret;refine AWp.ret (kR (tR ?_));exact bR _ rfl ⟨rfl,rfl⟩ rfl
 ·
  replace h:=aF hc1 h;refine aU [] [] ⟨45,[(1,.ptr 1 0),(15,.bool (x1==(3:Int)))],[(1,.cells 100 (pR x1 x2 x3))],[],0⟩ trivial ?_;refine AWp.cond (b:=(x1==(3:Int))) (by kernel_rfl) (fun hc2=> ?_) (fun hc2=> ?_)
  ·
   replace h:=aE hc2 h;refine AWp.seq ?_;obtain⟨r6,hr6,h⟩:=bind_ok h;refine aZ [] [(1,⟨[cS [cs1]],[],[],[],.str r6,[],[17],[]⟩)] ⟨45,[(2,.str r6)],[],[],0⟩ (an1 (cpL (c:=true) [(17,.rows 9 1 1 (dH 1 [.str cs1]))] [17] [.own 17] (fun _=>(f87_ok _ _ hr6)) (fun _=>⟨(VLe.of (RL.lst (enc:=eS) [cs1] rfl rfl (fun _=>rfl))),trivial⟩) (.inr ⟨rfl,trivial⟩))) ?_;refine tN ?_;have hret:=Option.some.inj h;subst hret;refine AWp.ret (kR (tR ?_));exact bR _ rfl ⟨rfl,rfl⟩ rfl
  ·
   replace h:=aF hc2 h;refine AWp.skip (kN (tN ?_));refine aU [] [] ⟨45,[(1,.ptr 1 0),(3,.own 19)],[(1,.cells 100 (pR x1 x2 x3)),(19,.rows 9 1 1 (dH 1 [.str cs2]))],[],0⟩ trivial ?_;refine AWp.le (Le.mk (s':=⟨45,[(1,.ptr 1 0),(3,.own 19)],[(1,.cells 100 (pR x1 x2 x3)),(19,aG [cs2])],[],0⟩) rfl rfl ⟨.refl _,.refl _,trivial⟩ ⟨⟨_,rfl,.refl _⟩,⟨_,rfl,(BLe.of (RL.lst (enc:=eS) [cs2] rfl rfl (fun _=>rfl)))⟩,trivial⟩) ?_;obtain⟨K1,hK1,h⟩:=aS h;refine AWp.join (α:=List Ty0) (fun(l11:List Ty0)=>⟨45,[(3,.own 19)],[(19,aG l11)],[],0⟩) (fun x=>K1 x=some r) ?_ ?_
   ·
    refine aU [] [] ⟨45,[(1,.ptr 1 0),(3,.own 19),(4,.i (0:Int))],[(1,.cells 100 (pR x1 x2 x3)),(19,aG [cs2])],[],0⟩ trivial ?_;refine AWp.block ?_;refine AWp.loopL (α:=Nat×(Nat×List Ty0)) (fun x=>match x with|(_,n7,l8)=>⟨45,(f65z2 n7),[(1,.cells 100 (pR x1 x2 x3)),(19,aG l8)],[],0⟩) (fun x=>iI x3 K1 x.1 x.2=some r) (fun x=>x.1) (bG,0,[cs2]) (LR (s':=⟨45,[(1,.ptr 1 0),(3,.own 19),(4,.i (0:Int))],[(1,.cells 100 (pR x1 x2 x3)),(19,aG [cs2])],[],0⟩)) h ?_
    rintro⟨k0,n7,l8⟩ h
    cases k0 with
    |zero=>exact nomatch (show none=some r from h)
    |succ k0=>
    obtain⟨C0,hC0⟩:∃C,C=iI x3 K1 k0:=⟨_,rfl⟩;replace h:=(iI.eq_2 ..).symm.trans h
    try rw[←hC0]at h
    refine AWp.seq ?_;refine aU [] [] ⟨45,[(1,.ptr 1 0),(3,.own 19),(4,.i (n7:Int)),(24,.bool (decide ((n7:Int)<(lZ x3))))],[(1,.cells 100 (pR x1 x2 x3)),(19,aG l8)],[],0⟩ trivial ?_;refine AWp.cond (b:=(decide ((n7:Int)<(lZ x3)))) (by kernel_rfl) (fun hc3=> ?_) (fun hc3=> ?_)
    ·
     replace h:=aE hc3 h;refine AWp.skip (tN (AWp.seq (AWp.block (AWp.seq ?_))));obtain⟨ob0p,h⟩:=aB h;have ob0:0≤(n7:Int)∧(n7:Int)<(((x3).length:Nat):Int):=⟨by omega,ob0p⟩;refine cA [] [] [1,3,4,5] [1,5,19] (an2 ob0 trivial) ?_;refine tN ?_;obtain⟨r9,hr9,h⟩:=bind_ok h;obtain⟨r10,hr10,h⟩:=bind_ok h;obtain⟨ob1,h⟩:=aB h;refine aZ [] [(3,⟨[.i (xJ x3 n7).1],[],[],[],.str r9,[],[],[]⟩),(6,⟨[.i (xJ x3 n7).2.1],[],[],[],.str r10,[],[],[]⟩)] ⟨45,(f65z2 n7),[(1,.cells 100 (pR x1 x2 x3)),(19,.rows 9 1 ((l8).length+3) (gF (l8).length (cD eS [] l8) (dH 1 [.str r9,.str r10,.str (xJ x3 n7).2.2])))],[],0⟩ (an3 (cpT (zR bG _ _ hr9)) (cpT (zR bG _ _ hr10)) ob1) ?_;refine kN (tN ?_);refine AWp.le (Le.mk (s':=⟨45,(f65z2 n7),[(1,.cells 100 (pR x1 x2 x3)),(19,aG (l8++[r9,r10,(xJ x3 n7).2.2]))],[],0⟩) rfl rfl ⟨.refl _,.refl _,.refl _,trivial⟩ ⟨⟨_,rfl,.refl _⟩,⟨_,rfl,(BLe.of (RL.app (RL.self _) (RL.lst (enc:=eS) [r9,r10,(xJ x3 n7).2.2] rfl rfl (fun _=>rfl))))⟩,trivial⟩) ?_;obtain⟨ob2p,h⟩:=aB h;have ob2: -9223372036854775808≤((n7:Int)+(1:Int))∧((n7:Int)+(1:Int))≤9223372036854775807:=⟨by omega,ob2p⟩;refine aZ [] [] ⟨45,[(1,.ptr 1 0),(3,.own 19),(4,.i (((n7+1):Nat):Int))],[(1,.cells 100 (pR x1 x2 x3)),(19,aG (l8++[r9,r10,(xJ x3 n7).2.2]))],[],0⟩ (an1 ob2) ?_;rw[hC0]at h;exact lN (_,(n7+1),(l8++[r9,r10,(xJ x3 n7).2.2])) LR h (Nat.lt_succ_self _)
    ·
     replace h:=aF hc3 h;refine AWp.exit (tE (tE (kS ?_)));exact jN (l8) LR h
   ·
    rintro l11 h;replace h:=(congrFun hK1 _).symm.trans h;refine AWp.seq ?_;obtain⟨r12,hr12,h⟩:=bind_ok h;refine aZ [] [(1,⟨[cS l11],[],[],[],.str r12,[],[19],[]⟩)] ⟨45,[(2,.str r12)],[],[],0⟩ (an1 (cpL (c:=true) [(19,aG l11)] [19] [.own 19] (fun _=>(f87_ok _ _ hr12)) (fun _=>⟨.refl _,trivial⟩) (.inr ⟨rfl,trivial⟩))) ?_;refine tN ?_;have hret:=Option.some.inj h;subst hret;refine AWp.ret ?_;exact bR _ rfl ⟨rfl,rfl⟩ rfl
abbrev aA4 (x1 x2:Int):=(((((!(x1==(1:Int)))&&(!(x1==(2:Int))))&&(x1 !=(3:Int)))||((!(x1==(2:Int)))&&(x2 !=(0:Int))))||(decide (x2<(0:Int))))
abbrev aA3 (x1:Int):=(((!(x1==(1:Int)))&&(!(x1==(2:Int))))&&(x1 !=(3:Int)))
abbrev f64z2 (x1 x2:Int):=(((aA4 x1 x2)||(decide (x2≥(6:Int))))==false)
abbrev f64z4 (x1 x2:Int):=((aA3 x1)||((!(x1==(2:Int)))&&(x2 !=(0:Int))))
abbrev f64z5 (x1:Int):=(((!(x1==(1:Int)))&&(!(x1==(2:Int))))==true)
abbrev f64z6 (x1 x2:Int):=((f64z2 x1 x2)&&((!(x1==(1:Int)))==true))
abbrev f64z7 (x1:Int):=(((aA3 x1)==false)&&((!(x1==(2:Int)))==true))
def f64 (x1 x2:Int) (x3:List Tq0):Option Int:=
 chk (((((!(x1==(1:Int)))&&(!(x1==(2:Int))))&&(x1 !=(3:Int)))==false)=true→((((!(x1==(1:Int)))&&(!(x1==(2:Int))))&&(x1 !=(3:Int)))==false)=true→(!(x1==(2:Int)))=true→(((((!(x1==(1:Int)))&&(!(x1==(2:Int))))&&(x1 !=(3:Int)))==false)&&((!(x1==(2:Int)))==true))=true)<|
 chk ((((((((!(x1==(1:Int)))&&(!(x1==(2:Int))))&&(x1 !=(3:Int)))||((!(x1==(2:Int)))&&(x2 !=(0:Int))))||(decide (x2<(0:Int))))||(decide (x2≥(6:Int))))==false)=true→(((((((!(x1==(1:Int)))&&(!(x1==(2:Int))))&&(x1 !=(3:Int)))||((!(x1==(2:Int)))&&(x2 !=(0:Int))))||(decide (x2<(0:Int))))||(decide (x2≥(6:Int))))==false)=true→(!(x1==(1:Int)))=true→((((((((!(x1==(1:Int)))&&(!(x1==(2:Int))))&&(x1 !=(3:Int)))||((!(x1==(2:Int)))&&(x2 !=(0:Int))))||(decide (x2<(0:Int))))||(decide (x2≥(6:Int))))==false)&&((!(x1==(1:Int)))==true))=true)<|
 if(((((((!(x1==(1:Int)))&&(!(x1==(2:Int))))&&(x1 !=(3:Int)))||((!(x1==(2:Int)))&&(x2 !=(0:Int))))||(decide (x2<(0:Int))))||(decide (x2≥(6:Int))))||((!(x1==(1:Int)))&&(decide ((((x3).length:Nat):Int)>(0:Int)))))then(
 some (1:Int)
 )else(
 if(decide ((((x3).length:Nat):Int)>(8:Int)))then(
 some (3:Int)
 )else(
 (f86 x3).bind fun(r4:Int)=>
 if(r4 !=(0:Int))then(
 some r4
 )else(
 (f65 x1 x2 x3).bind fun(r5:List UInt8)=>
 if(decide (((r5.length:Nat):Int)>(2000:Int)))then(
 some (3:Int)
 )else(
 some (0:Int)
 )
 )
 )
 )
theorem f64_ok (x1 x2:Int) (x3:List Tq0) (r:Int) (h:f64 x1 x2 x3=some r):aH Tryz.prog 64 [] [] [] [.agg [.int .i64 x1,.int .i64 x2,vL 3 bW (default:Tq0) x3]] (.int .i64 r) []:=by
 unfold f64 at h;refine aH.body 0 _ _ Tryz.func64 rfl Tryz.ntmps64 rfl rfl ?_;refine bJ [] [] [1] [1] trivial ?_;refine bJ [] [] [1,3] [1] trivial ?_;refine bJ [] [] [1,3,4] [1] trivial ?_;refine AWp.seq (AWp.seq ?_);have ob0:=idA (((!(x1==(1:Int)))==true)=true);have ob1:=bqA (!(x1==(1:Int))) true;have ob2:=idA ((f64z5 x1)=true);have ob3:=idA ((f64z5 x1)=true);have ob4:true=true→((!(x1==(1:Int)))&&(!(x1==(2:Int))))=true→(f64z5 x1)=true:=fun _ h=>beq_iff_eq.2 h;have ob5:=idA (((aA3 x1)==false)=true);have ob6:=idA (((aA3 x1)==false)=true);have ob7:=idA ((f64z7 x1)=true);have ob8:=idA ((f64z7 x1)=true);obtain⟨ob9,h⟩:=aB h;have ob10:=idA (((aA3 x1)==false)=true);have ob11:=bqA (aA3 x1) false;have ob12:=idA (((f64z4 x1 x2)==false)=true);have ob13:=idA (((f64z4 x1 x2)==false)=true);have ob14:=bqA (f64z4 x1 x2) false;have ob15:=idA (((aA4 x1 x2)==false)=true);have ob16:=idA (((aA4 x1 x2)==false)=true);have ob17:=bqA (aA4 x1 x2) false;have ob18:=idA ((f64z2 x1 x2)=true);have ob19:=idA ((f64z2 x1 x2)=true);have ob20:=idA ((f64z6 x1 x2)=true);have ob21:=idA ((f64z6 x1 x2)=true);have ob22:=idA ((f64z6 x1 x2)=true);obtain⟨ob23,h⟩:=aB h;have ob24:=idA ((f64z2 x1 x2)=true);have ob25:true=true→((aA4 x1 x2)||(decide (x2≥(6:Int))))=false→(f64z2 x1 x2)=true:=fun _ h=>beq_iff_eq.2 h;refine cA [] [] [1,51] [1] (ac6 (an1 ob0) ob1 (an1 ob2) (an1 ob3) ob4 (an1 ob5) (ac6 (an1 ob6) (an1 ob7) (an1 ob8) (And.intro ob9 (an1 ob10)) ob11 (an1 ob12) (ac6 (an1 ob13) ob14 (an1 ob15) (an1 ob16) ob17 (an1 ob18) (an6 (an1 ob19) (an1 ob20) (an1 ob21) (an1 ob22) (And.intro ob23 (an1 ob24)) ob25)))) ?_;refine tN ?_;refine AWp.cond (b:=(((aA4 x1 x2)||(decide (x2≥(6:Int))))||((!(x1==(1:Int)))&&(decide ((lZ x3)>(0:Int)))))) (by kernel_rfl) (fun hc1=> ?_) (fun hc1=> ?_)
 ·
  replace h:=aE hc1 h;refine aU [] [] ⟨66,[(2,.i (1:Int))],[],[],0⟩ trivial ?_;have hret:=Option.some.inj h;subst hret;refine AWp.ret (tR ?_);exact bR _ rfl ⟨rfl,rfl⟩ rfl
 ·
  replace h:=aF hc1 h;refine AWp.skip (tN (AWp.seq ?_));refine bJ [] [] [1,55] [1] trivial ?_;refine AWp.cond (b:=(decide ((lZ x3)>(8:Int)))) (by kernel_rfl) (fun hc2=> ?_) (fun hc2=> ?_)
  ·
   replace h:=aE hc2 h;refine aU [] [] ⟨66,[(2,.i (3:Int))],[],[],0⟩ trivial ?_;have hret:=Option.some.inj h;subst hret;refine AWp.ret (tR ?_);exact bR _ rfl ⟨rfl,rfl⟩ rfl
  ·
   replace h:=aF hc2 h;refine AWp.skip (tN (AWp.seq (AWp.seq ?_)));obtain⟨r4,hr4,h⟩:=bind_ok h;refine cA [] [(2,⟨[aT x3],[],[],[],.i r4,[],[],[]⟩)] [1,5] [1] (an1 (cpT (f86_ok _ _ hr4))) ?_;refine tN ?_;refine bJ [] [] [1,5,60] [1] trivial ?_;refine AWp.cond (b:=(r4 !=(0:Int))) (by kernel_rfl) (fun hc3=> ?_) (fun hc3=> ?_)
   ·
    replace h:=aE hc3 h;refine aU [] [] ⟨66,[(2,.i r4)],[],[],0⟩ trivial ?_;have hret:=Option.some.inj h;subst hret;refine AWp.ret (tR ?_);exact bR _ rfl ⟨rfl,rfl⟩ rfl
   ·
    replace h:=aF hc3 h;refine AWp.skip (tN (AWp.seq (AWp.seq ?_)));obtain⟨r5,hr5,h⟩:=bind_ok h;refine cA [] [(1,⟨[.agg [.i x1,.i x2,aT x3]],[],[],[],.str r5,[],[],[]⟩)] [65] [] (an1 (cpT (f65_ok _ _ _ _ hr5))) ?_;refine tN ?_;refine AWp.cond (b:=(decide ((lZ r5)>(2000:Int)))) (by kernel_rfl) (fun hc4=> ?_) (fun hc4=> ?_)
    ·
     replace h:=aE hc4 h;refine aU [] [] ⟨66,[(2,.i (3:Int))],[],[],0⟩ trivial ?_;have hret:=Option.some.inj h;subst hret;refine AWp.ret (tR ?_);exact bR _ rfl ⟨rfl,rfl⟩ rfl
    ·
     replace h:=aF hc4 h;refine AWp.skip (tN ?_);refine aU [] [] ⟨66,[(2,.i (0:Int))],[],[],0⟩ trivial ?_;have hret:=Option.some.inj h;subst hret;refine AWp.ret ?_;exact bR _ rfl ⟨rfl,rfl⟩ rfl
def iL (r2:Bool×List Ty0) (K1:(Nat×Int×Ty2)→Option (Int×Int×Ty2×Int)):Nat→(Nat×Ty2)→Option (Int×Int×Ty2×Int)
 |0,_=>none
 |k+1,(n7,l8)=>
  if(decide ((n7:Int)<(((r2.2).length:Nat):Int)))then(
  (f82 (r2.2.getD n7 [])).bind fun(r9:Int)=>
  (f82 (r2.2.getD (n7+1) [])).bind fun(r10:Int)=>
  chk ((n7:Int)<(((r2.2).length:Nat):Int))<|
  chk (n7<(r2.2).length)<|
  chk (((n7:Int)+(1:Int))≤9223372036854775807)<|
  chk ((((n7+1):Nat):Int)<(((r2.2).length:Nat):Int))<|
  chk ((n7+1)<(r2.2).length)<|
  chk (((n7:Int)+(2:Int))≤9223372036854775807)<|
  chk ((((n7+2):Nat):Int)<(((r2.2).length:Nat):Int))<|
  chk ((n7+2)<(r2.2).length)<|
  chk (((l8).length+1) *32≤140737488355328)<|
  chk (((n7:Int)+(3:Int))≤9223372036854775807)<|
  (iL r2 K1 k) ((n7+3),(l8++[(r9,r10,(r2.2.getD (n7+2) []))]))
  )else(
  K1 (1,(0:Int),l8)
  )
abbrev iK :List V:=[.int .i64 (0:Int),.int .i64 (0:Int),.nils]
abbrev aA5 :List V:=[.int .i64 (1:Int),.int .i64 (0:Int),.own 6102]
abbrev f61z2 (x1:List UInt8):List (Nat×V):=[(0,.str x1),(2,.ptr 2 0),(6,.ptr 6 0)]
abbrev f61z3 (r2:Bool×List Ty0):aK:=[(2,.cells 100 (iK)),(6,.cells 100 (iK)),(6001,bL 9 1 eS [] r2.2)]
abbrev f61z4 (x1:List UInt8) (r2:Bool×List Ty0):List (Nat×V):=[(0,.str x1),(2,.ptr 2 0),(4,.own 6001),(6,.ptr 6 0),(43,.bool (((r2.2.getD 0 [])==cs2)&&(((((r2.2).length%3):Nat):Int)==(1:Int))))]
abbrev f61z5 (x1:List UInt8):List (Nat×V):=[(0,.str x1),(2,.ptr 2 0),(4,.own 6001),(6,.ptr 6 0),(7,.int .i64 (1:Int))]
abbrev f61z6 :=([106,111,105,110]:List UInt8)
abbrev f61z7 (r2:Bool×List Ty0) (l8:List Tq0) (r9 r10:Int) (n7:Nat):aK:=[(2,.cells 100 (iK)),(6,.cells 100 (aA5)),(6001,bL 9 1 eS [] r2.2),(6102,bL 88 3 bW (default:Tq0) (l8++[(r9,r10,(r2.2.getD (n7+2) []))]))]
abbrev f61z8 (r2:Bool×List Ty0):aK:=[(2,.cells 100 (iK)),(6,.cells 100 [.int .i64 (1:Int),.int .i64 (0:Int),.nils]),(6001,bL 9 1 eS [] r2.2)]
abbrev f61z9 (n3:Nat) (i4:Int):List V:=[.int .i64 (n3:Int),.int .i64 i4,.own 6102]
abbrev aAa (n3:Nat) (i4:Int) (l5:List Tq0):List V:=[.int .i64 (n3:Int),.int .i64 i4,vL 3 bW (default:Tq0) l5]
abbrev f61z11 (x1:List UInt8) (n7:Nat):List (Nat×V):=[(0,.str x1),(2,.ptr 2 0),(4,.own 6001),(6,.ptr 6 0),(7,.int .i64 (n7:Int))]
abbrev zZ :List (Nat×V):=[(2,.ptr 2 0),(3,.int .i64 (2:Int))]
abbrev f61z13 :List (Nat×V):=[(2,.ptr 2 0),(3,.int .i64 (0:Int))]
abbrev zY (r11:Int):=((r11 !=(0:Int))==false)
def f61 (x1:List UInt8):Option (Int×Int×Ty2×Int):=
 (f81 x1).bind fun(r2:Bool×List Ty0)=>
 if((!r2.1)||((((r2.2).length:Nat):Int)==(0:Int)))then(
 some ((0:Int),(0:Int),[],(2:Int))
 )else(
 jn (fun((n3,i4,l5):Nat×Int×Ty2)=>
 (f64 (n3:Int) i4 l5).bind fun(r11:Int)=>
 gW ((r11 !=(0:Int))==false) (f65 (n3:Int) i4 l5) fun(r12:List UInt8)=>
 if((r11 !=(0:Int))||(!(r12==x1)))then(
 some ((0:Int),(0:Int),[],(2:Int))
 )else(
 some ((n3:Int),i4,l5,(0:Int))
 )
 ) fun(K1:(Nat×Int×Ty2)→Option (Int×Int×Ty2×Int))=>
 chk ((0:Int)<(((r2.2).length:Nat):Int))<|
 chk (0<(r2.2).length)<|
 if((r2.2.getD 0 [])==cs1)then(
 K1 (3,(0:Int),[])
 )else(
 chk ((0:Int)<(((r2.2).length:Nat):Int))<|
 chk (0<(r2.2).length)<|
 if(((r2.2.getD 0 [])==([106,111,105,110]:List UInt8))&&((((r2.2).length:Nat):Int)==(2:Int)))then(
 (f82 (r2.2.getD 1 [])).bind fun(r6:Int)=>
 chk ((1:Int)<(((r2.2).length:Nat):Int))<|
 chk (1<(r2.2).length)<|
 K1 (2,r6,[])
 )else(
 chk ((0:Int)<(((r2.2).length:Nat):Int))<|
 chk (0<(r2.2).length)<|
 chk ((((r2.2.getD 0 [])==cs2)==true)=true→0≤(((r2.2).length:Nat):Int)∧1≤(3:Int))<|
 if(((r2.2.getD 0 [])==cs2)&&(((((r2.2).length%3):Nat):Int)==(1:Int)))then(
 iL r2 K1 bG (1,[])
 )else(
 K1 (0,(0:Int),[])
 )
 )
 )
 )
theorem f61_ok (x1:List UInt8) (r:Int×Int×Ty2×Int) (h:f61 x1=some r):aH Tryz.prog 61 [] [] [] [.str x1] (.tup [.agg [.int .i64 r.1,.int .i64 r.2.1,vL 3 bW (default:Tq0) r.2.2.1],.int .i64 r.2.2.2]) []:=by
 unfold f61 at h;refine aH.bodyD [2] 0 _ _ Tryz.func61 rfl Tryz.ntmps61 rfl rfl ?_;refine bJ [] [] [0,2] [2] trivial ?_;refine AWp.seq ?_;obtain⟨r2,hr2,h⟩:=bind_ok h;refine cA [] [(1,⟨[.str x1],[],[],[(6001,aG r2.2)],.tup [.own 6001,.bool r2.1],[6001],[],[]⟩)] [0,2,4,5] [2,6001] (an1 (cpT (aH.ren (bA 3000 6001) (aD 3000 6001) rfl (f81_ok _ _ hr2)))) ?_;refine tN (AWp.seq (AWp.seq ?_));have ob0:=idA (((!r2.1)==false)=true);have ob1:=idA (((!r2.1)==false)=true);have ob2:=bqA (!r2.1) false;refine cA [] [] [0,2,4,19] [2,6001] (an3 (an1 ob0) (an1 ob1) ob2) ?_;refine tN ?_;refine AWp.cond (b:=((!r2.1)||((lZ r2.2)==(0:Int)))) (by kernel_rfl) (fun hc1=> ?_) (fun hc1=> ?_)
 ·
  replace h:=aE hc1 h;refine aU [] [] ⟨94,(zZ),[(2,.cells 100 (iK))],[],0⟩ (an1 trivial) ?_;have hret:=Option.some.inj h;subst hret;refine AWp.le (Le.mk (s':=⟨94,(zZ),[(2,.cells 100 [.i (0:Int),.i (0:Int),aT []])],[],0⟩) rfl rfl ⟨.refl _,.refl _,trivial⟩ ⟨⟨_,rfl,(.cellsL ⟨.refl _,.refl _,.nilL,trivial⟩)⟩,trivial⟩) ?_;refine AWp.ret (tR ?_);exact bR _ rfl ⟨rfl,rfl⟩ rfl
 ·
  replace h:=aF hc1 h;refine AWp.skip (tN ?_);refine aU [] [] ⟨94,[(0,.str x1),(2,.ptr 2 0),(4,.own 6001),(6,.ptr 6 0)],(f61z3 r2),[],0⟩ trivial ?_;obtain⟨K1,hK1,h⟩:=aS h;refine AWp.join (fun(x:Nat×Int×Ty2)=>match x with|(n3,i4,l5)=>⟨94,(f61z2 x1),[(2,.cells 100 (iK)),(6,.cells 100 (f61z9 n3 i4)),(6102,aJ l5)],[],0⟩) (fun x=>K1 x=some r) ?_ ?_
  ·
   refine AWp.block (AWp.seq ?_);obtain⟨ob3p,h⟩:=aB h;have ob3:0≤(0:Int)∧(0:Int)<(((r2.2).length:Nat):Int):=⟨by omega,ob3p⟩;obtain⟨ob4,h⟩:=aB h;refine cA [] [] [0,2,4,6,21] [2,6,6001] (an2 ob3 ob4) ?_;refine tN ?_;refine AWp.cond (b:=((r2.2.getD 0 [])==cs1)) (by kernel_rfl) (fun hc2=> ?_) (fun hc2=> ?_)
   ·
    replace h:=aE hc2 h;refine aZ [] [] ⟨94,(f61z2 x1),[(2,.cells 100 (iK)),(6,.cells 100 [.i (3:Int),.i (0:Int),.nils])],[],0⟩ (an1 trivial) ?_;refine kN ?_;exact jN (3,(0:Int),[]) (Le.trans (Le.trans (Le.nilOwnC 6 2 6102 88 3 (cD bW bB []) rfl rfl rfl) (LR (s':=⟨94,(f61z2 x1),[(2,.cells 100 (iK)),(6,.cells 100 [.i (3:Int),.i (0:Int),.own 6102]),(6102,aJ [])],[],0⟩))) LR) h
   ·
    replace h:=aF hc2 h;refine AWp.seq ?_;obtain⟨ob5p,h⟩:=aB h;have ob5:0≤(0:Int)∧(0:Int)<(((r2.2).length:Nat):Int):=⟨by omega,ob5p⟩;obtain⟨ob6,h⟩:=aB h;have ob7:=idA ((((r2.2.getD 0 [])==(f61z6))==true)=true);have ob8:=idA ((((r2.2.getD 0 [])==(f61z6))==true)=true);have ob9:=bqA ((r2.2.getD 0 [])==(f61z6)) true;refine cA [] [] [0,2,4,6,27] [2,6,6001] (an5 ob5 ob6 (an1 ob7) (an1 ob8) ob9) ?_;refine tN ?_;refine AWp.cond (b:=(((r2.2.getD 0 [])==(f61z6))&&((lZ r2.2)==(2:Int)))) (by kernel_rfl) (fun hc3=> ?_) (fun hc3=> ?_)
    ·
     replace h:=aE hc3 h;obtain⟨r6,hr6,h⟩:=bind_ok h;obtain⟨ob10p,h⟩:=aB h;have ob10:0≤(1:Int)∧(1:Int)<(((r2.2).length:Nat):Int):=⟨by omega,ob10p⟩;obtain⟨ob11,h⟩:=aB h;refine aZ [] [(3,⟨[.str (r2.2.getD 1 [])],[],[],[],.i r6,[],[],[]⟩)] ⟨94,(f61z2 x1),[(2,.cells 100 (iK)),(6,.cells 100 [.i (2:Int),.i r6,.nils])],[],0⟩ (an5 ob10 ob11 (cpT (f82_ok _ _ hr6)) trivial trivial) ?_;refine kN ?_;exact jN (2,r6,[]) (Le.trans (Le.trans (Le.nilOwnC 6 2 6102 88 3 (cD bW bB []) rfl rfl rfl) (LR (s':=⟨94,(f61z2 x1),[(2,.cells 100 (iK)),(6,.cells 100 [.i (2:Int),.i r6,.own 6102]),(6102,aJ [])],[],0⟩))) LR) h
    ·
     replace h:=aF hc3 h;refine AWp.seq ?_;obtain⟨ob12p,h⟩:=aB h;have ob12:0≤(0:Int)∧(0:Int)<(((r2.2).length:Nat):Int):=⟨by omega,ob12p⟩;obtain⟨ob13,h⟩:=aB h;have ob14:=idA ((((r2.2.getD 0 [])==cs2)==true)=true);obtain⟨ob15,h⟩:=aB h;have ob16:=idA ((((r2.2.getD 0 [])==cs2)==true)=true);have ob17:=idA ((((r2.2.getD 0 [])==cs2)==true)=true);have ob18:=bqA ((r2.2.getD 0 [])==cs2) true;refine aZ [] [] ⟨94,(f61z4 x1 r2),(f61z3 r2),[],0⟩ (an6 ob12 ob13 (an1 ob14) (And.intro ob15 (an1 ob16)) (an1 ob17) ob18) ?_;refine tN ?_;refine AWp.cond (b:=(((r2.2.getD 0 [])==cs2)&&(((((r2.2).length%3):Nat):Int)==(1:Int)))) (by kernel_rfl) (fun hc4=> ?_) (fun hc4=> ?_)
     ·
      replace h:=aE hc4 h;refine bJ [] [] [0,2,4,6] [2,6,6001] (an1 trivial) ?_;refine aU [] [] ⟨94,(f61z5 x1),(f61z8 r2),[],0⟩ trivial ?_;refine AWp.block ?_;refine AWp.loopL (α:=Nat×(Nat×Ty2)) (fun x=>match x with|(_,n7,l8)=>⟨94,(f61z11 x1 n7),[(2,.cells 100 (iK)),(6,.cells 100 (aA5)),(6001,aG r2.2),(6102,aJ l8)],[],0⟩) (fun x=>iL r2 K1 x.1 x.2=some r) (fun x=>x.1) (bG,1,[]) (Le.trans (Le.trans (Le.nilOwnC 6 2 6102 88 3 (cD bW bB []) rfl rfl rfl) (LR (s':=⟨94,(f61z5 x1),[(2,.cells 100 (iK)),(6,.cells 100 (aA5)),(6001,aG r2.2),(6102,aJ [])],[],0⟩))) (LR (s':=⟨94,(f61z5 x1),[(2,.cells 100 (iK)),(6,.cells 100 (aA5)),(6001,aG r2.2),(6102,aJ [])],[],0⟩))) h ?_
      rintro⟨k0,n7,l8⟩ h
      cases k0 with
      |zero=>exact nomatch (show none=some r from h)
      |succ k0=>
      obtain⟨C0,hC0⟩:∃C,C=iL r2 K1 k0:=⟨_,rfl⟩;replace h:=(iL.eq_2 ..).symm.trans h
      try rw[←hC0]at h
      refine AWp.seq ?_;refine aU [] [] ⟨94,[(0,.str x1),(2,.ptr 2 0),(4,.own 6001),(6,.ptr 6 0),(7,.i (n7:Int)),(58,.bool (decide ((n7:Int)<(lZ r2.2))))],[(2,.cells 100 (iK)),(6,.cells 100 (aA5)),(6001,aG r2.2),(6102,aJ l8)],[],0⟩ trivial ?_;refine AWp.cond (b:=(decide ((n7:Int)<(lZ r2.2)))) (by kernel_rfl) (fun hc5=> ?_) (fun hc5=> ?_)
      ·
       replace h:=aE hc5 h;refine AWp.skip (tN (AWp.seq (AWp.block ?_)));obtain⟨r9,hr9,h⟩:=bind_ok h;obtain⟨r10,hr10,h⟩:=bind_ok h;obtain⟨ob19p,h⟩:=aB h;have ob19:0≤(n7:Int)∧(n7:Int)<(((r2.2).length:Nat):Int):=⟨by omega,ob19p⟩;obtain⟨ob20,ob21p,h⟩:=ck2 h;have ob21: -9223372036854775808≤((n7:Int)+(1:Int))∧((n7:Int)+(1:Int))≤9223372036854775807:=⟨by omega,ob21p⟩;obtain⟨ob22p,h⟩:=aB h;have ob22:0≤(((n7+1):Nat):Int)∧(((n7+1):Nat):Int)<(((r2.2).length:Nat):Int):=⟨by omega,ob22p⟩;obtain⟨ob23,ob24p,h⟩:=ck2 h;have ob24: -9223372036854775808≤((n7:Int)+(2:Int))∧((n7:Int)+(2:Int))≤9223372036854775807:=⟨by omega,ob24p⟩;obtain⟨ob25p,h⟩:=aB h;have ob25:0≤(((n7+2):Nat):Int)∧(((n7+2):Nat):Int)<(((r2.2).length:Nat):Int):=⟨by omega,ob25p⟩;obtain⟨ob26,ob27,h⟩:=ck2 h;refine aZ [] [(6,⟨[.str (r2.2.getD n7 [])],[],[],[],.i r9,[],[],[]⟩),(12,⟨[.str (r2.2.getD (n7+1) [])],[],[],[],.i r10,[],[],[]⟩)] ⟨94,(f61z11 x1 n7),[(2,.cells 100 (iK)),(6,.cells 100 (aA5)),(6001,aG r2.2),(6102,.rows 88 3 ((l8).length+1) (gF (l8).length (cD bW bB l8) (dH 3 [.i r9,.i r10,.str (r2.2.getD (n7+2) [])])))],[],0⟩ (ac6 ob19 ob20 (cpT (f82_ok _ _ hr9)) ob21 ob22 ob23 (an6 (cpT (f82_ok _ _ hr10)) ob24 ob25 ob26 ob27 trivial)) ?_;refine kN (tN ?_);refine AWp.le (Le.mk (s':=⟨94,(f61z11 x1 n7),(f61z7 r2 l8 r9 r10 n7),[],0⟩) rfl rfl ⟨.refl _,.refl _,.refl _,.refl _,.refl _,trivial⟩ ⟨⟨_,rfl,.refl _⟩,⟨_,rfl,.refl _⟩,⟨_,rfl,.refl _⟩,⟨_,rfl,(BLe.of (RL.app (RL.self _) (RL.lst (enc:=bW) [(r9,r10,(r2.2.getD (n7+2) []))] rfl rfl (fun _=>rfl))))⟩,trivial⟩) ?_;obtain⟨ob28p,h⟩:=aB h;have ob28: -9223372036854775808≤((n7:Int)+(3:Int))∧((n7:Int)+(3:Int))≤9223372036854775807:=⟨by omega,ob28p⟩;refine aZ [] [] ⟨94,[(0,.str x1),(2,.ptr 2 0),(4,.own 6001),(6,.ptr 6 0),(7,.i (((n7+3):Nat):Int))],(f61z7 r2 l8 r9 r10 n7),[],0⟩ (an1 ob28) ?_;rw[hC0]at h;exact lN (_,(n7+3),(l8++[(r9,r10,(r2.2.getD (n7+2) []))])) LR h (Nat.lt_succ_self _)
      ·
       replace h:=aF hc5 h;refine AWp.exit (tE (tE (kS (kN ?_))));exact jN (1,(0:Int),l8) LR h
     ·
      replace h:=aF hc4 h;refine AWp.skip (kN ?_);exact jN (0,(0:Int),[]) (Le.trans (Le.trans (Le.nilOwnC 6 2 6102 88 3 (cD bW bB []) rfl rfl rfl) (LR (s':=⟨94,(f61z4 x1 r2),[(2,.cells 100 (iK)),(6,.cells 100 [.i (0:Int),.i (0:Int),.own 6102]),(6001,aG r2.2),(6102,aJ [])],[],0⟩))) LR) h
  ·
   rintro⟨n3,i4,l5⟩ h;replace h:=(congrFun hK1 _).symm.trans h;refine AWp.seq (AWp.seq ?_);obtain⟨r11,hr11,h⟩:=bind_ok h;obtain⟨r12,hr12,h⟩:=cG h;have ob29:=idA ((zY r11)=true);have ob30:=idA ((zY r11)=true);have ob31:=idA ((zY r11)=true);have ob32:true=true→(r11 !=(0:Int))=false→(zY r11)=true:=fun _ h=>beq_iff_eq.2 h;refine cA [] [(1,⟨[.agg (aAa n3 i4 l5)],[],[],[],.i r11,[],[6102],[]⟩),(5,⟨[.agg (aAa n3 i4 l5)],[],[],[],.str r12,[],[6102],[]⟩)] [2,6,91] [2,6,6102] (an4 (cpL (c:=true) [(6102,aJ l5)] [6102] [.agg (f61z9 n3 i4)] (fun _=>(f64_ok _ _ _ _ hr11)) (fun _=>⟨.refl _,trivial⟩) (.inr ⟨rfl,trivial⟩)) (And.intro (cpL [(6102,aJ l5)] [6102] [.agg (f61z9 n3 i4)] (fun hc=>(f65_ok _ _ _ _ (hr12 hc))) (fun _=>⟨.refl _,trivial⟩) (.inr ⟨rfl,trivial⟩)) (an1 ob29)) (an2 ob30 ob31) ob32) ?_;refine tN ?_;refine AWp.cond (b:=((r11 !=(0:Int))||(!(r12==x1)))) (by kernel_rfl) (fun hc6=> ?_) (fun hc6=> ?_)
   ·
    replace h:=aE hc6 h;refine aU [] [] ⟨94,(zZ),[(2,.cells 100 (iK))],[],0⟩ (an1 trivial) ?_;have hret:=Option.some.inj h;subst hret;refine AWp.le (Le.mk (s':=⟨94,(zZ),[(2,.cells 100 [.i (0:Int),.i (0:Int),aT []])],[],0⟩) rfl rfl ⟨.refl _,.refl _,trivial⟩ ⟨⟨_,rfl,(.cellsL ⟨.refl _,.refl _,.nilL,trivial⟩)⟩,trivial⟩) ?_;refine AWp.ret (tR ?_);exact bR _ rfl ⟨rfl,rfl⟩ rfl
   ·
    replace h:=aF hc6 h;refine AWp.skip (tN ?_);refine aU [] [] ⟨94,(f61z13),[(2,.cells 100 (f61z9 n3 i4)),(6102,aJ l5)],[],0⟩ (an1 trivial) ?_;refine AWp.le (Le.trans (Le.freeze 6102 rfl rfl) (LR (s':=⟨94,(f61z13),[(2,.cells 100 (aAa n3 i4 l5))],[],0⟩))) ?_;have hret:=Option.some.inj h;subst hret;refine AWp.le (LR (s':=⟨94,(f61z13),[(2,.cells 100 (aAa n3 i4 l5))],[],0⟩)) ?_;refine AWp.ret ?_;exact bR _ rfl ⟨rfl,rfl⟩ rfl
def fD (x2:List Tq0) (x3:Int) (K1:Unit→Option (Int×Int×List UInt8×Bool)):Nat→Nat→Option (Int×Int×List UInt8×Bool)
 |0,_=>none
 |k+1,n4=>
  if(decide ((n4:Int)<(((x2).length:Nat):Int)))then(
  chk ((n4:Int)<(((x2).length:Nat):Int))<|
  if((x2.getD n4 (default:Tq0)).1==x3)then(
  chk ((n4:Int)<(((x2).length:Nat):Int))<|
  some ((x2.getD n4 (default:Tq0)).1,(x2.getD n4 (default:Tq0)).2.1,(x2.getD n4 (default:Tq0)).2.2,true)
  )else(
  chk (((n4:Int)+(1:Int))≤9223372036854775807)<|
  (fD x2 x3 K1 k) (n4+1)
  )
  )else(
  K1 ()
  )
abbrev xF (x1:List Tq1) (x2:List Tq0):aK:=[(2,.cells 92 [vL 3 cH (default:Tq1) x1,vL 3 bW (default:Tq0) x2]),(4,.cells 160 [.int .i64 (0:Int),.int .i64 (0:Int),.str []])]
abbrev f83z1 :aK:=[(4,.cells 160 [.int .i64 (0:Int),.int .i64 (0:Int),.str []])]
abbrev f83z2 (x2:List Tq0) (n4:Nat):=(x2.getD n4 (default:Tq0))
def f83 (x1:List Tq1) (x2:List Tq0) (x3:Int):Option (Int×Int×List UInt8×Bool):=
 jn (fun(_:Unit)=>
 some ((0:Int),(0:Int),[],false)
 ) fun(K1:Unit→Option (Int×Int×List UInt8×Bool))=>
 fD x2 x3 K1 bG 0
theorem f83_ok (x1:List Tq1) (x2:List Tq0) (x3:Int) (r:Int×Int×List UInt8×Bool) (h:f83 x1 x2 x3=some r):aH Tryz.prog 83 [] [] [] [.agg [vL 3 cH (default:Tq1) x1,vL 3 bW (default:Tq0) x2],.int .i64 x3] (.tup [.agg [.int .i64 r.1,.int .i64 r.2.1,.str r.2.2.1],.bool r.2.2.2]) []:=by
 unfold f83 at h;refine aH.bodyD [4] 0 _ _ Tryz.func83 rfl Tryz.ntmps83 rfl rfl ?_;refine aU [] [] ⟨28,[(1,.i x3),(2,.ptr 2 0),(4,.ptr 4 0)],(xF x1 x2),[],0⟩ trivial ?_;obtain⟨K1,hK1,h⟩:=aS h;refine AWp.join (fun(x:Unit)=>match x with|()=>⟨28,[(4,.ptr 4 0)],(f83z1),[],0⟩) (fun x=>K1 x=some r) ?_ ?_
 ·
  refine aU [] [] ⟨28,[(1,.i x3),(2,.ptr 2 0),(4,.ptr 4 0),(6,.i (0:Int))],(xF x1 x2),[],0⟩ trivial ?_;refine AWp.block ?_;refine AWp.loopL (α:=Nat×Nat) (fun x=>match x with|(_,n4)=>⟨28,[(1,.i x3),(2,.ptr 2 0),(4,.ptr 4 0),(6,.i (n4:Int))],(xF x1 x2),[],0⟩) (fun x=>fD x2 x3 K1 x.1 x.2=some r) (fun x=>x.1) (bG,0) (LR (s':=⟨28,[(1,.i x3),(2,.ptr 2 0),(4,.ptr 4 0),(6,.i (0:Int))],(xF x1 x2),[],0⟩)) h ?_
  rintro⟨k0,n4⟩ h
  cases k0 with
  |zero=>exact nomatch (show none=some r from h)
  |succ k0=>
  obtain⟨C0,hC0⟩:∃C,C=fD x2 x3 K1 k0:=⟨_,rfl⟩;replace h:=(fD.eq_2 ..).symm.trans h
  try rw[←hC0]at h
  refine AWp.seq ?_;refine aU [] [] ⟨28,[(1,.i x3),(2,.ptr 2 0),(4,.ptr 4 0),(6,.i (n4:Int)),(11,.bool (decide ((n4:Int)<(lZ x2))))],(xF x1 x2),[],0⟩ trivial ?_;refine AWp.cond (b:=(decide ((n4:Int)<(lZ x2)))) (by kernel_rfl) (fun hc1=> ?_) (fun hc1=> ?_)
  ·
   replace h:=aE hc1 h;refine AWp.skip (tN (AWp.seq (AWp.block (AWp.seq ?_))));obtain⟨ob0p,h⟩:=aB h;have ob0:0≤(n4:Int)∧(n4:Int)<(((x2).length:Nat):Int):=⟨by omega,ob0p⟩;refine aZ [] [] ⟨28,[(1,.i x3),(2,.ptr 2 0),(4,.ptr 4 0),(6,.i (n4:Int)),(21,.bool ((f83z2 x2 n4).1==x3))],(xF x1 x2),[],0⟩ (an1 ob0) ?_;refine tN ?_;refine AWp.cond (b:=((f83z2 x2 n4).1==x3)) (by kernel_rfl) (fun hc2=> ?_) (fun hc2=> ?_)
   ·
    replace h:=aE hc2 h;refine AWp.seq ?_;obtain⟨ob1p,h⟩:=aB h;have ob1:0≤(n4:Int)∧(n4:Int)<(((x2).length:Nat):Int):=⟨by omega,ob1p⟩;refine aZ [] [] ⟨28,[(4,.ptr 4 0),(5,.bool true)],[(4,.cells 160 [.i (f83z2 x2 n4).1,.i (f83z2 x2 n4).2.1,.str (f83z2 x2 n4).2.2])],[],0⟩ (an2 ob1 trivial) ?_;refine tN ?_;have hret:=Option.some.inj h;subst hret;refine AWp.ret (kR (tR (tR (kR (aY ?_)))));exact bR _ rfl ⟨rfl,rfl⟩ rfl
   ·
    replace h:=aF hc2 h;refine AWp.skip (kN (tN ?_));obtain⟨ob2p,h⟩:=aB h;have ob2: -9223372036854775808≤((n4:Int)+(1:Int))∧((n4:Int)+(1:Int))≤9223372036854775807:=⟨by omega,ob2p⟩;refine aZ [] [] ⟨28,[(1,.i x3),(2,.ptr 2 0),(4,.ptr 4 0),(6,.i (((n4+1):Nat):Int))],(xF x1 x2),[],0⟩ (an1 ob2) ?_;rw[hC0]at h;exact lN (_,(n4+1)) LR h (Nat.lt_succ_self _)
  ·
   replace h:=aF hc1 h;refine AWp.exit (tE (tE (kS ?_)));exact jN () LR h
 ·
  rintro⟨⟩ h;replace h:=(congrFun hK1 _).symm.trans h;refine aU [] [] ⟨28,[(4,.ptr 4 0),(5,.bool false)],(f83z1),[],0⟩ (an1 trivial) ?_;have hret:=Option.some.inj h;subst hret;refine AWp.ret ?_;exact bR _ rfl ⟨rfl,rfl⟩ rfl
def gP (x1:List UInt8) (K1:(List Ty0)→Option (List Ty0)):Nat→(Nat×Nat×List Ty0)→Option (List Ty0)
 |0,_=>none
 |k+1,(n2,n3,l4)=>
  if(decide ((n3:Int)≤((x1.length:Nat):Int)))then(
  jn (fun((n5,l6):Nat×List Ty0)=>
  chk (((n3:Int)+(1:Int))≤9223372036854775807)<|
  (gP x1 K1 k) (n5,(n3+1),l6)
  ) fun(K2:(Nat×List Ty0)→Option (List Ty0))=>
  chk ((((n3:Int)==((x1.length:Nat):Int))==false)=true→0≤(n3:Int)∧(n3:Int)<((x1.length:Nat):Int))<|
  if(((n3:Int)==((x1.length:Nat):Int))||((((x1.getD n3 0).toNat:Nat):Int)==(32:Int)))then(
  chk ((n2:Int)≤(n3:Int)∧(n3:Int)≤((x1.length:Nat):Int))<|
  chk (((l4).length+1) *16≤140737488355328)<|
  chk (((n3:Int)+(1:Int))≤9223372036854775807)<|
  K2 ((n3+1),(l4++[((x1.take n3).drop n2)]))
  )else(
  K2 (n2,l4)
  )
  )else(
  K1 l4
  )
def f113 (x1:List UInt8):Option (List Ty0):=
 jn (fun(l7:List Ty0)=>
 some l7
 ) fun(K1:(List Ty0)→Option (List Ty0))=>
 gP x1 K1 bG (0,0,[])
theorem f113_ok (x1:List UInt8) (r:List Ty0) (h:f113 x1=some r):aH Tryz.prog 113 [] [] [] [.str x1] (.own 3000) [(3000,bL 9 1 eS [] r)]:=by
 unfold f113 at h;refine aH.body 0 _ _ Tryz.func113 rfl Tryz.ntmps113 rfl rfl ?_;refine bJ [] [] [0] [] trivial ?_;refine bJ [] [] [0,3] [] trivial ?_;refine aU [] [] ⟨32,[(0,.str x1),(3,.nils),(4,.i (0:Int))],[],[],0⟩ trivial ?_;obtain⟨K1,hK1,h⟩:=aS h;refine AWp.join (α:=List Ty0) (fun(l7:List Ty0)=>⟨32,[(3,.own 5003)],[(5003,aG l7)],[],0⟩) (fun x=>K1 x=some r) ?_ ?_
 ·
  refine aU [] [] ⟨32,[(0,.str x1),(3,.nils),(4,.i (0:Int)),(5,.i (0:Int))],[],[],0⟩ trivial ?_;refine AWp.block ?_;refine AWp.loopL (α:=Nat×(Nat×Nat×List Ty0)) (fun x=>match x with|(_,n2,n3,l4)=>⟨32,[(0,.str x1),(3,.own 5003),(4,.i (n2:Int)),(5,.i (n3:Int))],[(5003,aG l4)],[],0⟩) (fun x=>gP x1 K1 x.1 x.2=some r) (fun x=>x.1) (bG,0,0,[]) (Le.trans (Le.trans (Le.nilOwn 3 5003 9 1 (cD eS [] []) rfl rfl (Nat.le_of_ble_eq_true rfl)) (LR (s':=⟨32,[(0,.str x1),(3,.own 5003),(4,.i (0:Int)),(5,.i (0:Int))],[(5003,aG [])],[],0⟩))) (LR (s':=⟨32,[(0,.str x1),(3,.own 5003),(4,.i (0:Int)),(5,.i (0:Int))],[(5003,aG [])],[],0⟩))) h ?_
  rintro⟨k0,n2,n3,l4⟩ h
  cases k0 with
  |zero=>exact nomatch (show none=some r from h)
  |succ k0=>
  obtain⟨C0,hC0⟩:∃C,C=gP x1 K1 k0:=⟨_,rfl⟩;replace h:=(gP.eq_2 ..).symm.trans h
  try rw[←hC0]at h
  refine AWp.seq ?_;refine aU [] [] ⟨32,[(0,.str x1),(3,.own 5003),(4,.i (n2:Int)),(5,.i (n3:Int)),(9,.bool (decide ((n3:Int)≤(lZ x1))))],[(5003,aG l4)],[],0⟩ trivial ?_;refine AWp.cond (b:=(decide ((n3:Int)≤(lZ x1)))) (by kernel_rfl) (fun hc1=> ?_) (fun hc1=> ?_)
  ·
   replace h:=aE hc1 h;refine AWp.skip (tN ?_);obtain⟨K2,hK2,h⟩:=aS h;refine AWp.join (fun(x:Nat×List Ty0)=>match x with|(n5,l6)=>⟨32,[(0,.str x1),(3,.own 28),(4,.i (n5:Int)),(5,.i (n3:Int))],[(28,aG l6)],[],0⟩) (fun x=>K2 x=some r) ?_ ?_
   ·
    refine AWp.block (AWp.seq ?_);obtain⟨ob0,h⟩:=aB h;have ob1:=idA ((((n3:Int)==(lZ x1))==false)=true);have ob2:=idA ((((n3:Int)==(lZ x1))==false)=true);have ob3:=idA ((((n3:Int)==(lZ x1))==false)=true);have ob4:=bqA ((n3:Int)==(lZ x1)) false;refine aZ [] [] ⟨32,[(0,.str x1),(3,.own 5003),(4,.i (n2:Int)),(5,.i (n3:Int)),(21,.bool (((n3:Int)==(lZ x1))||((((x1.getD n3 0).toNat:Nat):Int)==(32:Int))))],[(5003,aG l4)],[],0⟩ (an3 (And.intro ob0 (an2 ob1 ob2)) (an1 ob3) ob4) ?_;refine tN ?_;refine AWp.cond (b:=(((n3:Int)==(lZ x1))||((((x1.getD n3 0).toNat:Nat):Int)==(32:Int)))) (by kernel_rfl) (fun hc2=> ?_) (fun hc2=> ?_)
    ·
     replace h:=aE hc2 h;refine AWp.seq ?_;obtain⟨ob5p,h⟩:=aB h;have ob5:0≤(n2:Int)∧(n2:Int)≤(n3:Int)∧(n3:Int)≤((x1.length:Nat):Int):=⟨by omega,ob5p.1,ob5p.2⟩;obtain⟨ob6,h⟩:=aB h;refine aZ [] [] ⟨32,[(0,.str x1),(3,.own 5003),(5,.i (n3:Int))],[(5003,.rows 9 1 ((l4).length+1) (gF (l4).length (cD eS [] l4) (dH 1 [.str ((x1.take n3).drop n2)])))],[],0⟩ (an2 ob5 ob6) ?_;refine tN ?_;refine AWp.le (Le.mk (s':=⟨32,[(0,.str x1),(3,.own 5003),(5,.i (n3:Int))],[(5003,aG (l4++[((x1.take n3).drop n2)]))],[],0⟩) rfl rfl ⟨.refl _,.refl _,.refl _,trivial⟩ ⟨⟨_,rfl,(BLe.of (RL.app (RL.self _) (RL.lst (enc:=eS) [((x1.take n3).drop n2)] rfl rfl (fun _=>rfl))))⟩,trivial⟩) ?_;obtain⟨ob7p,h⟩:=aB h;have ob7: -9223372036854775808≤((n3:Int)+(1:Int))∧((n3:Int)+(1:Int))≤9223372036854775807:=⟨by omega,ob7p⟩;refine aZ [] [] ⟨32,[(0,.str x1),(3,.own 5003),(4,.i (((n3+1):Nat):Int)),(5,.i (n3:Int))],[(5003,aG (l4++[((x1.take n3).drop n2)]))],[],0⟩ (an1 ob7) ?_;refine kN ?_;exact jN ((n3+1),(l4++[((x1.take n3).drop n2)])) (Le.trans (Le.trans (Le.ren (bA 5003 28) (aD 5003 28) rfl) (LR (s':=⟨32,[(0,.str x1),(3,.own 28),(4,.i (((n3+1):Nat):Int)),(5,.i (n3:Int))],[(28,aG (l4++[((x1.take n3).drop n2)]))],[],0⟩))) LR) h
    ·
     replace h:=aF hc2 h;refine AWp.skip (kN ?_);exact jN (n2,l4) (Le.trans (Le.trans (Le.ren (bA 5003 28) (aD 5003 28) rfl) (LR (s':=⟨32,[(0,.str x1),(3,.own 28),(4,.i (n2:Int)),(5,.i (n3:Int)),(21,.bool (((n3:Int)==(lZ x1))||((((x1.getD n3 0).toNat:Nat):Int)==(32:Int))))],[(28,aG l4)],[],0⟩))) LR) h
   ·
    rintro⟨n5,l6⟩ h;replace h:=(congrFun hK2 _).symm.trans h;obtain⟨ob8p,h⟩:=aB h;have ob8: -9223372036854775808≤((n3:Int)+(1:Int))∧((n3:Int)+(1:Int))≤9223372036854775807:=⟨by omega,ob8p⟩;refine aZ [] [] ⟨32,[(0,.str x1),(3,.own 28),(4,.i (n5:Int)),(5,.i (((n3+1):Nat):Int))],[(28,aG l6)],[],0⟩ (an1 ob8) ?_;rw[hC0]at h;exact lN (_,n5,(n3+1),l6) (Le.trans (Le.trans (Le.ren (bA 28 5003) (aD 28 5003) rfl) (LR (s':=⟨32,[(0,.str x1),(3,.own 5003),(4,.i (n5:Int)),(5,.i (((n3+1):Nat):Int))],[(5003,aG l6)],[],0⟩))) LR) h (Nat.lt_succ_self _)
  ·
   replace h:=aF hc1 h;refine AWp.exit (tE (tE (kS ?_)));exact jN (l4) LR h
 ·
  rintro l7 h;replace h:=(congrFun hK1 _).symm.trans h;refine aU [] [] ⟨32,[(2,.own 5003)],[(5003,aG l7)],[],0⟩ trivial ?_;refine AWp.le (Le.trans (Le.ren (bA 5003 3000) (aD 5003 3000) rfl) (LR (s':=⟨32,[(2,.own 3000)],[(3000,aG l7)],[],0⟩))) ?_;have hret:=Option.some.inj h;subst hret;refine AWp.le (LR (s':=⟨32,[(2,.own 3000)],[(3000,aG l7)],[],0⟩)) ?_;refine AWp.ret ?_;exact bR _ rfl ⟨rfl,rfl⟩ rfl
abbrev vX :=([112,117,116]:List UInt8)
abbrev vW :=([103,101,116]:List UInt8)
abbrev vV :=([99,97,115]:List UInt8)
def f114 (x1:Int):Option Ty0:=
 if((decide (x1<(1:Int)))||(decide (x1>(6:Int))))then(
 some []
 )else(
 chk (-9223372036854775808≤(x1-(1:Int))∧(x1-(1:Int))≤9223372036854775807)<|
 chk (0≤(x1-(1:Int))∧(x1-(1:Int))<(6:Int))<|
 chk ((((x1-(1:Int))).toNat)<6)<|
 some (([([112,117,116]:List UInt8),([103,101,116]:List UInt8),cs6,cs7,([99,97,115]:List UInt8),cs8]:List Ty0).getD (((x1-(1:Int))).toNat) [])
 )
theorem yA (x1:Int) (r:List UInt8) (h:f114 x1=some r):aH Tryz.prog 114 [] [] [] [.int .i64 x1] (.str r) []:=by
 unfold f114 at h;refine aH.body 0 _ _ Tryz.func114 rfl Tryz.ntmps114 rfl rfl ?_;refine bJ [] [] [0] [] trivial ?_;refine AWp.seq (AWp.seq ?_);have ob0:=idA (((decide (x1<(1:Int)))==false)=true);have ob1:=bqA (decide (x1<(1:Int))) false;refine cA [] [] [0,8] [] (an2 (an1 ob0) ob1) ?_;refine tN ?_;refine AWp.cond (b:=((decide (x1<(1:Int)))||(decide (x1>(6:Int))))) (by kernel_rfl) (fun hc1=> ?_) (fun hc1=> ?_)
 ·
  replace h:=aE hc1 h;refine aU [] [] ⟨14,[(2,.str [])],[],[],0⟩ trivial ?_;have hret:=Option.some.inj h;subst hret;refine AWp.ret (tR ?_);exact bR _ rfl ⟨rfl,rfl⟩ rfl
 ·
  replace h:=aF hc1 h;refine AWp.skip (tN (AWp.seq ?_));obtain⟨ob2,ob3,ob4,h⟩:=ck3 h;refine aZ [] [(4,⟨[],[],[],[],.str (([(vX),(vW),cs6,cs7,(vV),cs8]:List Ty0).getD (((x1-(1:Int))).toNat) []),[],[0],[]⟩)] ⟨14,[(2,.str (([(vX),(vW),cs6,cs7,(vV),cs8]:List Ty0).getD (((x1-(1:Int))).toNat) []))],[],[],0⟩ (an3 ob2 ob3 (And.intro ob4 (show((dH 1 [.str (vX),.str (vW),.str cs6,.str cs7,.str (vV),.str cs8]) (((x1-(1:Int))).toNat) 0:V)= .str (([(vX),(vW),cs6,cs7,(vV),cs8]:List Ty0).getD (((x1-(1:Int))).toNat) [])from(lst_at eS [] 1 ([(vX),(vW),cs6,cs7,(vV),cs8]:List Ty0) (fun _=>rfl) (show(((x1-(1:Int))).toNat)<6 from by assumption) (j:=0) (by decide))))) ?_;refine tN ?_;have hret:=Option.some.inj h;subst hret;refine AWp.ret ?_;exact bR _ rfl ⟨rfl,rfl⟩ rfl
def fH (x1:List UInt8) (K1:Unit→Option Bool):Nat→Nat→Option Bool
 |0,_=>none
 |k+1,n3=>
  if(decide ((n3:Int)<((x1.length:Nat):Int)))then(
  chk ((n3:Int)<((x1.length:Nat):Int))<|
  chk (((decide ((((x1.getD n3 0).toNat:Nat):Int)<(33:Int)))==false)=true→0≤(n3:Int)∧(n3:Int)<((x1.length:Nat):Int))<|
  if((decide ((((x1.getD n3 0).toNat:Nat):Int)<(33:Int)))||(decide ((((x1.getD n3 0).toNat:Nat):Int)>(126:Int))))then(
  some false
  )else(
  chk (((n3:Int)+(1:Int))≤9223372036854775807)<|
  (fH x1 K1 k) (n3+1)
  )
  )else(
  K1 ()
  )
theorem aA9 (x1:List UInt8) (K1:Unit→Option Bool) (k n3:Nat):fH x1 K1 (k+1) n3=
  if(decide ((n3:Int)<((x1.length:Nat):Int)))then(
  chk ((n3:Int)<((x1.length:Nat):Int))<|
  chk (((decide ((((x1.getD n3 0).toNat:Nat):Int)<(33:Int)))==false)=true→0≤(n3:Int)∧(n3:Int)<((x1.length:Nat):Int))<|
  if((decide ((((x1.getD n3 0).toNat:Nat):Int)<(33:Int)))||(decide ((((x1.getD n3 0).toNat:Nat):Int)>(126:Int))))then(
  some false
  )else(
  chk (((n3:Int)+(1:Int))≤9223372036854775807)<|
  (fH x1 K1 k) (n3+1)
  )
  )else(
  K1 ()
  ):=rfl
def f178 (x1:List UInt8) (x2:Int):Option Bool:=
 jn (fun(_:Unit)=>
 some ((decide (((x1.length:Nat):Int)≥(1:Int)))&&(decide (((x1.length:Nat):Int)≤x2)))
 ) fun(K1:Unit→Option Bool)=>
 fH x1 K1 bG 0
theorem f178_ok (x1:List UInt8) (x2:Int) (r:Bool) (h:f178 x1 x2=some r):aH Tryz.prog 178 [] [] [] [.str x1,.int .i64 x2] (.bool r) []:=by
 unfold f178 at h;refine aH.body 0 _ _ Tryz.func178 rfl Tryz.ntmps178 rfl rfl ?_;refine aU [] [] ⟨31,[(0,.str x1),(1,.i x2)],[],[],0⟩ trivial ?_;obtain⟨K1,hK1,h⟩:=aS h;refine AWp.join (fun(x:Unit)=>match x with|()=>⟨31,[(0,.str x1),(1,.i x2)],[],[],0⟩) (fun x=>K1 x=some r) ?_ ?_
 ·
  refine aU [] [] ⟨31,[(0,.str x1),(1,.i x2),(5,.i (0:Int))],[],[],0⟩ trivial ?_;refine AWp.block ?_;refine AWp.loopL (α:=Nat×Nat) (fun x=>match x with|(_,n3)=>⟨31,[(0,.str x1),(1,.i x2),(5,.i (n3:Int))],[],[],0⟩) (fun x=>fH x1 K1 x.1 x.2=some r) (fun x=>x.1) (bG,0) (LR (s':=⟨31,[(0,.str x1),(1,.i x2),(5,.i (0:Int))],[],[],0⟩)) h ?_
  rintro⟨k0,n3⟩ h
  cases k0 with
  |zero=>exact nomatch (show none=some r from h)
  |succ k0=>
  obtain⟨C0,hC0⟩:∃C,C=fH x1 K1 k0:=⟨_,rfl⟩;replace h:=(aA9 ..).symm.trans h
  try rw[←hC0]at h
  refine AWp.seq ?_;refine aU [] [] ⟨31,[(0,.str x1),(1,.i x2),(5,.i (n3:Int)),(9,.bool (decide ((n3:Int)<(lZ x1))))],[],[],0⟩ trivial ?_;refine AWp.cond (b:=(decide ((n3:Int)<(lZ x1)))) (by kernel_rfl) (fun hc1=> ?_) (fun hc1=> ?_)
  ·
   replace h:=aE hc1 h;refine AWp.skip (tN (AWp.seq (AWp.block (AWp.seq ?_))));obtain⟨ob0p,h⟩:=aB h;have ob0:0≤(n3:Int)∧(n3:Int)<((x1.length:Nat):Int):=⟨by omega,ob0p⟩;obtain⟨ob1,h⟩:=aB h;have ob2:=idA (((decide ((((x1.getD n3 0).toNat:Nat):Int)<(33:Int)))==false)=true);have ob3:=idA (((decide ((((x1.getD n3 0).toNat:Nat):Int)<(33:Int)))==false)=true);have ob4:=idA (((decide ((((x1.getD n3 0).toNat:Nat):Int)<(33:Int)))==false)=true);have ob5:=bqA (decide ((((x1.getD n3 0).toNat:Nat):Int)<(33:Int))) false;refine aZ [] [] ⟨31,[(0,.str x1),(1,.i x2),(5,.i (n3:Int)),(21,.bool ((decide ((((x1.getD n3 0).toNat:Nat):Int)<(33:Int)))||(decide ((((x1.getD n3 0).toNat:Nat):Int)>(126:Int)))))],[],[],0⟩ (an4 ob0 (And.intro ob1 (an2 ob2 ob3)) (an1 ob4) ob5) ?_;refine tN ?_;refine AWp.cond (b:=((decide ((((x1.getD n3 0).toNat:Nat):Int)<(33:Int)))||(decide ((((x1.getD n3 0).toNat:Nat):Int)>(126:Int))))) (by kernel_rfl) (fun hc2=> ?_) (fun hc2=> ?_)
   ·
    replace h:=aE hc2 h;refine aU [] [] ⟨31,[(4,.bool false)],[],[],0⟩ trivial ?_;have hret:=Option.some.inj h;subst hret;refine AWp.ret (kR (tR (tR (kR (aY ?_)))));exact bR _ rfl ⟨rfl,rfl⟩ rfl
   ·
    replace h:=aF hc2 h;refine AWp.skip (kN (tN ?_));obtain⟨ob6p,h⟩:=aB h;have ob6: -9223372036854775808≤((n3:Int)+(1:Int))∧((n3:Int)+(1:Int))≤9223372036854775807:=⟨by omega,ob6p⟩;refine aZ [] [] ⟨31,[(0,.str x1),(1,.i x2),(5,.i (((n3+1):Nat):Int))],[],[],0⟩ (an1 ob6) ?_;rw[hC0]at h;exact lN (_,(n3+1)) LR h (Nat.lt_succ_self _)
  ·
   replace h:=aF hc1 h;refine AWp.exit (tE (tE (kS ?_)));exact jN () LR h
 ·
  rintro⟨⟩ h;replace h:=(congrFun hK1 _).symm.trans h;refine AWp.seq ?_;have ob7:=idA (((decide ((lZ x1)≥(1:Int)))==true)=true);have ob8:=idA (((decide ((lZ x1)≥(1:Int)))==true)=true);have ob9:=idA (((decide ((lZ x1)≥(1:Int)))==true)=true);have ob10:=bqA (decide ((lZ x1)≥(1:Int))) true;refine aZ [] [] ⟨31,[(4,.bool ((decide ((lZ x1)≥(1:Int)))&&(decide ((lZ x1)≤x2))))],[],[],0⟩ (an3 (an1 ob7) (an2 ob8 ob9) ob10) ?_;refine tN ?_;have hret:=Option.some.inj h;subst hret;refine AWp.ret ?_;exact bR _ rfl ⟨rfl,rfl⟩ rfl
def f148 (x1:List UInt8):Option Bool:=
 (f178 x1 (64:Int)).bind fun(r2:Bool)=>
 some r2
theorem xU (x1:List UInt8) (r:Bool) (h:f148 x1=some r):aH Tryz.prog 148 [] [] [] [.str x1] (.bool r) []:=by
 unfold f148 at h;refine aH.body 0 _ _ Tryz.func148 rfl Tryz.ntmps148 rfl rfl ?_;refine bJ [] [] [0] [] trivial ?_;refine AWp.seq ?_;obtain⟨r2,hr2,h⟩:=bind_ok h;refine aZ [] [(1,⟨[.str x1,.i (64:Int)],[],[],[],.bool r2,[],[],[]⟩)] ⟨5,[(2,.bool r2)],[],[],0⟩ (an1 (cpT (f178_ok _ _ _ hr2))) ?_;refine tN ?_;have hret:=Option.some.inj h;subst hret;refine AWp.ret ?_;exact bR _ rfl ⟨rfl,rfl⟩ rfl
abbrev dY (x1:Int):=(((x1==(1:Int))||(x1==(4:Int)))||(x1==(5:Int)))
abbrev cR (x1:Int) (r6:Bool):=(!((x1 !=(6:Int))==r6))
abbrev mS (x1:Int) (x2 x3 x4:List UInt8):aK:=[(1,.cells 164 [.int .i64 x1,.str x2,.str x3,.str x4])]
abbrev eE (x1:Int) (r7:Bool):=(!((x1==(5:Int))==r7))
abbrev dB (x1:Int):=(!(x1 !=(6:Int)))
abbrev fP (x1:Int):=(!(x1==(5:Int)))
abbrev f115z6 (x1:Int):=(((x1==(1:Int))||(x1==(4:Int)))==false)
def f115 (x1:Int) (x2 x3 x4:List UInt8):Option (List UInt8×Int):=
 (f114 x1).bind fun(r5:List UInt8)=>
 gW ((r5==[])==false) (f148 x2) fun(r6:Bool)=>
 gW ((((r5==[])||(!((x1 !=(6:Int))==r6)))||((!(x1 !=(6:Int)))&&(!(x2==[]))))==false) (f148 x3) fun(r7:Bool)=>
 gW ((((((r5==[])||(!((x1 !=(6:Int))==r6)))||((!(x1 !=(6:Int)))&&(!(x2==[]))))||(!((x1==(5:Int))==r7)))||((!(x1==(5:Int)))&&(!(x3==[]))))==false) (f148 x4) fun(r8:Bool)=>
 chk ((((r5==[])||(!((x1 !=(6:Int))==r6)))==false)=true→(((r5==[])||(!((x1 !=(6:Int))==r6)))==false)=true→(!(x1 !=(6:Int)))=true→((((r5==[])||(!((x1 !=(6:Int))==r6)))==false)&&((!(x1 !=(6:Int)))==true))=true)<|
 chk ((((((r5==[])||(!((x1 !=(6:Int))==r6)))||((!(x1 !=(6:Int)))&&(!(x2==[]))))||(!((x1==(5:Int))==r7)))==false)=true→(((((r5==[])||(!((x1 !=(6:Int))==r6)))||((!(x1 !=(6:Int)))&&(!(x2==[]))))||(!((x1==(5:Int))==r7)))==false)=true→(!(x1==(5:Int)))=true→((((((r5==[])||(!((x1 !=(6:Int))==r6)))||((!(x1 !=(6:Int)))&&(!(x2==[]))))||(!((x1==(5:Int))==r7)))==false)&&((!(x1==(5:Int)))==true))=true)<|
 chk ((((((((r5==[])||(!((x1 !=(6:Int))==r6)))||((!(x1 !=(6:Int)))&&(!(x2==[]))))||(!((x1==(5:Int))==r7)))||((!(x1==(5:Int)))&&(!(x3==[]))))||(!((((x1==(1:Int))||(x1==(4:Int)))||(x1==(5:Int)))==r8)))==false)=true→(((((((r5==[])||(!((x1 !=(6:Int))==r6)))||((!(x1 !=(6:Int)))&&(!(x2==[]))))||(!((x1==(5:Int))==r7)))||((!(x1==(5:Int)))&&(!(x3==[]))))||(!((((x1==(1:Int))||(x1==(4:Int)))||(x1==(5:Int)))==r8)))==false)=true→(!(((x1==(1:Int))||(x1==(4:Int)))||(x1==(5:Int))))=true→((((((((r5==[])||(!((x1 !=(6:Int))==r6)))||((!(x1 !=(6:Int)))&&(!(x2==[]))))||(!((x1==(5:Int))==r7)))||((!(x1==(5:Int)))&&(!(x3==[]))))||(!((((x1==(1:Int))||(x1==(4:Int)))||(x1==(5:Int)))==r8)))==false)&&((!(((x1==(1:Int))||(x1==(4:Int)))||(x1==(5:Int))))==true))=true)<|
 if(((((((r5==[])||(!((x1 !=(6:Int))==r6)))||((!(x1 !=(6:Int)))&&(!(x2==[]))))||(!((x1==(5:Int))==r7)))||((!(x1==(5:Int)))&&(!(x3==[]))))||(!((((x1==(1:Int))||(x1==(4:Int)))||(x1==(5:Int)))==r8)))||((!(((x1==(1:Int))||(x1==(4:Int)))||(x1==(5:Int))))&&(!(x4==[]))))then(
 some ([],(1:Int))
 )else(
 (f114 x1).bind fun(r9:List UInt8)=>
 jn (fun(s10:List UInt8)=>
 jn (fun(s11:List UInt8)=>
 jn (fun(s12:List UInt8)=>
 some (s12,(0:Int))
 ) fun(K3:Ty0→Option (List UInt8×Int))=>
 if(((x1==(1:Int))||(x1==(4:Int)))||(x1==(5:Int)))then(
 chk (s11.length+([32]:List UInt8).length≤9223372036854775807)<|
 chk ((s11++([32]:List UInt8)).length+x4.length≤9223372036854775807)<|
 K3 ((s11++([32]:List UInt8))++x4)
 )else(
 K3 s11
 )
 ) fun(K2:Ty0→Option (List UInt8×Int))=>
 if(x1==(5:Int))then(
 chk (s10.length+([32]:List UInt8).length≤9223372036854775807)<|
 chk ((s10++([32]:List UInt8)).length+x3.length≤9223372036854775807)<|
 K2 ((s10++([32]:List UInt8))++x3)
 )else(
 K2 s10
 )
 ) fun(K1:Ty0→Option (List UInt8×Int))=>
 if(x1 !=(6:Int))then(
 chk (r9.length+([32]:List UInt8).length≤9223372036854775807)<|
 chk ((r9++([32]:List UInt8)).length+x2.length≤9223372036854775807)<|
 K1 ((r9++([32]:List UInt8))++x2)
 )else(
 K1 r9
 )
 )
theorem f115_ok (x1:Int) (x2 x3 x4:List UInt8) (r:List UInt8×Int) (h:f115 x1 x2 x3 x4=some r):aH Tryz.prog 115 [] [] [] [.agg [.int .i64 x1,.str x2,.str x3,.str x4]] (.tup [.str r.1,.int .i64 r.2]) []:=by
 unfold f115 at h;refine aH.body 0 _ _ Tryz.func115 rfl Tryz.ntmps115 rfl rfl ?_;refine bJ [] [] [1] [1] trivial ?_;refine bJ [] [] [1,4] [1] trivial ?_;refine bJ [] [] [1,4,5] [1] trivial ?_;refine AWp.seq ?_;have ob0:=idA (((x1==(1:Int))==false)=true);have ob1:=idA (((x1==(1:Int))==false)=true);have ob2:=bqA (x1==(1:Int)) false;have ob3:=idA ((f115z6 x1)=true);have ob4:=idA ((f115z6 x1)=true);have ob5:true=true→((x1==(1:Int))||(x1==(4:Int)))=false→(f115z6 x1)=true:=fun _ h=>beq_iff_eq.2 h;refine cA [] [] [1,4,5,6] [1] (an6 (an1 ob0) (an1 ob1) ob2 (an1 ob3) (an1 ob4) ob5) ?_;refine tN (AWp.seq (AWp.seq ?_));obtain⟨r5,hr5,h⟩:=bind_ok h;obtain⟨r6,hr6,h⟩:=cG h;obtain⟨r7,hr7,h⟩:=cG h;obtain⟨r8,hr8,h⟩:=cG h;have ob6:=idA (((r5==[])==false)=true);have ob7:=idA (((r5==[])==false)=true);have ob8:=idA (((r5==[])==false)=true);have ob9:=idA (((r5==[])==false)=true);have ob10:=bqA (r5==[]) false;have ob11:=idA ((((r5==[])||(cR x1 r6))==false)=true);have ob12:=idA ((((r5==[])||(cR x1 r6))==false)=true);have ob13:=idA (((((r5==[])||(cR x1 r6))==false)&&((dB x1)==true))=true);have ob14:=idA (((((r5==[])||(cR x1 r6))==false)&&((dB x1)==true))=true);obtain⟨ob15,h⟩:=aB h;have ob16:=idA ((((r5==[])||(cR x1 r6))==false)=true);have ob17:=bqA ((r5==[])||(cR x1 r6)) false;have ob18:=idA (((((r5==[])||(cR x1 r6))||((dB x1)&&(!(x2==[]))))==false)=true);have ob19:=idA (((((r5==[])||(cR x1 r6))||((dB x1)&&(!(x2==[]))))==false)=true);have ob20:=idA (((((r5==[])||(cR x1 r6))||((dB x1)&&(!(x2==[]))))==false)=true);have ob21:=idA (((((r5==[])||(cR x1 r6))||((dB x1)&&(!(x2==[]))))==false)=true);have ob22:=bqA (((r5==[])||(cR x1 r6))||((dB x1)&&(!(x2==[])))) false;have ob23:=idA ((((((r5==[])||(cR x1 r6))||((dB x1)&&(!(x2==[]))))||(eE x1 r7))==false)=true);have ob24:=idA ((((((r5==[])||(cR x1 r6))||((dB x1)&&(!(x2==[]))))||(eE x1 r7))==false)=true);have ob25:=idA (((((((r5==[])||(cR x1 r6))||((dB x1)&&(!(x2==[]))))||(eE x1 r7))==false)&&((fP x1)==true))=true);have ob26:=idA (((((((r5==[])||(cR x1 r6))||((dB x1)&&(!(x2==[]))))||(eE x1 r7))==false)&&((fP x1)==true))=true);obtain⟨ob27,h⟩:=aB h;have ob28:=idA ((((((r5==[])||(cR x1 r6))||((dB x1)&&(!(x2==[]))))||(eE x1 r7))==false)=true);have ob29:=bqA ((((r5==[])||(cR x1 r6))||((dB x1)&&(!(x2==[]))))||(eE x1 r7)) false;have ob30:=idA (((((((r5==[])||(cR x1 r6))||((dB x1)&&(!(x2==[]))))||(eE x1 r7))||((fP x1)&&(!(x3==[]))))==false)=true);have ob31:=idA (((((((r5==[])||(cR x1 r6))||((dB x1)&&(!(x2==[]))))||(eE x1 r7))||((fP x1)&&(!(x3==[]))))==false)=true);have ob32:=idA (((((((r5==[])||(cR x1 r6))||((dB x1)&&(!(x2==[]))))||(eE x1 r7))||((fP x1)&&(!(x3==[]))))==false)=true);have ob33:=idA (((((((r5==[])||(cR x1 r6))||((dB x1)&&(!(x2==[]))))||(eE x1 r7))||((fP x1)&&(!(x3==[]))))==false)=true);have ob34:=bqA (((((r5==[])||(cR x1 r6))||((dB x1)&&(!(x2==[]))))||(eE x1 r7))||((fP x1)&&(!(x3==[])))) false;have ob35:=idA ((((((((r5==[])||(cR x1 r6))||((dB x1)&&(!(x2==[]))))||(eE x1 r7))||((fP x1)&&(!(x3==[]))))||(!((dY x1)==r8)))==false)=true);have ob36:=idA ((((((((r5==[])||(cR x1 r6))||((dB x1)&&(!(x2==[]))))||(eE x1 r7))||((fP x1)&&(!(x3==[]))))||(!((dY x1)==r8)))==false)=true);have ob37:=idA (((((((((r5==[])||(cR x1 r6))||((dB x1)&&(!(x2==[]))))||(eE x1 r7))||((fP x1)&&(!(x3==[]))))||(!((dY x1)==r8)))==false)&&((!(dY x1))==true))=true);have ob38:=idA (((((((((r5==[])||(cR x1 r6))||((dB x1)&&(!(x2==[]))))||(eE x1 r7))||((fP x1)&&(!(x3==[]))))||(!((dY x1)==r8)))==false)&&((!(dY x1))==true))=true);obtain⟨ob39,h⟩:=aB h;have ob40:=idA ((((((((r5==[])||(cR x1 r6))||((dB x1)&&(!(x2==[]))))||(eE x1 r7))||((fP x1)&&(!(x3==[]))))||(!((dY x1)==r8)))==false)=true);have ob41:=bqA ((((((r5==[])||(cR x1 r6))||((dB x1)&&(!(x2==[]))))||(eE x1 r7))||((fP x1)&&(!(x3==[]))))||(!((dY x1)==r8))) false;refine cA [] [(2,⟨[.i x1],[],[],[],.str r5,[],[],[]⟩),(8,⟨[.str x2],[],[],[],.bool r6,[],[],[]⟩),(24,⟨[.str x3],[],[],[],.bool r7,[],[],[]⟩),(40,⟨[.str x4],[],[],[],.bool r8,[],[],[]⟩)] [1,4,5,6,78] [1] (ac6 (cpT (yA _ _ hr5)) (an1 ob6) (And.intro (cpC fun hc=>(xU _ _ (hr6 hc))) (an1 ob7)) (an2 ob8 ob9) ob10 (an1 ob11) (ac6 (an1 ob12) (an1 ob13) (an1 ob14) (And.intro ob15 (an1 ob16)) ob17 (an1 ob18) (ac6 (And.intro (cpC fun hc=>(xU _ _ (hr7 hc))) (an1 ob19)) (an2 ob20 ob21) ob22 (an1 ob23) (an1 ob24) (an1 ob25) (ac6 (an1 ob26) (And.intro ob27 (an1 ob28)) ob29 (an1 ob30) (And.intro (cpC fun hc=>(xU _ _ (hr8 hc))) (an1 ob31)) (an2 ob32 ob33) (ac6 ob34 (an1 ob35) (an1 ob36) (an1 ob37) (an1 ob38) (And.intro ob39 (an1 ob40)) (an1 ob41)))))) ?_;refine tN ?_;refine AWp.cond (b:=(((((((r5==[])||(cR x1 r6))||((dB x1)&&(!(x2==[]))))||(eE x1 r7))||((fP x1)&&(!(x3==[]))))||(!((dY x1)==r8)))||((!(dY x1))&&(!(x4==[]))))) (by kernel_rfl) (fun hc1=> ?_) (fun hc1=> ?_)
 ·
  replace h:=aE hc1 h;refine aU [] [] ⟨101,[(2,.str []),(3,.i (1:Int))],[],[],0⟩ trivial ?_;have hret:=Option.some.inj h;subst hret;refine AWp.ret (tR ?_);exact bR _ rfl ⟨rfl,rfl⟩ rfl
 ·
  replace h:=aF hc1 h;refine AWp.skip (tN (AWp.seq ?_));obtain⟨r9,hr9,h⟩:=bind_ok h;refine aZ [] [(2,⟨[.i x1],[],[],[],.str r9,[],[],[]⟩)] ⟨101,[(1,.ptr 1 0),(4,.bool (x1 !=(6:Int))),(5,.bool (x1==(5:Int))),(6,.bool (dY x1)),(7,.str r9)],(mS x1 x2 x3 x4),[],0⟩ (an1 (cpT (yA _ _ hr9))) ?_;refine tN ?_;obtain⟨K1,hK1,h⟩:=aS h;refine AWp.join (α:=List UInt8) (fun(s10:List UInt8)=>⟨101,[(1,.ptr 1 0),(5,.bool (x1==(5:Int))),(6,.bool (dY x1)),(7,.str s10)],(mS x1 x2 x3 x4),[],0⟩) (fun x=>K1 x=some r) ?_ ?_
  ·
   refine aU [] [] ⟨101,[(1,.ptr 1 0),(5,.bool (x1==(5:Int))),(6,.bool (dY x1)),(7,.str r9),(82,.bool (x1 !=(6:Int)))],(mS x1 x2 x3 x4),[],0⟩ trivial ?_;refine AWp.cond (b:=(x1 !=(6:Int))) (by kernel_rfl) (fun hc2=> ?_) (fun hc2=> ?_)
   ·
    replace h:=aE hc2 h;obtain⟨ob42,ob43,h⟩:=ck2 h;refine aZ [] [] ⟨101,[(1,.ptr 1 0),(5,.bool (x1==(5:Int))),(6,.bool (dY x1)),(7,.str ((r9++([32]:List UInt8))++x2))],(mS x1 x2 x3 x4),[],0⟩ (an2 ob42 ob43) ?_;exact jN (((r9++([32]:List UInt8))++x2)) LR h
   ·
    replace h:=aF hc2 h;refine AWp.skip ?_;exact jN (r9) LR h
  ·
   rintro s10 h;replace h:=(congrFun hK1 _).symm.trans h;obtain⟨K2,hK2,h⟩:=aS h;refine AWp.join (α:=List UInt8) (fun(s11:List UInt8)=>⟨101,[(1,.ptr 1 0),(6,.bool (dY x1)),(7,.str s11)],(mS x1 x2 x3 x4),[],0⟩) (fun x=>K2 x=some r) ?_ ?_
   ·
    refine aU [] [] ⟨101,[(1,.ptr 1 0),(6,.bool (dY x1)),(7,.str s10),(88,.bool (x1==(5:Int)))],(mS x1 x2 x3 x4),[],0⟩ trivial ?_;refine AWp.cond (b:=(x1==(5:Int))) (by kernel_rfl) (fun hc3=> ?_) (fun hc3=> ?_)
    ·
     replace h:=aE hc3 h;obtain⟨ob44,ob45,h⟩:=ck2 h;refine aZ [] [] ⟨101,[(1,.ptr 1 0),(6,.bool (dY x1)),(7,.str ((s10++([32]:List UInt8))++x3))],(mS x1 x2 x3 x4),[],0⟩ (an2 ob44 ob45) ?_;exact jN (((s10++([32]:List UInt8))++x3)) LR h
    ·
     replace h:=aF hc3 h;refine AWp.skip ?_;exact jN (s10) LR h
   ·
    rintro s11 h;replace h:=(congrFun hK2 _).symm.trans h;obtain⟨K3,hK3,h⟩:=aS h;refine AWp.join (α:=List UInt8) (fun(s12:List UInt8)=>⟨101,[(7,.str s12)],[],[],0⟩) (fun x=>K3 x=some r) ?_ ?_
    ·
     refine aU [] [] ⟨101,[(1,.ptr 1 0),(7,.str s11),(94,.bool (dY x1))],(mS x1 x2 x3 x4),[],0⟩ trivial ?_;refine AWp.cond (b:=(dY x1)) (by kernel_rfl) (fun hc4=> ?_) (fun hc4=> ?_)
     ·
      replace h:=aE hc4 h;obtain⟨ob46,ob47,h⟩:=ck2 h;refine aZ [] [] ⟨101,[(7,.str ((s11++([32]:List UInt8))++x4))],[],[],0⟩ (an2 ob46 ob47) ?_;exact jN (((s11++([32]:List UInt8))++x4)) LR h
     ·
      replace h:=aF hc4 h;refine AWp.skip ?_;exact jN (s11) LR h
    ·
     rintro s12 h;replace h:=(congrFun hK3 _).symm.trans h;refine aU [] [] ⟨101,[(2,.str s12),(3,.i (0:Int))],[],[],0⟩ trivial ?_;have hret:=Option.some.inj h;subst hret;refine AWp.ret ?_;exact bR _ rfl ⟨rfl,rfl⟩ rfl
def gA (x1:List UInt8) (r2:List Ty0) (K1:Unit→Option Tq8):Nat→Nat→Option Tq8
 |0,_=>none
 |k+1,n3=>
  if(decide ((n3:Int)≤(6:Int)))then(
  jn (fun(_:Unit)=>
  chk (((n3:Int)+(1:Int))≤9223372036854775807)<|
  (gA x1 r2 K1 k) (n3+1)
  ) fun(K2:Unit→Option Tq8)=>
  (f114 (n3:Int)).bind fun(r4:List UInt8)=>
  chk ((0:Int)<(((r2).length:Nat):Int))<|
  chk (0<(r2).length)<|
  if(!((r2.getD 0 [])==r4))then(
  K2 ()
  )else(
  jn (fun(s5:List UInt8)=>
  jn (fun(s6:List UInt8)=>
  jn (fun(s7:List UInt8)=>
  jn (fun(s8:List UInt8)=>
  (f115 (n3:Int) s5 s6 s8).bind fun(r9:List UInt8×Int)=>
  if((r9.2==(0:Int))&&(r9.1==x1))then(
  some ((n3:Int),s5,s6,s8,(0:Int))
  )else(
  K2 ()
  )
  ) fun(K6:Ty0→Option Tq8)=>
  if(((n3:Int)==(5:Int))&&(decide ((((r2).length:Nat):Int)>(3:Int))))then(
  chk ((3:Int)<(((r2).length:Nat):Int))<|
  chk (3<(r2).length)<|
  K6 (r2.getD 3 [])
  )else(
  K6 s7
  )
  ) fun(K5:Ty0→Option Tq8)=>
  if(((n3:Int) !=(5:Int))&&(decide ((((r2).length:Nat):Int)>(2:Int))))then(
  chk ((2:Int)<(((r2).length:Nat):Int))<|
  chk (2<(r2).length)<|
  K5 (r2.getD 2 [])
  )else(
  K5 []
  )
  ) fun(K4:Ty0→Option Tq8)=>
  if(((n3:Int)==(5:Int))&&(decide ((((r2).length:Nat):Int)>(2:Int))))then(
  chk ((2:Int)<(((r2).length:Nat):Int))<|
  chk (2<(r2).length)<|
  K4 (r2.getD 2 [])
  )else(
  K4 []
  )
  ) fun(K3:Ty0→Option Tq8)=>
  if(decide ((((r2).length:Nat):Int)>(1:Int)))then(
  chk ((1:Int)<(((r2).length:Nat):Int))<|
  chk (1<(r2).length)<|
  K3 (r2.getD 1 [])
  )else(
  K3 []
  )
  )
  )else(
  K1 ()
  )
abbrev lP :List V:=[.int .i64 (0:Int),.str [],.str [],.str []]
abbrev sB (x1:List UInt8) (n3:Nat):List (Nat×V):=[(0,.str x1),(2,.ptr 2 0),(4,.own 6001),(5,.int .i64 (n3:Int)),(6,.ptr 6 0)]
abbrev uR (r2:List Ty0):aK:=[(2,.cells 164 (lP)),(6001,bL 9 1 eS [] r2)]
abbrev pQ (n3:Nat):=((n3:Int)==(5:Int))
abbrev f84z4 (n3:Nat) (r2:List Ty0):aK:=[(2,.cells 164 (lP)),(6,.cells 164 [.int .i64 (n3:Int),.str [],.str [],.str []]),(6001,bL 9 1 eS [] r2)]
abbrev f84z5 (x1:List UInt8) (n3:Nat):List (Nat×V):=[(0,.str x1),(2,.ptr 2 0),(4,.own 6001),(5,.int .i64 (n3:Int))]
abbrev f84z6 (n3:Nat) (s5:List UInt8) (r2:List Ty0):aK:=[(2,.cells 164 (lP)),(6,.cells 164 [.int .i64 (n3:Int),.str s5,.str [],.str []]),(6001,bL 9 1 eS [] r2)]
abbrev f84z7 (n3:Nat):=((n3:Int) !=(5:Int))
abbrev f84z8 (n3:Nat) (s5 s6:List UInt8) (r2:List Ty0):aK:=[(2,.cells 164 (lP)),(6,.cells 164 [.int .i64 (n3:Int),.str s5,.str s6,.str []]),(6001,bL 9 1 eS [] r2)]
abbrev f84z9 (n3:Nat) (s5 s6 s8:List UInt8):List V:=[.int .i64 (n3:Int),.str s5,.str s6,.str s8]
abbrev f84z10 (n3:Nat) (s5 s6 s7:List UInt8) (r2:List Ty0):aK:=[(2,.cells 164 (lP)),(6,.cells 164 [.int .i64 (n3:Int),.str s5,.str s6,.str s7]),(6001,bL 9 1 eS [] r2)]
def f84 (x1:List UInt8):Option Tq8:=
 (f113 x1).bind fun(r2:List Ty0)=>
 jn (fun(_:Unit)=>
 some ((0:Int),[],[],[],(2:Int))
 ) fun(K1:Unit→Option Tq8)=>
 gA x1 r2 K1 bG 1
theorem f84_ok (x1:List UInt8) (r:Tq8) (h:f84 x1=some r):aH Tryz.prog 84 [] [] [] [.str x1] (.tup [.agg [.int .i64 r.1,.str r.2.1,.str r.2.2.1,.str r.2.2.2.1],.int .i64 r.2.2.2.2]) []:=by
 unfold f84 at h;refine aH.bodyD [2] 0 _ _ Tryz.func84 rfl Tryz.ntmps84 rfl rfl ?_;refine bJ [] [] [0,2] [2] trivial ?_;refine AWp.seq ?_;obtain⟨r2,hr2,h⟩:=bind_ok h;refine aZ [] [(1,⟨[.str x1],[],[],[(6001,aG r2)],.own 6001,[6001],[],[]⟩)] ⟨77,[(0,.str x1),(2,.ptr 2 0),(4,.own 6001)],(uR r2),[],0⟩ (an1 (cpT (aH.ren (bA 3000 6001) (aD 3000 6001) rfl (f113_ok _ _ hr2)))) ?_;refine tN ?_;obtain⟨K1,hK1,h⟩:=aS h;refine AWp.join (fun(x:Unit)=>match x with|()=>⟨77,[(2,.ptr 2 0)],[(2,.cells 164 (lP))],[],0⟩) (fun x=>K1 x=some r) ?_ ?_
 ·
  refine aU [] [] ⟨77,[(0,.str x1),(2,.ptr 2 0),(4,.own 6001),(5,.i (1:Int))],(uR r2),[],0⟩ trivial ?_;refine AWp.block ?_;refine AWp.loopL (α:=Nat×Nat) (fun x=>match x with|(_,n3)=>⟨77,(f84z5 x1 n3),(uR r2),[],0⟩) (fun x=>gA x1 r2 K1 x.1 x.2=some r) (fun x=>x.1) (bG,1) (LR (s':=⟨77,[(0,.str x1),(2,.ptr 2 0),(4,.own 6001),(5,.i (1:Int))],(uR r2),[],0⟩)) h ?_
  rintro⟨k0,n3⟩ h
  cases k0 with
  |zero=>exact nomatch (show none=some r from h)
  |succ k0=>
  obtain⟨C0,hC0⟩:∃C,C=gA x1 r2 K1 k0:=⟨_,rfl⟩;replace h:=(gA.eq_2 ..).symm.trans h
  try rw[←hC0]at h
  refine AWp.seq ?_;refine aU [] [] ⟨77,[(0,.str x1),(2,.ptr 2 0),(4,.own 6001),(5,.i (n3:Int)),(12,.bool (decide ((n3:Int)≤(6:Int))))],(uR r2),[],0⟩ trivial ?_;refine AWp.cond (b:=(decide ((n3:Int)≤(6:Int)))) (by kernel_rfl) (fun hc1=> ?_) (fun hc1=> ?_)
  ·
   replace h:=aE hc1 h;refine AWp.skip (tN ?_);obtain⟨K2,hK2,h⟩:=aS h;refine AWp.join (fun(x:Unit)=>match x with|()=>⟨77,(f84z5 x1 n3),(uR r2),[],0⟩) (fun x=>K2 x=some r) ?_ ?_
   ·
    refine AWp.block (AWp.seq (AWp.seq ?_));obtain⟨r4,hr4,h⟩:=bind_ok h;obtain⟨ob0p,h⟩:=aB h;have ob0:0≤(0:Int)∧(0:Int)<(((r2).length:Nat):Int):=⟨by omega,ob0p⟩;obtain⟨ob1,h⟩:=aB h;refine aZ [] [(4,⟨[.i (n3:Int)],[],[],[],.str r4,[],[],[]⟩)] ⟨77,[(0,.str x1),(2,.ptr 2 0),(4,.own 6001),(5,.i (n3:Int)),(20,.bool (!((r2.getD 0 [])==r4)))],(uR r2),[],0⟩ (an3 ob0 ob1 (cpT (yA _ _ hr4))) ?_;refine tN ?_;refine AWp.cond (b:=(!((r2.getD 0 [])==r4))) (by kernel_rfl) (fun hc2=> ?_) (fun hc2=> ?_)
    ·
     replace h:=aE hc2 h;refine AWp.exit (tE (kS ?_));exact jN () LR h
    ·
     replace h:=aF hc2 h;refine AWp.skip (tN ?_);refine aU [] [] ⟨77,(sB x1 n3),(f84z4 n3 r2),[],0⟩ (an1 trivial) ?_;obtain⟨K3,hK3,h⟩:=aS h;refine AWp.join (α:=List UInt8) (fun(s5:List UInt8)=>⟨77,(sB x1 n3),(f84z6 n3 s5 r2),[],0⟩) (fun x=>K3 x=some r) ?_ ?_
     ·
      refine aU [] [] ⟨77,[(0,.str x1),(2,.ptr 2 0),(4,.own 6001),(5,.i (n3:Int)),(6,.ptr 6 0),(25,.bool (decide ((lZ r2)>(1:Int))))],(f84z4 n3 r2),[],0⟩ trivial ?_;refine AWp.cond (b:=(decide ((lZ r2)>(1:Int)))) (by kernel_rfl) (fun hc3=> ?_) (fun hc3=> ?_)
      ·
       replace h:=aE hc3 h;obtain⟨ob2p,h⟩:=aB h;have ob2:0≤(1:Int)∧(1:Int)<(((r2).length:Nat):Int):=⟨by omega,ob2p⟩;obtain⟨ob3,h⟩:=aB h;refine aZ [] [] ⟨77,(sB x1 n3),[(2,.cells 164 (lP)),(6,.cells 164 [.i (n3:Int),.str (r2.getD 1 []),.str [],.str []]),(6001,aG r2)],[],0⟩ (an3 ob2 ob3 trivial) ?_;exact jN ((r2.getD 1 [])) LR h
      ·
       replace h:=aF hc3 h;refine AWp.skip ?_;exact jN ([]) LR h
     ·
      rintro s5 h;replace h:=(congrFun hK3 _).symm.trans h;obtain⟨K4,hK4,h⟩:=aS h;refine AWp.join (α:=List UInt8) (fun(s6:List UInt8)=>⟨77,(sB x1 n3),(f84z8 n3 s5 s6 r2),[],0⟩) (fun x=>K4 x=some r) ?_ ?_
      ·
       refine AWp.seq ?_;have ob4:=idA (((pQ n3)==true)=true);have ob5:=idA (((pQ n3)==true)=true);have ob6:=bqA (pQ n3) true;refine aZ [] [] ⟨77,[(0,.str x1),(2,.ptr 2 0),(4,.own 6001),(5,.i (n3:Int)),(6,.ptr 6 0),(36,.bool ((pQ n3)&&(decide ((lZ r2)>(2:Int)))))],(f84z6 n3 s5 r2),[],0⟩ (an3 (an1 ob4) (an1 ob5) ob6) ?_;refine tN ?_;refine AWp.cond (b:=((pQ n3)&&(decide ((lZ r2)>(2:Int))))) (by kernel_rfl) (fun hc4=> ?_) (fun hc4=> ?_)
       ·
        replace h:=aE hc4 h;obtain⟨ob7p,h⟩:=aB h;have ob7:0≤(2:Int)∧(2:Int)<(((r2).length:Nat):Int):=⟨by omega,ob7p⟩;obtain⟨ob8,h⟩:=aB h;refine aZ [] [] ⟨77,(sB x1 n3),[(2,.cells 164 (lP)),(6,.cells 164 [.i (n3:Int),.str s5,.str (r2.getD 2 []),.str []]),(6001,aG r2)],[],0⟩ (an3 ob7 ob8 trivial) ?_;exact jN ((r2.getD 2 [])) LR h
       ·
        replace h:=aF hc4 h;refine AWp.skip ?_;exact jN ([]) LR h
      ·
       rintro s6 h;replace h:=(congrFun hK4 _).symm.trans h;obtain⟨K5,hK5,h⟩:=aS h;refine AWp.join (α:=List UInt8) (fun(s7:List UInt8)=>⟨77,(sB x1 n3),(f84z10 n3 s5 s6 s7 r2),[],0⟩) (fun x=>K5 x=some r) ?_ ?_
       ·
        refine AWp.seq ?_;have ob9:=idA (((f84z7 n3)==true)=true);have ob10:=idA (((f84z7 n3)==true)=true);have ob11:=bqA (f84z7 n3) true;refine aZ [] [] ⟨77,[(0,.str x1),(2,.ptr 2 0),(4,.own 6001),(5,.i (n3:Int)),(6,.ptr 6 0),(47,.bool ((f84z7 n3)&&(decide ((lZ r2)>(2:Int)))))],(f84z8 n3 s5 s6 r2),[],0⟩ (an3 (an1 ob9) (an1 ob10) ob11) ?_;refine tN ?_;refine AWp.cond (b:=((f84z7 n3)&&(decide ((lZ r2)>(2:Int))))) (by kernel_rfl) (fun hc5=> ?_) (fun hc5=> ?_)
        ·
         replace h:=aE hc5 h;obtain⟨ob12p,h⟩:=aB h;have ob12:0≤(2:Int)∧(2:Int)<(((r2).length:Nat):Int):=⟨by omega,ob12p⟩;obtain⟨ob13,h⟩:=aB h;refine aZ [] [] ⟨77,(sB x1 n3),[(2,.cells 164 (lP)),(6,.cells 164 [.i (n3:Int),.str s5,.str s6,.str (r2.getD 2 [])]),(6001,aG r2)],[],0⟩ (an3 ob12 ob13 trivial) ?_;exact jN ((r2.getD 2 [])) LR h
        ·
         replace h:=aF hc5 h;refine AWp.skip ?_;exact jN ([]) LR h
       ·
        rintro s7 h;replace h:=(congrFun hK5 _).symm.trans h;obtain⟨K6,hK6,h⟩:=aS h;refine AWp.join (α:=List UInt8) (fun(s8:List UInt8)=>⟨77,(sB x1 n3),[(2,.cells 164 (lP)),(6,.cells 164 (f84z9 n3 s5 s6 s8)),(6001,aG r2)],[],0⟩) (fun x=>K6 x=some r) ?_ ?_
        ·
         refine AWp.seq ?_;have ob14:=idA (((pQ n3)==true)=true);have ob15:=idA (((pQ n3)==true)=true);have ob16:=bqA (pQ n3) true;refine aZ [] [] ⟨77,[(0,.str x1),(2,.ptr 2 0),(4,.own 6001),(5,.i (n3:Int)),(6,.ptr 6 0),(58,.bool ((pQ n3)&&(decide ((lZ r2)>(3:Int)))))],(f84z10 n3 s5 s6 s7 r2),[],0⟩ (an3 (an1 ob14) (an1 ob15) ob16) ?_;refine tN ?_;refine AWp.cond (b:=((pQ n3)&&(decide ((lZ r2)>(3:Int))))) (by kernel_rfl) (fun hc6=> ?_) (fun hc6=> ?_)
         ·
          replace h:=aE hc6 h;obtain⟨ob17p,h⟩:=aB h;have ob17:0≤(3:Int)∧(3:Int)<(((r2).length:Nat):Int):=⟨by omega,ob17p⟩;obtain⟨ob18,h⟩:=aB h;refine aZ [] [] ⟨77,(sB x1 n3),[(2,.cells 164 (lP)),(6,.cells 164 [.i (n3:Int),.str s5,.str s6,.str (r2.getD 3 [])]),(6001,aG r2)],[],0⟩ (an3 ob17 ob18 trivial) ?_;exact jN ((r2.getD 3 [])) LR h
         ·
          replace h:=aF hc6 h;refine AWp.skip ?_;exact jN (s7) LR h
        ·
         rintro s8 h;replace h:=(congrFun hK6 _).symm.trans h;refine AWp.seq ?_;obtain⟨r9,hr9,h⟩:=bind_ok h;refine cA [] [(1,⟨[.agg (f84z9 n3 s5 s6 s8)],[],[],[],.tup [.str r9.1,.i r9.2],[],[],[]⟩)] [0,2,4,5,6,7,8] [2,6,6001] (an1 (cpT (f115_ok _ _ _ _ _ hr9))) ?_;refine tN (AWp.seq ?_);have ob19:=idA (((r9.2==(0:Int))==true)=true);have ob20:=idA (((r9.2==(0:Int))==true)=true);have ob21:=bqA (r9.2==(0:Int)) true;refine aZ [] [] ⟨77,[(0,.str x1),(2,.ptr 2 0),(4,.own 6001),(5,.i (n3:Int)),(6,.ptr 6 0),(74,.bool ((r9.2==(0:Int))&&(r9.1==x1)))],[(2,.cells 164 (lP)),(6,.cells 164 (f84z9 n3 s5 s6 s8)),(6001,aG r2)],[],0⟩ (an2 (an2 ob19 ob20) ob21) ?_;refine tN ?_;refine AWp.cond (b:=((r9.2==(0:Int))&&(r9.1==x1))) (by kernel_rfl) (fun hc7=> ?_) (fun hc7=> ?_)
         ·
          replace h:=aE hc7 h;refine aU [] [] ⟨77,[(2,.ptr 2 0),(3,.i (0:Int))],[(2,.cells 164 (f84z9 n3 s5 s6 s8))],[],0⟩ (an1 trivial) ?_;have hret:=Option.some.inj h;subst hret;refine AWp.ret (kR (aY (tR (kR (aY ?_)))));exact bR _ rfl ⟨rfl,rfl⟩ rfl
         ·
          replace h:=aF hc7 h;refine AWp.skip (kN ?_);exact jN () LR h
   ·
    rintro⟨⟩ h;replace h:=(congrFun hK2 _).symm.trans h;obtain⟨ob22p,h⟩:=aB h;have ob22: -9223372036854775808≤((n3:Int)+(1:Int))∧((n3:Int)+(1:Int))≤9223372036854775807:=⟨by omega,ob22p⟩;refine aZ [] [] ⟨77,[(0,.str x1),(2,.ptr 2 0),(4,.own 6001),(5,.i (((n3+1):Nat):Int))],(uR r2),[],0⟩ (an1 ob22) ?_;rw[hC0]at h;exact lN (_,(n3+1)) LR h (Nat.lt_succ_self _)
  ·
   replace h:=aF hc1 h;refine AWp.exit (tE (tE (kS ?_)));exact jN () LR h
 ·
  rintro⟨⟩ h;replace h:=(congrFun hK1 _).symm.trans h;refine aU [] [] ⟨77,[(2,.ptr 2 0),(3,.i (2:Int))],[(2,.cells 164 (lP))],[],0⟩ (an1 trivial) ?_;have hret:=Option.some.inj h;subst hret;refine AWp.ret ?_;exact bR _ rfl ⟨rfl,rfl⟩ rfl
def dN (x1:List Tq1) (x2:List UInt8) (K1:Unit→Option Int):Nat→Nat→Option Int
 |0,_=>none
 |k+1,n3=>
  if(decide ((n3:Int)<(((x1).length:Nat):Int)))then(
  chk ((n3:Int)<(((x1).length:Nat):Int))<|
  if(((x1.getD n3 (default:Tq1)).1)==x2)then(
  some (n3:Int)
  )else(
  chk (((n3:Int)+(1:Int))≤9223372036854775807)<|
  (dN x1 x2 K1 k) (n3+1)
  )
  )else(
  K1 ()
  )
def f116 (x1:List Tq1) (x2:List UInt8):Option Int:=
 jn (fun(_:Unit)=>
 some (-1:Int)
 ) fun(K1:Unit→Option Int)=>
 dN x1 x2 K1 bG 0
theorem f116_ok (x1:List Tq1) (x2:List UInt8) (r:Int) (h:f116 x1 x2=some r):aH Tryz.prog 116 [] [] [] [vL 3 cH (default:Tq1) x1,.str x2] (.int .i64 r) []:=by
 unfold f116 at h;refine aH.body 0 _ _ Tryz.func116 rfl Tryz.ntmps116 rfl rfl ?_;refine aU [] [] ⟨20,[(0,aV x1),(1,.str x2)],[],[],0⟩ trivial ?_;obtain⟨K1,hK1,h⟩:=aS h;refine AWp.join (fun(x:Unit)=>match x with|()=>⟨20,[],[],[],0⟩) (fun x=>K1 x=some r) ?_ ?_
 ·
  refine aU [] [] ⟨20,[(0,aV x1),(1,.str x2),(5,.i (0:Int))],[],[],0⟩ trivial ?_;refine AWp.block ?_;refine AWp.loopL (α:=Nat×Nat) (fun x=>match x with|(_,n3)=>⟨20,[(0,aV x1),(1,.str x2),(5,.i (n3:Int))],[],[],0⟩) (fun x=>dN x1 x2 K1 x.1 x.2=some r) (fun x=>x.1) (bG,0) (LR (s':=⟨20,[(0,aV x1),(1,.str x2),(5,.i (0:Int))],[],[],0⟩)) h ?_
  rintro⟨k0,n3⟩ h
  cases k0 with
  |zero=>exact nomatch (show none=some r from h)
  |succ k0=>
  obtain⟨C0,hC0⟩:∃C,C=dN x1 x2 K1 k0:=⟨_,rfl⟩;replace h:=(dN.eq_2 ..).symm.trans h
  try rw[←hC0]at h
  refine AWp.seq ?_;refine aU [] [] ⟨20,[(0,aV x1),(1,.str x2),(5,.i (n3:Int)),(9,.bool (decide ((n3:Int)<(lZ x1))))],[],[],0⟩ trivial ?_;refine AWp.cond (b:=(decide ((n3:Int)<(lZ x1)))) (by kernel_rfl) (fun hc1=> ?_) (fun hc1=> ?_)
  ·
   replace h:=aE hc1 h;refine AWp.skip (tN (AWp.seq (AWp.block (AWp.seq ?_))));obtain⟨ob0p,h⟩:=aB h;have ob0:0≤(n3:Int)∧(n3:Int)<(((x1).length:Nat):Int):=⟨by omega,ob0p⟩;refine aZ [] [] ⟨20,[(0,aV x1),(1,.str x2),(5,.i (n3:Int)),(18,.bool (((x1.getD n3 aN).1)==x2))],[],[],0⟩ (an1 ob0) ?_;refine tN ?_;refine AWp.cond (b:=(((x1.getD n3 aN).1)==x2)) (by kernel_rfl) (fun hc2=> ?_) (fun hc2=> ?_)
   ·
    replace h:=aE hc2 h;refine aU [] [] ⟨20,[(4,.i (n3:Int))],[],[],0⟩ trivial ?_;have hret:=Option.some.inj h;subst hret;refine AWp.ret (kR (tR (tR (kR (aY ?_)))));exact bR _ rfl ⟨rfl,rfl⟩ rfl
   ·
    replace h:=aF hc2 h;refine AWp.skip (kN (tN ?_));obtain⟨ob1p,h⟩:=aB h;have ob1: -9223372036854775808≤((n3:Int)+(1:Int))∧((n3:Int)+(1:Int))≤9223372036854775807:=⟨by omega,ob1p⟩;refine aZ [] [] ⟨20,[(0,aV x1),(1,.str x2),(5,.i (((n3+1):Nat):Int))],[],[],0⟩ (an1 ob1) ?_;rw[hC0]at h;exact lN (_,(n3+1)) LR h (Nat.lt_succ_self _)
  ·
   replace h:=aF hc1 h;refine AWp.exit (tE (tE (kS ?_)));exact jN () LR h
 ·
  rintro⟨⟩ h;replace h:=(congrFun hK1 _).symm.trans h;refine aU [] [] ⟨20,[(4,.i (-1:Int))],[],[],0⟩ trivial ?_;have hret:=Option.some.inj h;subst hret;refine AWp.ret ?_;exact bR _ rfl ⟨rfl,rfl⟩ rfl
def f117 :Nat→Int→Option Ty0
 |0,_=>none
 |k+1,x1=>
  if(decide (x1<(10:Int)))then(
  chk (-9223372036854775808≤((48:Int)+x1)∧((48:Int)+x1)≤9223372036854775807)<|
  chk (0≤((48:Int)+x1)∧((48:Int)+x1)≤255)<|
  some [UInt8.ofNat ((((48:Int)+x1)).toNat)]
  )else(
  ((f117 k) (x1/(10:Int))).bind fun(r2:List UInt8)=>
  chk (0≤x1∧1≤(10:Int)∧ -9223372036854775808≤(x1/(10:Int))∧(x1/(10:Int))≤9223372036854775807)<|
  chk (0≤x1∧1≤(10:Int))<|
  chk (-9223372036854775808≤((48:Int)+(x1%(10:Int)))∧((48:Int)+(x1%(10:Int)))≤9223372036854775807)<|
  chk (0≤((48:Int)+(x1%(10:Int)))∧((48:Int)+(x1%(10:Int)))≤255)<|
  chk (r2.length+[UInt8.ofNat ((((48:Int)+(x1%(10:Int)))).toNat)].length≤9223372036854775807)<|
  some (r2++[UInt8.ofNat ((((48:Int)+(x1%(10:Int)))).toNat)])
  )
theorem xZ :∀(k:Nat) (x1:Int) (r:List UInt8),f117 k x1=some r→aH Tryz.prog 117 [] [] [] [.int .i64 x1] (.str r) []:=by
 intro k
 induction k with
 |zero=>intro x1 r h;exact nomatch (show none=some r from h)
 |succ k ih=>
 intro x1 r h;obtain⟨Frec,hFrec⟩:∃C,C=f117 k:=⟨_,rfl⟩;rw[f117.eq_2]at h;rw[←hFrec]at h ih;refine aH.body 0 _ _ Tryz.func117 rfl Tryz.ntmps117 rfl rfl ?_;refine bJ [] [] [0] [] trivial ?_;refine AWp.seq ?_;refine bJ [] [] [0,4] [] trivial ?_;refine AWp.cond (b:=(decide (x1<(10:Int)))) (by kernel_rfl) (fun hc1=> ?_) (fun hc1=> ?_)
 ·
  replace h:=aE hc1 h;refine AWp.seq ?_;obtain⟨ob0,ob1,h⟩:=ck2 h;have ob2:∀i,i<1→isByte ((dH 1 [.int .u8 ((48:Int)+x1)]) i 0):=fun i hi=>match i,hi with|0,_=>trivial
  refine aZ [] [] ⟨20,[(2,.str [UInt8.ofNat ((((48:Int)+x1)).toNat)])],[],[],0⟩ (an3 ob0 ob1 ob2) ?_;refine tN ?_;have hret:=Option.some.inj h;subst hret;refine AWp.ret (tR ?_);exact bR _ rfl ⟨rfl,rfl⟩ rfl
 ·
  replace h:=aF hc1 h;refine AWp.skip (tN (AWp.seq ?_));obtain⟨r2,hr2,h⟩:=bind_ok h;obtain⟨ob3,ob4,ob5,ob6,h⟩:=ck4 h;have ob7:∀i,i<1→isByte ((dH 1 [.int .u8 ((48:Int)+(x1%(10:Int)))]) i 0):=fun i hi=>match i,hi with|0,_=>trivial
  obtain⟨ob8,h⟩:=aB h;refine aZ [] [(2,⟨[.i (x1/(10:Int))],[],[],[],.str r2,[],[],[]⟩)] ⟨20,[(2,.str (r2++[UInt8.ofNat ((((48:Int)+(x1%(10:Int)))).toNat)]))],[],[],0⟩ (ac6 ob3 (cpT (ih _ _ hr2)) ob4 ob5 ob6 ob7 (an1 ob8)) ?_;refine tN ?_;have hret:=Option.some.inj h;subst hret;refine AWp.ret ?_;exact bR _ rfl ⟨rfl,rfl⟩ rfl
def fU (x1:List Tq1) (x2 x3:List UInt8) (K1:(Bool×Ty4)→Option Ty4):Nat→(Bool×Nat×Ty4)→Option Ty4
 |0,_=>none
 |k+1,(b4,n5,l6)=>
  if(decide ((n5:Int)<(((x1).length:Nat):Int)))then(
  jn (fun((b7,l8):Bool×Ty4)=>
  chk (((n5:Int)+(1:Int))≤9223372036854775807)<|
  (fU x1 x2 x3 K1 k) (b7,(n5+1),l8)
  ) fun(K2:(Bool×Ty4)→Option Ty4)=>
  chk ((n5:Int)<(((x1).length:Nat):Int))<|
  if(((x1.getD n5 (default:Tq1)).1)==x2)then(
  chk ((n5:Int)<(((x1).length:Nat):Int))<|
  chk (-9223372036854775808≤((x1.getD n5 (default:Tq1)).2.2+(1:Int))∧((x1.getD n5 (default:Tq1)).2.2+(1:Int))≤9223372036854775807)<|
  chk (((l6).length+1) *40≤140737488355328)<|
  K2 (true,(l6++[(x2,x3,(min ((x1.getD n5 (default:Tq1)).2.2+(1:Int)) (1000000000000:Int)))]))
  )else(
  jn (fun((b9,l10):Bool×Ty4)=>
  chk ((n5:Int)<(((x1).length:Nat):Int))<|
  chk (((l10).length+1) *40≤140737488355328)<|
  K2 (b9,(l10++[((x1.getD n5 (default:Tq1)).1,(x1.getD n5 (default:Tq1)).2.1,(x1.getD n5 (default:Tq1)).2.2)]))
  ) fun(K3:(Bool×Ty4)→Option Ty4)=>
  chk ((n5:Int)<(((x1).length:Nat):Int))<|
  if((!((Op.bytesLess ((x1.getD n5 (default:Tq1)).1) x2)||(((x1.getD n5 (default:Tq1)).1)==x2)))&&(!b4))then(
  chk (((l6).length+1) *40≤140737488355328)<|
  K3 (true,(l6++[(x2,x3,(1:Int))]))
  )else(
  K3 (b4,l6)
  )
  )
  )else(
  K1 (b4,l6)
  )
abbrev dC (x1:List Tq1) (n5:Nat):=(x1.getD n5 (default:Tq1))
abbrev f118z1 (x1:List Tq1) (x2 x3:List UInt8) (n5:Nat):List (Nat×V):=[(0,vL 3 cH (default:Tq1) x1),(1,.str x2),(2,.str x3),(7,.own 5007),(8,.bool true),(9,.int .i64 (n5:Int))]
abbrev vT (x1:List Tq1) (n5:Nat) (x2:List UInt8):=(!((Op.bytesLess ((dC x1 n5).1) x2)||(((dC x1 n5).1)==x2)))
abbrev f118z3 (x1:List Tq1) (x2 x3:List UInt8) (b9:Bool) (n5:Nat):List (Nat×V):=[(0,vL 3 cH (default:Tq1) x1),(1,.str x2),(2,.str x3),(7,.own 52),(8,.bool b9),(9,.int .i64 (n5:Int))]
abbrev aAt (x1:List Tq1) (x2 x3:List UInt8) (n5:Nat):List (Nat×V):=[(0,vL 3 cH (default:Tq1) x1),(1,.str x2),(2,.str x3),(7,.own 5007),(9,.int .i64 (n5:Int))]
abbrev aAs (l6:List Tq1):aK:=[(5007,bL 202 3 cH (default:Tq1) l6)]
abbrev qY :=Tq1
abbrev f118z7 (l6:List Tq1) (x2 x3:List UInt8) (x1:List Tq1) (n5:Nat):aK:=[(5007,bL 202 3 cH (default:Tq1) (l6++[(x2,x3,(min ((dC x1 n5).2.2+(1:Int)) (1000000000000:Int)))]))]
def f118 (x1:List Tq1) (x2 x3:List UInt8):Option Ty4:=
 jn (fun((b11,l12):Bool×Ty4)=>
 jn (fun(l13:List Tq1)=>
 some l13
 ) fun(K4:Ty4→Option Ty4)=>
 if(!b11)then(
 chk (((l12).length+1) *40≤140737488355328)<|
 K4 (l12++[(x2,x3,(1:Int))])
 )else(
 K4 l12
 )
 ) fun(K1:(Bool×Ty4)→Option Ty4)=>
 fU x1 x2 x3 K1 bG (false,0,[])
theorem f118_ok (x1:List Tq1) (x2 x3:List UInt8) (r:List Tq1) (h:f118 x1 x2 x3=some r):aH Tryz.prog 118 [] [] [] [vL 3 cH (default:Tq1) x1,.str x2,.str x3] (.own 3000) [(3000,bL 202 3 cH (default:Tq1) r)]:=by
 unfold f118 at h;refine aH.body 0 _ _ Tryz.func118 rfl Tryz.ntmps118 rfl rfl ?_;refine bJ [] [] [0,1,2] [] trivial ?_;refine bJ [] [] [0,1,2,7] [] trivial ?_;refine aU [] [] ⟨69,[(0,aV x1),(1,.str x2),(2,.str x3),(7,.nils),(8,.bool false)],[],[],0⟩ trivial ?_;obtain⟨K1,hK1,h⟩:=aS h;refine AWp.join (fun(x:Bool×(List (qY)))=>match x with|(b11,l12)=>⟨69,[(1,.str x2),(2,.str x3),(7,.own 5007),(8,.bool b11)],[(5007,aP l12)],[],0⟩) (fun x=>K1 x=some r) ?_ ?_
 ·
  refine aU [] [] ⟨69,[(0,aV x1),(1,.str x2),(2,.str x3),(7,.nils),(8,.bool false),(9,.i (0:Int))],[],[],0⟩ trivial ?_;refine AWp.block ?_;refine AWp.loopL (α:=Nat×(Bool×Nat×(List (qY)))) (fun x=>match x with|(_,b4,n5,l6)=>⟨69,[(0,aV x1),(1,.str x2),(2,.str x3),(7,.own 5007),(8,.bool b4),(9,.i (n5:Int))],(aAs l6),[],0⟩) (fun x=>fU x1 x2 x3 K1 x.1 x.2=some r) (fun x=>x.1) (bG,false,0,[]) (Le.trans (Le.trans (Le.nilOwn 7 5007 202 3 (cD cH aN []) rfl rfl (Nat.le_of_ble_eq_true rfl)) (LR (s':=⟨69,[(0,aV x1),(1,.str x2),(2,.str x3),(7,.own 5007),(8,.bool false),(9,.i (0:Int))],[(5007,aP [])],[],0⟩))) (LR (s':=⟨69,[(0,aV x1),(1,.str x2),(2,.str x3),(7,.own 5007),(8,.bool false),(9,.i (0:Int))],[(5007,aP [])],[],0⟩))) h ?_
  rintro⟨k0,b4,n5,l6⟩ h
  cases k0 with
  |zero=>exact nomatch (show none=some r from h)
  |succ k0=>
  obtain⟨C0,hC0⟩:∃C,C=fU x1 x2 x3 K1 k0:=⟨_,rfl⟩;replace h:=(fU.eq_2 ..).symm.trans h
  try rw[←hC0]at h
  refine AWp.seq ?_;refine aU [] [] ⟨69,[(0,aV x1),(1,.str x2),(2,.str x3),(7,.own 5007),(8,.bool b4),(9,.i (n5:Int)),(13,.bool (decide ((n5:Int)<(lZ x1))))],(aAs l6),[],0⟩ trivial ?_;refine AWp.cond (b:=(decide ((n5:Int)<(lZ x1)))) (by kernel_rfl) (fun hc1=> ?_) (fun hc1=> ?_)
  ·
   replace h:=aE hc1 h;refine AWp.skip (tN ?_);obtain⟨K2,hK2,h⟩:=aS h;refine AWp.join (fun(x:Bool×(List (qY)))=>match x with|(b7,l8)=>⟨69,[(0,aV x1),(1,.str x2),(2,.str x3),(7,.own 35),(8,.bool b7),(9,.i (n5:Int))],[(35,aP l8)],[],0⟩) (fun x=>K2 x=some r) ?_ ?_
   ·
    refine AWp.block (AWp.seq (AWp.seq ?_));obtain⟨ob0p,h⟩:=aB h;have ob0:0≤(n5:Int)∧(n5:Int)<(((x1).length:Nat):Int):=⟨by omega,ob0p⟩;refine aZ [] [] ⟨69,[(0,aV x1),(1,.str x2),(2,.str x3),(7,.own 5007),(8,.bool b4),(9,.i (n5:Int)),(22,.bool (((dC x1 n5).1)==x2))],(aAs l6),[],0⟩ (an1 ob0) ?_;refine tN ?_;refine AWp.cond (b:=(((dC x1 n5).1)==x2)) (by kernel_rfl) (fun hc2=> ?_) (fun hc2=> ?_)
    ·
     replace h:=aE hc2 h;refine AWp.seq ?_;obtain⟨ob1p,h⟩:=aB h;have ob1:0≤(n5:Int)∧(n5:Int)<(((x1).length:Nat):Int):=⟨by omega,ob1p⟩;obtain⟨ob2,ob3,h⟩:=ck2 h;refine aZ [] [] ⟨69,(aAt x1 x2 x3 n5),[(5007,.rows 202 3 ((l6).length+1) (gF (l6).length (cD cH aN l6) (dH 3 [.str x2,.str x3,.i (min ((dC x1 n5).2.2+(1:Int)) (1000000000000:Int))])))],[],0⟩ (an3 ob1 ob2 ob3) ?_;refine tN ?_;refine AWp.le (Le.mk (s':=⟨69,(aAt x1 x2 x3 n5),(f118z7 l6 x2 x3 x1 n5),[],0⟩) rfl rfl ⟨.refl _,.refl _,.refl _,.refl _,.refl _,trivial⟩ ⟨⟨_,rfl,(BLe.of (RL.app (RL.self _) (RL.lst (enc:=cH) [(x2,x3,(min ((dC x1 n5).2.2+(1:Int)) (1000000000000:Int)))] rfl rfl (fun _=>rfl))))⟩,trivial⟩) ?_;refine aU [] [] ⟨69,(f118z1 x1 x2 x3 n5),(f118z7 l6 x2 x3 x1 n5),[],0⟩ trivial ?_;refine AWp.exit (tE (kS ?_));exact jN (true,(l6++[(x2,x3,(min ((dC x1 n5).2.2+(1:Int)) (1000000000000:Int)))])) (Le.trans (Le.trans (Le.ren (bA 5007 35) (aD 5007 35) rfl) (LR (s':=⟨69,[(0,aV x1),(1,.str x2),(2,.str x3),(7,.own 35),(8,.bool true),(9,.i (n5:Int))],[(35,aP (l6++[(x2,x3,(min ((dC x1 n5).2.2+(1:Int)) (1000000000000:Int)))]))],[],0⟩))) LR) h
    ·
     replace h:=aF hc2 h;refine AWp.skip (tN ?_);obtain⟨K3,hK3,h⟩:=aS h;refine AWp.join (fun(x:Bool×(List (qY)))=>match x with|(b9,l10)=>⟨69,(f118z3 x1 x2 x3 b9 n5),[(52,aP l10)],[],0⟩) (fun x=>K3 x=some r) ?_ ?_
     ·
      refine AWp.seq ?_;obtain⟨ob4p,h⟩:=aB h;have ob4:0≤(n5:Int)∧(n5:Int)<(((x1).length:Nat):Int):=⟨by omega,ob4p⟩;have ob5:=idA (((vT x1 n5 x2)==true)=true);have ob6:=bqA (vT x1 n5 x2) true;refine aZ [] [] ⟨69,[(0,aV x1),(1,.str x2),(2,.str x3),(7,.own 5007),(8,.bool b4),(9,.i (n5:Int)),(46,.bool ((vT x1 n5 x2)&&(!b4)))],(aAs l6),[],0⟩ (an3 ob4 (an1 ob5) ob6) ?_;refine tN ?_;refine AWp.cond (b:=((vT x1 n5 x2)&&(!b4))) (by kernel_rfl) (fun hc3=> ?_) (fun hc3=> ?_)
      ·
       replace h:=aE hc3 h;refine AWp.seq ?_;obtain⟨ob7,h⟩:=aB h;refine aZ [] [] ⟨69,(aAt x1 x2 x3 n5),[(5007,.rows 202 3 ((l6).length+1) (gF (l6).length (cD cH aN l6) (dH 3 [.str x2,.str x3,.i (1:Int)])))],[],0⟩ (an1 ob7) ?_;refine tN ?_;refine AWp.le (Le.mk (s':=⟨69,(aAt x1 x2 x3 n5),[(5007,aP (l6++[(x2,x3,(1:Int))]))],[],0⟩) rfl rfl ⟨.refl _,.refl _,.refl _,.refl _,.refl _,trivial⟩ ⟨⟨_,rfl,(BLe.of (RL.app (RL.self _) (RL.lst (enc:=cH) [(x2,x3,(1:Int))] rfl rfl (fun _=>rfl))))⟩,trivial⟩) ?_;refine aZ [] [] ⟨69,(f118z1 x1 x2 x3 n5),[(5007,aP (l6++[(x2,x3,(1:Int))]))],[],0⟩ trivial ?_;exact jN (true,(l6++[(x2,x3,(1:Int))])) (Le.trans (Le.trans (Le.ren (bA 5007 52) (aD 5007 52) rfl) (LR (s':=⟨69,[(0,aV x1),(1,.str x2),(2,.str x3),(7,.own 52),(8,.bool true),(9,.i (n5:Int))],[(52,aP (l6++[(x2,x3,(1:Int))]))],[],0⟩))) LR) h
      ·
       replace h:=aF hc3 h;refine AWp.skip ?_;exact jN (b4,l6) (Le.trans (Le.trans (Le.ren (bA 5007 52) (aD 5007 52) rfl) (LR (s':=⟨69,[(0,aV x1),(1,.str x2),(2,.str x3),(7,.own 52),(8,.bool b4),(9,.i (n5:Int)),(46,.bool ((vT x1 n5 x2)&&(!b4)))],[(52,aP l6)],[],0⟩))) LR) h
     ·
      rintro⟨b9,l10⟩ h;replace h:=(congrFun hK3 _).symm.trans h;obtain⟨ob8p,h⟩:=aB h;have ob8:0≤(n5:Int)∧(n5:Int)<(((x1).length:Nat):Int):=⟨by omega,ob8p⟩;obtain⟨ob9,h⟩:=aB h;refine aZ [] [] ⟨69,(f118z3 x1 x2 x3 b9 n5),[(52,.rows 202 3 ((l10).length+1) (gF (l10).length (cD cH aN l10) (dH 3 [.str (dC x1 n5).1,.str (dC x1 n5).2.1,.i (dC x1 n5).2.2])))],[],0⟩ (an2 ob8 ob9) ?_;refine kN ?_;exact jN (b9,(l10++[((dC x1 n5).1,(dC x1 n5).2.1,(dC x1 n5).2.2)])) (Le.trans (Le.mk (s':=⟨69,(f118z3 x1 x2 x3 b9 n5),[(52,aP (l10++[((dC x1 n5).1,(dC x1 n5).2.1,(dC x1 n5).2.2)]))],[],0⟩) rfl rfl ⟨.refl _,.refl _,.refl _,.refl _,.refl _,.refl _,trivial⟩ ⟨⟨_,rfl,(BLe.of (RL.app (RL.self _) (RL.lst (enc:=cH) [((dC x1 n5).1,(dC x1 n5).2.1,(dC x1 n5).2.2)] rfl rfl (fun _=>rfl))))⟩,trivial⟩) (Le.trans (Le.trans (Le.ren (bA 52 35) (aD 52 35) rfl) (LR (s':=⟨69,[(0,aV x1),(1,.str x2),(2,.str x3),(7,.own 35),(8,.bool b9),(9,.i (n5:Int))],[(35,aP (l10++[((dC x1 n5).1,(dC x1 n5).2.1,(dC x1 n5).2.2)]))],[],0⟩))) LR)) h
   ·
    rintro⟨b7,l8⟩ h;replace h:=(congrFun hK2 _).symm.trans h;obtain⟨ob10p,h⟩:=aB h;have ob10: -9223372036854775808≤((n5:Int)+(1:Int))∧((n5:Int)+(1:Int))≤9223372036854775807:=⟨by omega,ob10p⟩;refine aZ [] [] ⟨69,[(0,aV x1),(1,.str x2),(2,.str x3),(7,.own 35),(8,.bool b7),(9,.i (((n5+1):Nat):Int))],[(35,aP l8)],[],0⟩ (an1 ob10) ?_;rw[hC0]at h;exact lN (_,b7,(n5+1),l8) (Le.trans (Le.trans (Le.ren (bA 35 5007) (aD 35 5007) rfl) (LR (s':=⟨69,[(0,aV x1),(1,.str x2),(2,.str x3),(7,.own 5007),(8,.bool b7),(9,.i (((n5+1):Nat):Int))],[(5007,aP l8)],[],0⟩))) LR) h (Nat.lt_succ_self _)
  ·
   replace h:=aF hc1 h;refine AWp.exit (tE (tE (kS ?_)));exact jN (b4,l6) LR h
 ·
  rintro⟨b11,l12⟩ h;replace h:=(congrFun hK1 _).symm.trans h;obtain⟨K4,hK4,h⟩:=aS h;refine AWp.join (α:=List (qY)) (fun(l13:List (qY))=>⟨69,[(7,.own 5007)],[(5007,aP l13)],[],0⟩) (fun x=>K4 x=some r) ?_ ?_
  ·
   refine aU [] [] ⟨69,[(1,.str x2),(2,.str x3),(7,.own 5007),(61,.bool (!b11))],[(5007,aP l12)],[],0⟩ trivial ?_;refine AWp.cond (b:=(!b11)) (by kernel_rfl) (fun hc4=> ?_) (fun hc4=> ?_)
   ·
    replace h:=aE hc4 h;obtain⟨ob11,h⟩:=aB h;refine aZ [] [] ⟨69,[(7,.own 5007)],[(5007,.rows 202 3 ((l12).length+1) (gF (l12).length (cD cH aN l12) (dH 3 [.str x2,.str x3,.i (1:Int)])))],[],0⟩ (an1 ob11) ?_;exact jN ((l12++[(x2,x3,(1:Int))])) (Le.trans (Le.mk (s':=⟨69,[(7,.own 5007)],[(5007,aP (l12++[(x2,x3,(1:Int))]))],[],0⟩) rfl rfl ⟨.refl _,trivial⟩ ⟨⟨_,rfl,(BLe.of (RL.app (RL.self _) (RL.lst (enc:=cH) [(x2,x3,(1:Int))] rfl rfl (fun _=>rfl))))⟩,trivial⟩) LR) h
   ·
    replace h:=aF hc4 h;refine AWp.skip ?_;exact jN (l12) LR h
  ·
   rintro l13 h;replace h:=(congrFun hK4 _).symm.trans h;refine aU [] [] ⟨69,[(6,.own 5007)],[(5007,aP l13)],[],0⟩ trivial ?_;refine AWp.le (Le.trans (Le.ren (bA 5007 3000) (aD 5007 3000) rfl) (LR (s':=⟨69,[(6,.own 3000)],[(3000,aP l13)],[],0⟩))) ?_;have hret:=Option.some.inj h;subst hret;refine AWp.le (LR (s':=⟨69,[(6,.own 3000)],[(3000,aP l13)],[],0⟩)) ?_;refine AWp.ret ?_;exact bR _ rfl ⟨rfl,rfl⟩ rfl
abbrev sA (x2:Int) (x3 x4 x5:List UInt8) (x1:List Tq1):aK:=[(3,.cells 164 [.int .i64 x2,.str x3,.str x4,.str x5]),(12,bL 202 3 cH (default:Tq1) ([]++x1))]
abbrev rZ (x1:List Tq1):aK:=[(12,bL 202 3 cH (default:Tq1) ([]++x1))]
abbrev gX (x1:List Tq1):aK:=[(3000,bL 202 3 cH (default:Tq1) ([]++x1))]
abbrev f85z3 :=([110,111,110,101]:List UInt8)
abbrev f85z4 (x1:List Tq1) (r7:Int) (x5:List UInt8):List (Nat×V):=[(0,vL 3 cH (default:Tq1) x1),(3,.ptr 3 0),(6,.own 12),(9,.int .i64 r7),(10,.str x5)]
abbrev xD (r7:Int):=(decide (r7<(0:Int)))
abbrev aA2 :List (Nat×V):=[(4,.own 3000),(5,.str (f85z3))]
abbrev f85z7 :List (Nat×V):=[(4,.own 12),(5,.str (f85z3))]
abbrev f85z8 (r12:List Tq1):aK:=[(6001,bL 202 3 cH (default:Tq1) r12)]
abbrev f85z9 :List (Nat×V):=[(4,.own 63),(5,.str ([111,107]:List UInt8))]
abbrev f85z10 :=([108,111,110,103]:List UInt8)
abbrev f85z11 :=([102,117,108,108]:List UInt8)
def f85 (x1:List Tq1) (x2:Int) (x3 x4 x5:List UInt8):Option (List UInt8×Ty4):=
 chk ((0+(x1).length) *40≤140737488355328)<|
 (f115 x2 x3 x4 x5).bind fun(r6:List UInt8×Int)=>
 if(r6.2 !=(0:Int))then(
 some (cs3,([]++x1))
 )else(
 (f116 x1 x3).bind fun(r7:Int)=>
 jn (fun(s10:List UInt8)=>
 if((decide (r7<(0:Int)))&&(decide ((((x1).length:Nat):Int)≥(64:Int))))then(
 some (([102,117,108,108]:List UInt8),([]++x1))
 )else(
 (f118 x1 x3 s10).bind fun(r12:List Tq1)=>
 (f116 r12 x3).bind fun(r13:Int)=>
 (f117 bG ((r12.getD ((r13).toNat) (default:Tq1)).2.2)).bind fun(r14:List UInt8)=>
 chk (0≤r13∧r13<(((r12).length:Nat):Int))<|
 chk (((r13).toNat)<(r12).length)<|
 chk (([111,107,32]:List UInt8).length+r14.length≤9223372036854775807)<|
 some ((([111,107,32]:List UInt8)++r14),r12)
 )
 ) fun(K1:Ty0→Option (List UInt8×Ty4))=>
 if(x2==(6:Int))then(
 (f117 bG (((x1).length:Nat):Int)).bind fun(r8:List UInt8)=>
 chk (cs9.length+r8.length≤9223372036854775807)<|
 some ((cs9++r8),([]++x1))
 )else(
 if(x2==(2:Int))then(
 if(decide (r7<(0:Int)))then(
 some (([110,111,110,101]:List UInt8),([]++x1))
 )else(
 (f117 bG ((x1.getD ((r7).toNat) (default:Tq1)).2.2)).bind fun(r9:List UInt8)=>
 chk (0≤r7∧r7<(((x1).length:Nat):Int))<|
 chk (pG.length+((x1.getD ((r7).toNat) (default:Tq1)).2.1).length≤9223372036854775807)<|
 chk ((pG++((x1.getD ((r7).toNat) (default:Tq1)).2.1)).length+([32]:List UInt8).length≤9223372036854775807)<|
 chk (0≤r7∧r7<(((x1).length:Nat):Int))<|
 chk (((pG++((x1.getD ((r7).toNat) (default:Tq1)).2.1))++([32]:List UInt8)).length+r9.length≤9223372036854775807)<|
 some ((((pG++((x1.getD ((r7).toNat) (default:Tq1)).2.1))++([32]:List UInt8))++r9),([]++x1))
 )
 )else(
 if(x2==(3:Int))then(
 if(decide (r7<(0:Int)))then(
 some (([110,111,110,101]:List UInt8),([]++x1))
 )else(
 chk (0≤r7∧r7≤(((x1).length:Nat):Int))<|
 chk ((0+((r7).toNat)) *40≤140737488355328)<|
 chk (-9223372036854775808≤(r7+(1:Int))∧(r7+(1:Int))≤9223372036854775807)<|
 chk (0≤(r7+(1:Int))∧(r7+(1:Int))≤(((x1).length:Nat):Int))<|
 chk (((0+((r7).toNat))+((x1).length-((r7+(1:Int))).toNat)) *40≤140737488355328)<|
 some (([111,107]:List UInt8),(([]++(x1.take ((r7).toNat)))++(x1.drop (((r7+(1:Int))).toNat))))
 )
 )else(
 if(x2==(5:Int))then(
 if(decide (r7<(0:Int)))then(
 some (([110,111,110,101]:List UInt8),([]++x1))
 )else(
 chk (0≤r7∧r7<(((x1).length:Nat):Int))<|
 if(!(((x1.getD ((r7).toNat) (default:Tq1)).2.1)==x4))then(
 chk (0≤r7∧r7<(((x1).length:Nat):Int))<|
 chk (([110,111,32]:List UInt8).length+((x1.getD ((r7).toNat) (default:Tq1)).2.1).length≤9223372036854775807)<|
 some ((([110,111,32]:List UInt8)++((x1.getD ((r7).toNat) (default:Tq1)).2.1)),([]++x1))
 )else(
 K1 x5
 )
 )
 )else(
 if(x2==(4:Int))then(
 jn (fun(s11:List UInt8)=>
 if(decide (((s11.length:Nat):Int)>(256:Int)))then(
 some (([108,111,110,103]:List UInt8),([]++x1))
 )else(
 K1 s11
 )
 ) fun(K2:Ty0→Option (List UInt8×Ty4))=>
 if(decide (r7≥(0:Int)))then(
 chk (0≤r7∧r7<(((x1).length:Nat):Int))<|
 chk (((x1.getD ((r7).toNat) (default:Tq1)).2.1).length+x5.length≤9223372036854775807)<|
 K2 (((x1.getD ((r7).toNat) (default:Tq1)).2.1)++x5)
 )else(
 K2 x5
 )
 )else(
 K1 x5
 )
 )
 )
 )
 )
 )
theorem f85_ok (x1:List Tq1) (x2:Int) (x3 x4 x5:List UInt8) (r:List UInt8×Ty4) (h:f85 x1 x2 x3 x4 x5=some r):aH Tryz.prog 85 [] [] [] [vL 3 cH (default:Tq1) x1,.agg [.int .i64 x2,.str x3,.str x4,.str x5]] (.tup [.own 3000,.str r.1]) [(3000,bL 202 3 cH (default:Tq1) r.2)]:=by
 unfold f85 at h;refine aH.body 0 _ _ Tryz.func85 rfl Tryz.ntmps85 rfl rfl ?_;refine bJ [] [] [0,3] [3] trivial ?_;refine AWp.seq ?_;obtain⟨ob0,h⟩:=aB h;refine aZ [] [] ⟨133,[(0,aV x1),(3,.ptr 3 0),(6,.own 12)],[(3,.cells 164 [.i x2,.str x3,.str x4,.str x5]),(12,.rows 202 3 (0+(x1).length) (gF 0 (dH 3 []) (cD cH aN x1)))],[],0⟩ (an1 ob0) ?_;refine tN ?_;refine AWp.le (Le.mk (s':=⟨133,[(0,aV x1),(3,.ptr 3 0),(6,.own 12)],(sA x2 x3 x4 x5 x1),[],0⟩) rfl rfl ⟨.refl _,.refl _,.refl _,trivial⟩ ⟨⟨_,rfl,.refl _⟩,⟨_,rfl,(BLe.of (RL.app (RL.lst (enc:=cH) [] rfl rfl (fun _=>rfl)) (RL.self _)))⟩,trivial⟩) ?_;refine AWp.seq (AWp.seq ?_);obtain⟨r6,hr6,h⟩:=bind_ok h;refine cA [] [(1,⟨[.agg [.i x2,.str x3,.str x4,.str x5]],[],[],[],.tup [.str r6.1,.i r6.2],[],[],[]⟩)] [0,3,6,8] [3,12] (an1 (cpT (f115_ok _ _ _ _ _ hr6))) ?_;refine tN ?_;refine bJ [] [] [0,3,6,21] [3,12] trivial ?_;refine AWp.cond (b:=(r6.2 !=(0:Int))) (by kernel_rfl) (fun hc1=> ?_) (fun hc1=> ?_)
 ·
  replace h:=aE hc1 h;refine aU [] [] ⟨133,[(4,.own 12),(5,.str cs3)],(rZ x1),[],0⟩ trivial ?_;refine AWp.le (Le.trans (Le.ren (bA 12 3000) (aD 12 3000) rfl) (LR (s':=⟨133,[(4,.own 3000),(5,.str cs3)],(gX x1),[],0⟩))) ?_;have hret:=Option.some.inj h;subst hret;refine AWp.le (LR (s':=⟨133,[(4,.own 3000),(5,.str cs3)],(gX x1),[],0⟩)) ?_;refine AWp.ret (tR ?_);exact bR _ rfl ⟨rfl,rfl⟩ rfl
 ·
  replace h:=aF hc1 h;refine AWp.skip (tN (AWp.seq ?_));obtain⟨r7,hr7,h⟩:=bind_ok h;refine cA [] [(3,⟨[aV x1,.str x3],[],[],[],.i r7,[],[],[]⟩)] [0,3,6,9] [3,12] (an1 (cpT (f116_ok _ _ _ hr7))) ?_;refine tN ?_;refine aU [] [] ⟨133,(f85z4 x1 r7 x5),(sA x2 x3 x4 x5 x1),[],0⟩ trivial ?_;obtain⟨K1,hK1,h⟩:=aS h;refine AWp.join (α:=List UInt8) (fun(s10:List UInt8)=>⟨133,[(0,aV x1),(3,.ptr 3 0),(6,.own 12),(9,.i r7),(10,.str s10)],(sA x2 x3 x4 x5 x1),[],0⟩) (fun x=>K1 x=some r) ?_ ?_
  ·
   refine bJ [] [] [0,3,6,9,10,30] [3,12] trivial ?_;refine AWp.block ?_;refine bJ [] [] [0,3,6,9,10,30,31] [3,12] trivial ?_;refine AWp.cond (b:=(x2==(6:Int))) (by kernel_rfl) (fun hc2=> ?_) (fun hc2=> ?_)
   ·
    replace h:=aE hc2 h;refine AWp.seq ?_;obtain⟨r8,hr8,h⟩:=bind_ok h;obtain⟨ob1,h⟩:=aB h;refine aZ [] [(3,⟨[.i (lZ x1)],[],[],[],.str r8,[],[],[]⟩)] ⟨133,[(4,.own 12),(5,.str (cs9++r8))],(rZ x1),[],0⟩ (an2 (cpT (xZ bG _ _ hr8)) ob1) ?_;refine tN ?_;refine AWp.le (Le.trans (Le.ren (bA 12 3000) (aD 12 3000) rfl) (LR (s':=⟨133,[(4,.own 3000),(5,.str (cs9++r8))],(gX x1),[],0⟩))) ?_;have hret:=Option.some.inj h;subst hret;refine AWp.le (LR (s':=⟨133,[(4,.own 3000),(5,.str (cs9++r8))],(gX x1),[],0⟩)) ?_;refine AWp.ret (kR (aY ?_));exact bR _ rfl ⟨rfl,rfl⟩ rfl
   ·
    replace h:=aF hc2 h;refine bJ [] [] [0,3,6,9,10,30,38] [3,12] trivial ?_;refine AWp.cond (b:=(x2==(2:Int))) (by kernel_rfl) (fun hc3=> ?_) (fun hc3=> ?_)
    ·
     replace h:=aE hc3 h;refine AWp.seq ?_;refine bJ [] [] [0,6,9,41] [12] trivial ?_;refine AWp.cond (b:=(xD r7)) (by kernel_rfl) (fun hc4=> ?_) (fun hc4=> ?_)
     ·
      replace h:=aE hc4 h;refine aU [] [] ⟨133,(f85z7),(rZ x1),[],0⟩ trivial ?_;refine AWp.le (Le.trans (Le.ren (bA 12 3000) (aD 12 3000) rfl) (LR (s':=⟨133,(aA2),(gX x1),[],0⟩))) ?_;have hret:=Option.some.inj h;subst hret;refine AWp.le (LR (s':=⟨133,(aA2),(gX x1),[],0⟩)) ?_;refine AWp.ret (tR (kR (aY ?_)));exact bR _ rfl ⟨rfl,rfl⟩ rfl
     ·
      replace h:=aF hc4 h;refine AWp.skip (tN (AWp.seq ?_));obtain⟨r9,hr9,h⟩:=bind_ok h;obtain⟨ob2,ob3,ob4,ob5,ob6,h⟩:=ck5 h;refine aZ [] [(13,⟨[.i (x1.getD ((r7).toNat) aN).2.2],[],[],[],.str r9,[],[],[]⟩)] ⟨133,[(4,.own 12),(5,.str (((pG++((x1.getD ((r7).toNat) aN).2.1))++([32]:List UInt8))++r9))],(rZ x1),[],0⟩ (an6 ob2 ob3 ob4 ob5 (cpT (xZ bG _ _ hr9)) ob6) ?_;refine tN ?_;refine AWp.le (Le.trans (Le.ren (bA 12 3000) (aD 12 3000) rfl) (LR (s':=⟨133,[(4,.own 3000),(5,.str (((pG++((x1.getD ((r7).toNat) aN).2.1))++([32]:List UInt8))++r9))],(gX x1),[],0⟩))) ?_;have hret:=Option.some.inj h;subst hret;refine AWp.le (LR (s':=⟨133,[(4,.own 3000),(5,.str (((pG++((x1.getD ((r7).toNat) aN).2.1))++([32]:List UInt8))++r9))],(gX x1),[],0⟩)) ?_;refine AWp.ret (kR (aY ?_));exact bR _ rfl ⟨rfl,rfl⟩ rfl
    ·
     replace h:=aF hc3 h;refine bJ [] [] [0,3,6,9,10,30,58] [3,12] trivial ?_;refine AWp.cond (b:=(x2==(3:Int))) (by kernel_rfl) (fun hc5=> ?_) (fun hc5=> ?_)
     ·
      replace h:=aE hc5 h;refine AWp.seq ?_;refine bJ [] [] [0,6,9,61] [12] trivial ?_;refine AWp.cond (b:=(xD r7)) (by kernel_rfl) (fun hc6=> ?_) (fun hc6=> ?_)
      ·
       replace h:=aE hc6 h;refine aU [] [] ⟨133,(f85z7),(rZ x1),[],0⟩ trivial ?_;refine AWp.le (Le.trans (Le.ren (bA 12 3000) (aD 12 3000) rfl) (LR (s':=⟨133,(aA2),(gX x1),[],0⟩))) ?_;have hret:=Option.some.inj h;subst hret;refine AWp.le (LR (s':=⟨133,(aA2),(gX x1),[],0⟩)) ?_;refine AWp.ret (tR (kR (aY ?_)));exact bR _ rfl ⟨rfl,rfl⟩ rfl
      ·
       replace h:=aF hc6 h;refine AWp.skip (tN (AWp.seq ?_));obtain⟨ob7,ob8,ob9,ob10,ob11,h⟩:=ck5 h;refine aZ [] [] ⟨133,(f85z9),[(63,.rows 202 3 ((0+((r7).toNat))+((x1).length-((r7+(1:Int))).toNat)) (gF (0+((r7).toNat)) (gF 0 (dH 3 []) (cD cH aN x1)) (fun i j=>(cD cH aN x1) (i+(((r7+(1:Int))).toNat)) j)))],[],0⟩ (an5 ob7 ob8 ob9 ob10 ob11) ?_;refine tN ?_;refine AWp.le (Le.mk (s':=⟨133,(f85z9),[(63,aP (([]++(x1.take ((r7).toNat)))++(x1.drop (((r7+(1:Int))).toNat))))],[],0⟩) rfl rfl ⟨.refl _,.refl _,trivial⟩ ⟨⟨_,rfl,(BLe.of (RL.app (RL.app (RL.lst (enc:=cH) [] rfl rfl (fun _=>rfl)) (RL.takeL (by first|omega|(simp only[List.length_append,List.length_cons,List.length_nil,List.length_take,List.length_drop]at *;omega)|(simp;done)|(simp_all;done)|(simp_all;omega)|rfl))) RL.dropL))⟩,trivial⟩) ?_;refine AWp.le (Le.trans (Le.ren (bA 63 3000) (aD 63 3000) rfl) (LR (s':=⟨133,[(4,.own 3000),(5,.str ([111,107]:List UInt8))],[(3000,aP (([]++(x1.take ((r7).toNat)))++(x1.drop (((r7+(1:Int))).toNat))))],[],0⟩))) ?_;have hret:=Option.some.inj h;subst hret;refine AWp.le (LR (s':=⟨133,[(4,.own 3000),(5,.str ([111,107]:List UInt8))],[(3000,aP (([]++(x1.take ((r7).toNat)))++(x1.drop (((r7+(1:Int))).toNat))))],[],0⟩)) ?_;refine AWp.ret (kR (aY ?_));exact bR _ rfl ⟨rfl,rfl⟩ rfl
     ·
      replace h:=aF hc5 h;refine bJ [] [] [0,3,6,9,10,30,73] [3,12] trivial ?_;refine AWp.cond (b:=(x2==(5:Int))) (by kernel_rfl) (fun hc7=> ?_) (fun hc7=> ?_)
      ·
       replace h:=aE hc7 h;refine AWp.seq ?_;refine bJ [] [] [0,3,6,9,10,76] [3,12] trivial ?_;refine AWp.cond (b:=(xD r7)) (by kernel_rfl) (fun hc8=> ?_) (fun hc8=> ?_)
       ·
        replace h:=aE hc8 h;refine aU [] [] ⟨133,(f85z7),(rZ x1),[],0⟩ trivial ?_;refine AWp.le (Le.trans (Le.ren (bA 12 3000) (aD 12 3000) rfl) (LR (s':=⟨133,(aA2),(gX x1),[],0⟩))) ?_;have hret:=Option.some.inj h;subst hret;refine AWp.le (LR (s':=⟨133,(aA2),(gX x1),[],0⟩)) ?_;refine AWp.ret (tR (kR (aY ?_)));exact bR _ rfl ⟨rfl,rfl⟩ rfl
       ·
        replace h:=aF hc8 h;refine AWp.skip (tN (AWp.seq ?_));obtain⟨ob12,h⟩:=aB h;refine aZ [] [] ⟨133,[(0,aV x1),(3,.ptr 3 0),(6,.own 12),(9,.i r7),(10,.str x5),(85,.bool (!(((x1.getD ((r7).toNat) aN).2.1)==x4)))],(sA x2 x3 x4 x5 x1),[],0⟩ (an1 ob12) ?_;refine tN ?_;refine AWp.cond (b:=(!(((x1.getD ((r7).toNat) aN).2.1)==x4))) (by kernel_rfl) (fun hc9=> ?_) (fun hc9=> ?_)
        ·
         replace h:=aE hc9 h;refine AWp.seq ?_;obtain⟨ob13,ob14,h⟩:=ck2 h;refine aZ [] [] ⟨133,[(4,.own 12),(5,.str (([110,111,32]:List UInt8)++((x1.getD ((r7).toNat) aN).2.1)))],(rZ x1),[],0⟩ (an2 ob13 ob14) ?_;refine tN ?_;refine AWp.le (Le.trans (Le.ren (bA 12 3000) (aD 12 3000) rfl) (LR (s':=⟨133,[(4,.own 3000),(5,.str (([110,111,32]:List UInt8)++((x1.getD ((r7).toNat) aN).2.1)))],(gX x1),[],0⟩))) ?_;have hret:=Option.some.inj h;subst hret;refine AWp.le (LR (s':=⟨133,[(4,.own 3000),(5,.str (([110,111,32]:List UInt8)++((x1.getD ((r7).toNat) aN).2.1)))],(gX x1),[],0⟩)) ?_;refine AWp.ret (kR (aY ?_));exact bR _ rfl ⟨rfl,rfl⟩ rfl
        ·
         replace h:=aF hc9 h;refine AWp.skip (kN ?_);exact jN (x5) LR h
      ·
       replace h:=aF hc7 h;refine aU [] [] ⟨133,[(0,aV x1),(3,.ptr 3 0),(6,.own 12),(9,.i r7),(10,.str x5),(93,.bool (x2==(4:Int)))],(sA x2 x3 x4 x5 x1),[],0⟩ trivial ?_;refine AWp.cond (b:=(x2==(4:Int))) (by kernel_rfl) (fun hc10=> ?_) (fun hc10=> ?_)
       ·
        replace h:=aE hc10 h;obtain⟨K2,hK2,h⟩:=aS h;refine AWp.join (α:=List UInt8) (fun(s11:List UInt8)=>⟨133,[(0,aV x1),(3,.ptr 3 0),(6,.own 12),(9,.i r7),(10,.str s11)],(sA x2 x3 x4 x5 x1),[],0⟩) (fun x=>K2 x=some r) ?_ ?_
        ·
         refine aU [] [] ⟨133,[(0,aV x1),(3,.ptr 3 0),(6,.own 12),(9,.i r7),(10,.str x5),(96,.bool (decide (r7≥(0:Int))))],(sA x2 x3 x4 x5 x1),[],0⟩ trivial ?_;refine AWp.cond (b:=(decide (r7≥(0:Int)))) (by kernel_rfl) (fun hc11=> ?_) (fun hc11=> ?_)
         ·
          replace h:=aE hc11 h;obtain⟨ob15,ob16,h⟩:=ck2 h;refine aZ [] [] ⟨133,[(0,aV x1),(3,.ptr 3 0),(6,.own 12),(9,.i r7),(10,.str (((x1.getD ((r7).toNat) aN).2.1)++x5))],(sA x2 x3 x4 x5 x1),[],0⟩ (an2 ob15 ob16) ?_;exact jN ((((x1.getD ((r7).toNat) aN).2.1)++x5)) LR h
         ·
          replace h:=aF hc11 h;refine AWp.skip ?_;exact jN (x5) LR h
        ·
         rintro s11 h;replace h:=(congrFun hK2 _).symm.trans h;refine aU [] [] ⟨133,[(0,aV x1),(3,.ptr 3 0),(6,.own 12),(9,.i r7),(10,.str s11),(107,.bool (decide ((lZ s11)>(256:Int))))],(sA x2 x3 x4 x5 x1),[],0⟩ trivial ?_;refine AWp.cond (b:=(decide ((lZ s11)>(256:Int)))) (by kernel_rfl) (fun hc12=> ?_) (fun hc12=> ?_)
         ·
          replace h:=aE hc12 h;refine aU [] [] ⟨133,[(4,.own 12),(5,.str (f85z10))],(rZ x1),[],0⟩ trivial ?_;refine AWp.le (Le.trans (Le.ren (bA 12 3000) (aD 12 3000) rfl) (LR (s':=⟨133,[(4,.own 3000),(5,.str (f85z10))],(gX x1),[],0⟩))) ?_;have hret:=Option.some.inj h;subst hret;refine AWp.le (LR (s':=⟨133,[(4,.own 3000),(5,.str (f85z10))],(gX x1),[],0⟩)) ?_;refine AWp.ret (kR (aY ?_));exact bR _ rfl ⟨rfl,rfl⟩ rfl
         ·
          replace h:=aF hc12 h;refine AWp.skip (kN ?_);exact jN (s11) LR h
       ·
        replace h:=aF hc10 h;refine AWp.skip (kN ?_);exact jN (x5) LR h
  ·
   rintro s10 h;replace h:=(congrFun hK1 _).symm.trans h;refine AWp.seq (AWp.seq ?_);have ob17:=idA (((xD r7)==true)=true);have ob18:=idA (((xD r7)==true)=true);have ob19:=bqA (xD r7) true;refine cA [] [] [0,3,6,10,115] [3,12] (an3 (an1 ob17) (an1 ob18) ob19) ?_;refine tN ?_;refine AWp.cond (b:=((xD r7)&&(decide ((lZ x1)≥(64:Int))))) (by kernel_rfl) (fun hc13=> ?_) (fun hc13=> ?_)
   ·
    replace h:=aE hc13 h;refine aU [] [] ⟨133,[(4,.own 12),(5,.str (f85z11))],(rZ x1),[],0⟩ trivial ?_;refine AWp.le (Le.trans (Le.ren (bA 12 3000) (aD 12 3000) rfl) (LR (s':=⟨133,[(4,.own 3000),(5,.str (f85z11))],(gX x1),[],0⟩))) ?_;have hret:=Option.some.inj h;subst hret;refine AWp.le (LR (s':=⟨133,[(4,.own 3000),(5,.str (f85z11))],(gX x1),[],0⟩)) ?_;refine AWp.ret (tR ?_);exact bR _ rfl ⟨rfl,rfl⟩ rfl
   ·
    replace h:=aF hc13 h;refine AWp.skip (tN (AWp.seq ?_));obtain⟨r12,hr12,h⟩:=bind_ok h;refine cA [] [(4,⟨[aV x1,.str x3,.str s10],[],[],(f85z8 r12),.own 6001,[6001],[],[]⟩)] [3,11] [3,6001] (an1 (cpT (aH.ren (bA 3000 6001) (aD 3000 6001) rfl (f118_ok _ _ _ _ hr12)))) ?_;refine tN (AWp.seq ?_);obtain⟨r13,hr13,h⟩:=bind_ok h;obtain⟨r14,hr14,h⟩:=bind_ok h;obtain⟨ob20,ob21,ob22,h⟩:=ck3 h;refine aZ [] [(5,⟨[aV r12,.str x3],[],[],[],.i r13,[],[6001],[]⟩),(9,⟨[.i (r12.getD ((r13).toNat) aN).2.2],[],[],[],.str r14,[],[],[]⟩)] ⟨133,[(4,.own 6001),(5,.str (([111,107,32]:List UInt8)++r14))],(f85z8 r12),[],0⟩ (an5 (cpL (c:=true) (f85z8 r12) [6001] [.own 6001,.str x3] (fun _=>(f116_ok _ _ _ hr13)) (fun _=>⟨.refl _,.refl _,trivial⟩) (.inr ⟨rfl,trivial⟩)) ob20 ob21 (cpT (xZ bG _ _ hr14)) ob22) ?_;refine tN ?_;refine AWp.le (Le.trans (Le.ren (bA 6001 3000) (aD 6001 3000) rfl) (LR (s':=⟨133,[(4,.own 3000),(5,.str (([111,107,32]:List UInt8)++r14))],[(3000,aP r12)],[],0⟩))) ?_;have hret:=Option.some.inj h;subst hret;refine AWp.le (LR (s':=⟨133,[(4,.own 3000),(5,.str (([111,107,32]:List UInt8)++r14))],[(3000,aP r12)],[],0⟩)) ?_;refine AWp.ret ?_;exact bR _ rfl ⟨rfl,rfl⟩ rfl
def kX (x2:List Tq0) (x3:Int) (K2:Ty2→Option aBl):Nat→(Nat×Ty2)→Option aBl
 |0,_=>none
 |k+1,(n12,l13)=>
  if(decide ((n12:Int)<(((x2).length:Nat):Int)))then(
  jn (fun(l14:List Tq0)=>
  chk (((n12:Int)+(1:Int))≤9223372036854775807)<|
  (kX x2 x3 K2 k) ((n12+1),l14)
  ) fun(K3:Ty2→Option aBl)=>
  chk ((n12:Int)<(((x2).length:Nat):Int))<|
  if(decide ((x2.getD n12 (default:Tq0)).1<x3))then(
  chk ((n12:Int)<(((x2).length:Nat):Int))<|
  chk (((l13).length+1) *32≤140737488355328)<|
  K3 (l13++[((x2.getD n12 (default:Tq0)).1,(x2.getD n12 (default:Tq0)).2.1,(x2.getD n12 (default:Tq0)).2.2)])
  )else(
  K3 l13
  )
  )else(
  K2 l13
  )
def kW (x2:List Tq0) (x3:Int) (K4:Ty2→Option aBl):Nat→(Nat×Ty2)→Option aBl
 |0,_=>none
 |k+1,(n16,l17)=>
  if(decide ((n16:Int)<(((x2).length:Nat):Int)))then(
  jn (fun(l18:List Tq0)=>
  chk (((n16:Int)+(1:Int))≤9223372036854775807)<|
  (kW x2 x3 K4 k) ((n16+1),l18)
  ) fun(K5:Ty2→Option aBl)=>
  chk ((n16:Int)<(((x2).length:Nat):Int))<|
  if(decide ((x2.getD n16 (default:Tq0)).1>x3))then(
  chk ((n16:Int)<(((x2).length:Nat):Int))<|
  chk (((l17).length+1) *32≤140737488355328)<|
  K5 (l17++[((x2.getD n16 (default:Tq0)).1,(x2.getD n16 (default:Tq0)).2.1,(x2.getD n16 (default:Tq0)).2.2)])
  )else(
  K5 l17
  )
  )else(
  K4 l17
  )
abbrev eK (x1:List Tq1) (x2:List Tq0):List V:=[vL 3 cH (default:Tq1) x1,vL 3 bW (default:Tq0) x2]
abbrev jV (l11:List Tq1):List V:=[vL 3 cH (default:Tq1) l11,.own 6301]
abbrev fE (x3 x4:Int) (x5:List UInt8):List V:=[.int .i64 x3,.int .i64 x4,.str x5]
abbrev iJ (x2:List Tq0) (n12:Nat):=(x2.getD n12 (default:Tq0))
abbrev f62z4 (s10:List UInt8) (n12:Nat):List (Nat×V):=[(2,.ptr 2 0),(3,.ptr 3 0),(4,.ptr 4 0),(8,.ptr 8 0),(9,.str s10),(12,.int .i64 (n12:Int))]
abbrev kV (x2:List Tq0) (n16:Nat):=(x2.getD n16 (default:Tq0))
abbrev f62z6 (s10:List UInt8) (n16:Nat):List (Nat×V):=[(2,.ptr 2 0),(3,.ptr 3 0),(4,.ptr 4 0),(8,.ptr 8 0),(9,.str s10),(13,.int .i64 (n16:Int))]
abbrev f62z7 (x1:List Tq1) (x2:List Tq0) (x3 x4:Int) (x5:List UInt8) (l11:List Tq1) (l13:List Tq0):aK:=[(2,.cells 92 (eK x1 x2)),(3,.cells 88 (fE x3 x4 x5)),(4,.cells 92 [.nils,.nils]),(8,.cells 92 (jV l11)),(6301,bL 160 3 bW (default:Tq0) l13)]
abbrev f62z8 (l11:List Tq1):List V:=[vL 3 cH (default:Tq1) l11,.own 90]
abbrev f62z9 (s10:List UInt8) (n12:Nat):List (Nat×V):=[(2,.ptr 2 0),(3,.ptr 3 0),(4,.ptr 4 0),(8,.ptr 8 0),(9,.str s10),(12,.int .i64 (((n12+1):Nat):Int))]
abbrev f62z10 (s10:List UInt8):List (Nat×V):=[(2,.ptr 2 0),(3,.ptr 3 0),(4,.ptr 4 0),(8,.ptr 8 0),(9,.str s10),(12,.int .i64 (0:Int))]
abbrev f62z11 (x1:List Tq1) (x2:List Tq0) (x3 x4:Int) (x5:List UInt8) (l11:List Tq1) (l17:List Tq0):aK:=[(2,.cells 92 (eK x1 x2)),(3,.cells 88 (fE x3 x4 x5)),(4,.cells 92 [.nils,.nils]),(8,.cells 92 (jV l11)),(6301,bL 160 3 bW (default:Tq0) l17)]
abbrev zX (s10:List UInt8):List (Nat×V):=[(2,.ptr 2 0),(3,.ptr 3 0),(4,.ptr 4 0),(8,.ptr 8 0),(9,.str s10)]
abbrev f62z13 (s10:List UInt8) (n12:Nat) (x2:List Tq0) (x3:Int):List (Nat×V):=[(2,.ptr 2 0),(3,.ptr 3 0),(4,.ptr 4 0),(8,.ptr 8 0),(9,.str s10),(12,.int .i64 (n12:Int)),(81,.bool (decide ((iJ x2 n12).1<x3)))]
abbrev jK :=Tq0
abbrev f62z16 (r9:List UInt8×Ty4):List (Nat×V):=[(2,.ptr 2 0),(3,.ptr 3 0),(4,.ptr 4 0),(8,.ptr 8 0),(9,.str r9.1)]
abbrev f62z17 (x1:List Tq1) (x2:List Tq0) (x3 x4:Int) (x5:List UInt8) (l11:List Tq1):aK:=[(2,.cells 92 (eK x1 x2)),(3,.cells 88 (fE x3 x4 x5)),(4,.cells 92 [.nils,.nils]),(8,.cells 92 [vL 3 cH (default:Tq1) l11,.nils])]
abbrev zW (r8:Tq8):List V:=[.int .i64 r8.1,.str r8.2.1,.str r8.2.2.1,.str r8.2.2.2.1]
abbrev f62z20 (x1:List Tq1) (x2:List Tq0) (x3 x4:Int) (x5:List UInt8) (l11:List Tq1) (l15:List Tq0) (s10:List UInt8):aK:=[(2,.cells 92 (eK x1 x2)),(3,.cells 88 (fE x3 x4 x5)),(4,.cells 92 [.nils,.nils]),(8,.cells 92 (jV l11)),(6301,bL 160 3 bW (default:Tq0) (l15++[(x3,x4,s10)]))]
abbrev f62z21 (x1:List Tq1) (x2:List Tq0) (x3 x4:Int) (x5:List UInt8) (l11:List Tq1) (l18:List Tq0):aK:=[(2,.cells 92 (eK x1 x2)),(3,.cells 88 (fE x3 x4 x5)),(4,.cells 92 [.nils,.nils]),(8,.cells 92 (jV l11)),(6301,bL 160 3 bW (default:Tq0) l18)]
def f62 (x1:List Tq1) (x2:List Tq0) (x3 x4:Int) (x5:List UInt8):Option aBl:=
 (f64 (1:Int) (0:Int) [(x3,x4,x5)]).bind fun(r6:Int)=>
 if(r6 !=(0:Int))then(
 some (x1,x2,cs3)
 )else(
 (f83 x1 x2 x3).bind fun(r7:Int×Int×List UInt8×Bool)=>
 if(r7.2.2.2&&(decide (r7.2.1>x4)))then(
 some (x1,x2,cs4)
 )else(
 if(r7.2.2.2&&(r7.2.1==x4))then(
 some (x1,x2,r7.2.2.1)
 )else(
 (f84 x5).bind fun(r8:Tq8)=>
 jn (fun((s10,l11):List UInt8×Ty4)=>
 jn (fun(l15:List Tq0)=>
 chk (((l15).length+1) *32≤140737488355328)<|
 jn (fun(l19:List Tq0)=>
 some (l11,l19,s10)
 ) fun(K4:Ty2→Option aBl)=>
 kW x2 x3 K4 bG (0,(l15++[(x3,x4,s10)]))
 ) fun(K2:Ty2→Option aBl)=>
 kX x2 x3 K2 bG (0,[])
 ) fun(K1:(List UInt8×Ty4)→Option aBl)=>
 if(r8.2.2.2.2==(0:Int))then(
 (f85 x1 r8.1 r8.2.1 r8.2.2.1 r8.2.2.2.1).bind fun(r9:List UInt8×Ty4)=>
 K1 (r9.1,r9.2)
 )else(
 K1 (cs5,x1)
 )
 )
 )
 )
theorem f62_ok (x1:List Tq1) (x2:List Tq0) (x3 x4:Int) (x5:List UInt8) (r:Ty4×Ty2×List UInt8) (h:f62 x1 x2 x3 x4 x5=some r):aH Tryz.prog 62 [] [] [] [.agg [vL 3 cH (default:Tq1) x1,vL 3 bW (default:Tq0) x2],.agg [.int .i64 x3,.int .i64 x4,.str x5]] (.tup [.agg [vL 3 cH (default:Tq1) r.1,vL 3 bW (default:Tq0) r.2.1],.str r.2.2]) []:=by
 unfold f62 at h;refine aH.bodyD [4] 0 _ _ Tryz.func62 rfl Tryz.ntmps62 rfl rfl ?_;refine bJ [] [] [2,3,4] [2,3,4] trivial ?_;refine AWp.seq (AWp.seq ?_);obtain⟨r6,hr6,h⟩:=bind_ok h;refine cA [] [(3,⟨[.agg [.i (1:Int),.i (0:Int),aT [(x3,x4,x5)]]],[],[],[],.i r6,[],[15],[]⟩)] [2,3,4,18] [2,3,4] (an1 (cpL (c:=true) [(15,.rows 88 3 1 (dH 3 (fE x3 x4 x5)))] [15] [.agg [.i (1:Int),.i (0:Int),.own 15]] (fun _=>(f64_ok _ _ _ _ hr6)) (fun _=>⟨(.aggs ⟨.refl _,.refl _,(VLe.of (RL.lst (enc:=bW) [(x3,x4,x5)] rfl rfl (fun _=>rfl))),trivial⟩),trivial⟩) (.inr ⟨rfl,trivial⟩))) ?_;refine tN ?_;refine AWp.cond (b:=(r6 !=(0:Int))) (by kernel_rfl) (fun hc1=> ?_) (fun hc1=> ?_)
 ·
  replace h:=aE hc1 h;refine aU [] [] ⟨131,[(4,.ptr 4 0),(5,.str cs3)],[(4,.cells 92 (eK x1 x2))],[],0⟩ (an1 trivial) ?_;have hret:=Option.some.inj h;subst hret;refine AWp.ret (tR ?_);exact bR _ rfl ⟨rfl,rfl⟩ rfl
 ·
  replace h:=aF hc1 h;refine AWp.skip (tN (AWp.seq ?_));obtain⟨r7,hr7,h⟩:=bind_ok h;refine cA [] [(3,⟨[.agg (eK x1 x2),.i x3],[],[],[],.tup [.agg [.i r7.1,.i r7.2.1,.str r7.2.2.1],.bool r7.2.2.2],[],[],[]⟩)] [2,3,4,6,7] [2,3,4,6] (an2 (cpT (f83_ok _ _ _ _ hr7)) trivial) ?_;refine tN (AWp.seq (AWp.seq ?_));have ob0:=idA ((r7.2.2.2==true)=true);have ob1:=idA ((r7.2.2.2==true)=true);have ob2:=idA ((r7.2.2.2==true)=true);have ob3:=idA ((r7.2.2.2==true)=true);have ob4:=bqA (r7.2.2.2) true;refine cA [] [] [2,3,4,6,7,34] [2,3,4,6] (an4 (an1 ob0) (an1 ob1) (an2 ob2 ob3) ob4) ?_;refine tN ?_;refine AWp.cond (b:=(r7.2.2.2&&(decide (r7.2.1>x4)))) (by kernel_rfl) (fun hc2=> ?_) (fun hc2=> ?_)
  ·
   replace h:=aE hc2 h;refine aU [] [] ⟨131,[(4,.ptr 4 0),(5,.str cs4)],[(4,.cells 92 (eK x1 x2))],[],0⟩ (an1 trivial) ?_;have hret:=Option.some.inj h;subst hret;refine AWp.ret (tR ?_);exact bR _ rfl ⟨rfl,rfl⟩ rfl
  ·
   replace h:=aF hc2 h;refine AWp.skip (tN (AWp.seq (AWp.seq ?_)));have ob5:=idA ((r7.2.2.2==true)=true);have ob6:=idA ((r7.2.2.2==true)=true);have ob7:=idA ((r7.2.2.2==true)=true);have ob8:=idA ((r7.2.2.2==true)=true);have ob9:=bqA (r7.2.2.2) true;refine cA [] [] [2,3,4,6,43] [2,3,4,6] (an4 (an1 ob5) (an1 ob6) (an2 ob7 ob8) ob9) ?_;refine tN ?_;refine AWp.cond (b:=(r7.2.2.2&&(r7.2.1==x4))) (by kernel_rfl) (fun hc3=> ?_) (fun hc3=> ?_)
   ·
    replace h:=aE hc3 h;refine aU [] [] ⟨131,[(4,.ptr 4 0),(5,.str r7.2.2.1)],[(4,.cells 92 (eK x1 x2))],[],0⟩ (an1 trivial) ?_;have hret:=Option.some.inj h;subst hret;refine AWp.ret (tR ?_);exact bR _ rfl ⟨rfl,rfl⟩ rfl
   ·
    replace h:=aF hc3 h;refine AWp.skip (tN ?_);refine bJ [] [] [2,3,4,8] [2,3,4,8] (an1 trivial) ?_;refine bJ [] [] [2,3,4,8,9] [2,3,4,8] trivial ?_;refine AWp.seq ?_;obtain⟨r8,hr8,h⟩:=bind_ok h;refine aZ [] [(2,⟨[.str x5],[],[],[],.tup [.agg (zW r8),.i r8.2.2.2.2],[],[],[]⟩)] ⟨131,[(2,.ptr 2 0),(3,.ptr 3 0),(4,.ptr 4 0),(8,.ptr 8 0),(9,.str cs5),(10,.ptr 10 0),(11,.i r8.2.2.2.2)],[(2,.cells 92 (eK x1 x2)),(3,.cells 88 (fE x3 x4 x5)),(4,.cells 92 [.nils,.nils]),(8,.cells 92 [aV x1,.nils]),(10,.cells 164 (zW r8))],[],0⟩ (an2 (cpT (f84_ok _ _ hr8)) trivial) ?_;refine tN ?_;obtain⟨K1,hK1,h⟩:=aS h;refine AWp.join (fun(x:List UInt8×Ty4)=>match x with|(s10,l11)=>⟨131,(zX s10),(f62z17 x1 x2 x3 x4 x5 l11),[],0⟩) (fun x=>K1 x=some r) ?_ ?_
    ·
     refine aU [] [] ⟨131,[(2,.ptr 2 0),(3,.ptr 3 0),(4,.ptr 4 0),(8,.ptr 8 0),(9,.str cs5),(10,.ptr 10 0),(57,.bool (r8.2.2.2.2==(0:Int)))],[(2,.cells 92 (eK x1 x2)),(3,.cells 88 (fE x3 x4 x5)),(4,.cells 92 [.nils,.nils]),(8,.cells 92 [aV x1,.nils]),(10,.cells 164 (zW r8))],[],0⟩ trivial ?_;refine AWp.cond (b:=(r8.2.2.2.2==(0:Int))) (by kernel_rfl) (fun hc4=> ?_) (fun hc4=> ?_)
     ·
      replace h:=aE hc4 h;obtain⟨r9,hr9,h⟩:=bind_ok h;refine aZ [] [(3,⟨[aV x1,.agg (zW r8)],[],[],[(6001,aP r9.2)],.tup [.own 6001,.str r9.1],[6001],[],[]⟩)] ⟨131,(f62z16 r9),[(2,.cells 92 (eK x1 x2)),(3,.cells 88 (fE x3 x4 x5)),(4,.cells 92 [.nils,.nils]),(8,.cells 92 [.own 6001,.nils]),(6001,aP r9.2)],[],0⟩ (an2 (cpT (aH.ren (bA 3000 6001) (aD 3000 6001) rfl (f85_ok _ _ _ _ _ _ hr9))) trivial) ?_;exact jN (r9.1,r9.2) (Le.trans (Le.trans (Le.freeze 6001 rfl rfl) (LR (s':=⟨131,(f62z16 r9),[(2,.cells 92 (eK x1 x2)),(3,.cells 88 (fE x3 x4 x5)),(4,.cells 92 [.nils,.nils]),(8,.cells 92 [aV r9.2,.nils])],[],0⟩))) LR) h
     ·
      replace h:=aF hc4 h;refine AWp.skip ?_;exact jN (cs5,x1) LR h
    ·
     rintro⟨s10,l11⟩ h;replace h:=(congrFun hK1 _).symm.trans h;obtain⟨K2,hK2,h⟩:=aS h;refine AWp.join (α:=List (jK)) (fun(l15:List (jK))=>⟨131,(zX s10),[(2,.cells 92 (eK x1 x2)),(3,.cells 88 (fE x3 x4 x5)),(4,.cells 92 [.nils,.nils]),(8,.cells 92 (jV l11)),(6301,bD l15)],[],0⟩) (fun x=>K2 x=some r) ?_ ?_
     ·
      refine aU [] [] ⟨131,(f62z10 s10),(f62z17 x1 x2 x3 x4 x5 l11),[],0⟩ trivial ?_;refine AWp.block ?_;refine AWp.loopL (α:=Nat×(Nat×(List (jK)))) (fun x=>match x with|(_,n12,l13)=>⟨131,(f62z4 s10 n12),(f62z7 x1 x2 x3 x4 x5 l11 l13),[],0⟩) (fun x=>kX x2 x3 K2 x.1 x.2=some r) (fun x=>x.1) (bG,0,[]) (Le.trans (Le.trans (Le.nilOwnC 8 1 6301 160 3 (cD bW bB []) rfl rfl rfl) (LR (s':=⟨131,(f62z10 s10),[(2,.cells 92 (eK x1 x2)),(3,.cells 88 (fE x3 x4 x5)),(4,.cells 92 [.nils,.nils]),(8,.cells 92 (jV l11)),(6301,bD [])],[],0⟩))) (LR (s':=⟨131,(f62z10 s10),[(2,.cells 92 (eK x1 x2)),(3,.cells 88 (fE x3 x4 x5)),(4,.cells 92 [.nils,.nils]),(8,.cells 92 (jV l11)),(6301,bD [])],[],0⟩))) h ?_
      rintro⟨k0,n12,l13⟩ h
      cases k0 with
      |zero=>exact nomatch (show none=some r from h)
      |succ k0=>
      obtain⟨C0,hC0⟩:∃C,C=kX x2 x3 K2 k0:=⟨_,rfl⟩;replace h:=(kX.eq_2 ..).symm.trans h
      try rw[←hC0]at h
      refine AWp.seq ?_;refine aU [] [] ⟨131,[(2,.ptr 2 0),(3,.ptr 3 0),(4,.ptr 4 0),(8,.ptr 8 0),(9,.str s10),(12,.i (n12:Int)),(70,.bool (decide ((n12:Int)<(lZ x2))))],(f62z7 x1 x2 x3 x4 x5 l11 l13),[],0⟩ trivial ?_;refine AWp.cond (b:=(decide ((n12:Int)<(lZ x2)))) (by kernel_rfl) (fun hc5=> ?_) (fun hc5=> ?_)
      ·
       replace h:=aE hc5 h;refine AWp.skip (tN ?_);obtain⟨K3,hK3,h⟩:=aS h;refine AWp.join (α:=List (jK)) (fun(l14:List (jK))=>⟨131,(f62z4 s10 n12),[(2,.cells 92 (eK x1 x2)),(3,.cells 88 (fE x3 x4 x5)),(4,.cells 92 [.nils,.nils]),(8,.cells 92 (f62z8 l11)),(90,bD l14)],[],0⟩) (fun x=>K3 x=some r) ?_ ?_
       ·
        refine AWp.block (AWp.seq ?_);obtain⟨ob10p,h⟩:=aB h;have ob10:0≤(n12:Int)∧(n12:Int)<(((x2).length:Nat):Int):=⟨by omega,ob10p⟩;refine aZ [] [] ⟨131,(f62z13 s10 n12 x2 x3),(f62z7 x1 x2 x3 x4 x5 l11 l13),[],0⟩ (an1 ob10) ?_;refine tN ?_;refine AWp.cond (b:=(decide ((iJ x2 n12).1<x3))) (by kernel_rfl) (fun hc6=> ?_) (fun hc6=> ?_)
        ·
         replace h:=aE hc6 h;obtain⟨ob11p,h⟩:=aB h;have ob11:0≤(n12:Int)∧(n12:Int)<(((x2).length:Nat):Int):=⟨by omega,ob11p⟩;obtain⟨ob12,h⟩:=aB h;refine aZ [] [] ⟨131,(f62z4 s10 n12),[(2,.cells 92 (eK x1 x2)),(3,.cells 88 (fE x3 x4 x5)),(4,.cells 92 [.nils,.nils]),(8,.cells 92 (jV l11)),(6301,.rows 160 3 ((l13).length+1) (gF (l13).length (cD bW bB l13) (dH 3 [.i (iJ x2 n12).1,.i (iJ x2 n12).2.1,.str (iJ x2 n12).2.2])))],[],0⟩ (an3 ob11 ob12 trivial) ?_;refine kN ?_;exact jN ((l13++[((iJ x2 n12).1,(iJ x2 n12).2.1,(iJ x2 n12).2.2)])) (Le.trans (Le.mk (s':=⟨131,(f62z4 s10 n12),[(2,.cells 92 (eK x1 x2)),(3,.cells 88 (fE x3 x4 x5)),(4,.cells 92 [.nils,.nils]),(8,.cells 92 (jV l11)),(6301,bD (l13++[((iJ x2 n12).1,(iJ x2 n12).2.1,(iJ x2 n12).2.2)]))],[],0⟩) rfl rfl ⟨.refl _,.refl _,.refl _,.refl _,.refl _,.refl _,trivial⟩ ⟨⟨_,rfl,.refl _⟩,⟨_,rfl,.refl _⟩,⟨_,rfl,.refl _⟩,⟨_,rfl,.refl _⟩,⟨_,rfl,(BLe.of (RL.app (RL.self _) (RL.lst (enc:=bW) [((iJ x2 n12).1,(iJ x2 n12).2.1,(iJ x2 n12).2.2)] rfl rfl (fun _=>rfl))))⟩,trivial⟩) (Le.trans (Le.trans (Le.ren (bA 6301 90) (aD 6301 90) rfl) (LR (s':=⟨131,(f62z4 s10 n12),[(2,.cells 92 (eK x1 x2)),(3,.cells 88 (fE x3 x4 x5)),(4,.cells 92 [.nils,.nils]),(8,.cells 92 (f62z8 l11)),(90,bD (l13++[((iJ x2 n12).1,(iJ x2 n12).2.1,(iJ x2 n12).2.2)]))],[],0⟩))) LR)) h
        ·
         replace h:=aF hc6 h;refine AWp.skip (kN ?_);exact jN (l13) (Le.trans (Le.trans (Le.ren (bA 6301 90) (aD 6301 90) rfl) (LR (s':=⟨131,(f62z13 s10 n12 x2 x3),[(2,.cells 92 (eK x1 x2)),(3,.cells 88 (fE x3 x4 x5)),(4,.cells 92 [.nils,.nils]),(8,.cells 92 (f62z8 l11)),(90,bD l13)],[],0⟩))) LR) h
       ·
        rintro l14 h;replace h:=(congrFun hK3 _).symm.trans h;obtain⟨ob13p,h⟩:=aB h;have ob13: -9223372036854775808≤((n12:Int)+(1:Int))∧((n12:Int)+(1:Int))≤9223372036854775807:=⟨by omega,ob13p⟩;refine aZ [] [] ⟨131,(f62z9 s10 n12),[(2,.cells 92 (eK x1 x2)),(3,.cells 88 (fE x3 x4 x5)),(4,.cells 92 [.nils,.nils]),(8,.cells 92 (f62z8 l11)),(90,bD l14)],[],0⟩ (an1 ob13) ?_;rw[hC0]at h;exact lN (_,(n12+1),l14) (Le.trans (Le.trans (Le.ren (bA 90 6301) (aD 90 6301) rfl) (LR (s':=⟨131,(f62z9 s10 n12),[(2,.cells 92 (eK x1 x2)),(3,.cells 88 (fE x3 x4 x5)),(4,.cells 92 [.nils,.nils]),(8,.cells 92 (jV l11)),(6301,bD l14)],[],0⟩))) LR) h (Nat.lt_succ_self _)
      ·
       replace h:=aF hc5 h;refine AWp.exit (tE (tE (kS ?_)));exact jN (l13) LR h
     ·
      rintro l15 h;replace h:=(congrFun hK2 _).symm.trans h;refine AWp.seq ?_;obtain⟨ob14,h⟩:=aB h;refine aZ [] [] ⟨131,(zX s10),[(2,.cells 92 (eK x1 x2)),(3,.cells 88 (fE x3 x4 x5)),(4,.cells 92 [.nils,.nils]),(8,.cells 92 (jV l11)),(6301,.rows 160 3 ((l15).length+1) (gF (l15).length (cD bW bB l15) (dH 3 [.i x3,.i x4,.str s10])))],[],0⟩ (an2 ob14 trivial) ?_;refine tN ?_;refine AWp.le (Le.mk (s':=⟨131,(zX s10),(f62z20 x1 x2 x3 x4 x5 l11 l15 s10),[],0⟩) rfl rfl ⟨.refl _,.refl _,.refl _,.refl _,.refl _,trivial⟩ ⟨⟨_,rfl,.refl _⟩,⟨_,rfl,.refl _⟩,⟨_,rfl,.refl _⟩,⟨_,rfl,.refl _⟩,⟨_,rfl,(BLe.of (RL.app (RL.self _) (RL.lst (enc:=bW) [(x3,x4,s10)] rfl rfl (fun _=>rfl))))⟩,trivial⟩) ?_;obtain⟨K4,hK4,h⟩:=aS h;refine AWp.join (α:=List (jK)) (fun(l19:List (jK))=>⟨131,[(4,.ptr 4 0),(8,.ptr 8 0),(9,.str s10)],[(4,.cells 92 [.nils,.nils]),(8,.cells 92 (jV l11)),(6301,bD l19)],[],0⟩) (fun x=>K4 x=some r) ?_ ?_
      ·
       refine aU [] [] ⟨131,[(2,.ptr 2 0),(3,.ptr 3 0),(4,.ptr 4 0),(8,.ptr 8 0),(9,.str s10),(13,.i (0:Int))],(f62z20 x1 x2 x3 x4 x5 l11 l15 s10),[],0⟩ trivial ?_;refine AWp.block ?_;refine AWp.loopL (α:=Nat×(Nat×(List (jK)))) (fun x=>match x with|(_,n16,l17)=>⟨131,(f62z6 s10 n16),(f62z11 x1 x2 x3 x4 x5 l11 l17),[],0⟩) (fun x=>kW x2 x3 K4 x.1 x.2=some r) (fun x=>x.1) (bG,0,(l15++[(x3,x4,s10)])) (LR (s':=⟨131,[(2,.ptr 2 0),(3,.ptr 3 0),(4,.ptr 4 0),(8,.ptr 8 0),(9,.str s10),(13,.i (0:Int))],(f62z20 x1 x2 x3 x4 x5 l11 l15 s10),[],0⟩)) h ?_
       rintro⟨k1,n16,l17⟩ h
       cases k1 with
       |zero=>exact nomatch (show none=some r from h)
       |succ k1=>
       obtain⟨C1,hC1⟩:∃C,C=kW x2 x3 K4 k1:=⟨_,rfl⟩;replace h:=(kW.eq_2 ..).symm.trans h
       try rw[←hC1]at h
       refine AWp.seq ?_;refine aU [] [] ⟨131,[(2,.ptr 2 0),(3,.ptr 3 0),(4,.ptr 4 0),(8,.ptr 8 0),(9,.str s10),(13,.i (n16:Int)),(107,.bool (decide ((n16:Int)<(lZ x2))))],(f62z11 x1 x2 x3 x4 x5 l11 l17),[],0⟩ trivial ?_;refine AWp.cond (b:=(decide ((n16:Int)<(lZ x2)))) (by kernel_rfl) (fun hc7=> ?_) (fun hc7=> ?_)
       ·
        replace h:=aE hc7 h;refine AWp.skip (tN ?_);obtain⟨K5,hK5,h⟩:=aS h;refine AWp.join (α:=List (jK)) (fun(l18:List (jK))=>⟨131,(f62z6 s10 n16),(f62z21 x1 x2 x3 x4 x5 l11 l18),[],0⟩) (fun x=>K5 x=some r) ?_ ?_
        ·
         refine AWp.block (AWp.seq ?_);obtain⟨ob15p,h⟩:=aB h;have ob15:0≤(n16:Int)∧(n16:Int)<(((x2).length:Nat):Int):=⟨by omega,ob15p⟩;refine aZ [] [] ⟨131,[(2,.ptr 2 0),(3,.ptr 3 0),(4,.ptr 4 0),(8,.ptr 8 0),(9,.str s10),(13,.i (n16:Int)),(118,.bool (decide ((kV x2 n16).1>x3)))],(f62z11 x1 x2 x3 x4 x5 l11 l17),[],0⟩ (an1 ob15) ?_;refine tN ?_;refine AWp.cond (b:=(decide ((kV x2 n16).1>x3))) (by kernel_rfl) (fun hc8=> ?_) (fun hc8=> ?_)
         ·
          replace h:=aE hc8 h;obtain⟨ob16p,h⟩:=aB h;have ob16:0≤(n16:Int)∧(n16:Int)<(((x2).length:Nat):Int):=⟨by omega,ob16p⟩;obtain⟨ob17,h⟩:=aB h;refine aZ [] [] ⟨131,(f62z6 s10 n16),[(2,.cells 92 (eK x1 x2)),(3,.cells 88 (fE x3 x4 x5)),(4,.cells 92 [.nils,.nils]),(8,.cells 92 (jV l11)),(6301,.rows 160 3 ((l17).length+1) (gF (l17).length (cD bW bB l17) (dH 3 [.i (kV x2 n16).1,.i (kV x2 n16).2.1,.str (kV x2 n16).2.2])))],[],0⟩ (an3 ob16 ob17 trivial) ?_;refine kN ?_;exact jN ((l17++[((kV x2 n16).1,(kV x2 n16).2.1,(kV x2 n16).2.2)])) (Le.trans (Le.mk (s':=⟨131,(f62z6 s10 n16),[(2,.cells 92 (eK x1 x2)),(3,.cells 88 (fE x3 x4 x5)),(4,.cells 92 [.nils,.nils]),(8,.cells 92 (jV l11)),(6301,bD (l17++[((kV x2 n16).1,(kV x2 n16).2.1,(kV x2 n16).2.2)]))],[],0⟩) rfl rfl ⟨.refl _,.refl _,.refl _,.refl _,.refl _,.refl _,trivial⟩ ⟨⟨_,rfl,.refl _⟩,⟨_,rfl,.refl _⟩,⟨_,rfl,.refl _⟩,⟨_,rfl,.refl _⟩,⟨_,rfl,(BLe.of (RL.app (RL.self _) (RL.lst (enc:=bW) [((kV x2 n16).1,(kV x2 n16).2.1,(kV x2 n16).2.2)] rfl rfl (fun _=>rfl))))⟩,trivial⟩) LR) h
         ·
          replace h:=aF hc8 h;refine AWp.skip (kN ?_);exact jN (l17) LR h
        ·
         rintro l18 h;replace h:=(congrFun hK5 _).symm.trans h;obtain⟨ob18p,h⟩:=aB h;have ob18: -9223372036854775808≤((n16:Int)+(1:Int))∧((n16:Int)+(1:Int))≤9223372036854775807:=⟨by omega,ob18p⟩;refine aZ [] [] ⟨131,[(2,.ptr 2 0),(3,.ptr 3 0),(4,.ptr 4 0),(8,.ptr 8 0),(9,.str s10),(13,.i (((n16+1):Nat):Int))],(f62z21 x1 x2 x3 x4 x5 l11 l18),[],0⟩ (an1 ob18) ?_;rw[hC1]at h;exact lN (_,(n16+1),l18) LR h (Nat.lt_succ_self _)
       ·
        replace h:=aF hc7 h;refine AWp.exit (tE (tE (kS ?_)));exact jN (l17) LR h
      ·
       rintro l19 h;replace h:=(congrFun hK4 _).symm.trans h;refine aU [] [] ⟨131,[(4,.ptr 4 0),(5,.str s10)],[(4,.cells 92 (jV l11)),(6301,bD l19)],[],0⟩ (an1 trivial) ?_;refine AWp.le (Le.trans (Le.freeze 6301 rfl rfl) (LR (s':=⟨131,[(4,.ptr 4 0),(5,.str s10)],[(4,.cells 92 [aV l11,aT l19])],[],0⟩))) ?_;have hret:=Option.some.inj h;subst hret;refine AWp.le (LR (s':=⟨131,[(4,.ptr 4 0),(5,.str s10)],[(4,.cells 92 [aV l11,aT l19])],[],0⟩)) ?_;refine AWp.ret ?_;exact bR _ rfl ⟨rfl,rfl⟩ rfl
def mO (r4:Int×Int×Ty2×Int) (K1:(Ty4×Ty2×Ty2)→Option (Ty4×Ty2×Ty2)):Nat→(Nat×Ty4×Ty2×Ty2)→Option (Ty4×Ty2×Ty2)
 |0,_=>none
 |k+1,(n5,l6,l7,l8)=>
  if(decide ((n5:Int)<(((r4.2.2.1).length:Nat):Int)))then(
  chk ((n5:Int)<(((r4.2.2.1).length:Nat):Int))<|
  (f62 l6 l7 ((r4.2.2.1.getD n5 (default:Tq0)).1) ((r4.2.2.1.getD n5 (default:Tq0)).2.1) ((r4.2.2.1.getD n5 (default:Tq0)).2.2)).bind fun(r9:Ty4×Ty2×List UInt8)=>
  chk (((l8).length+1) *32≤140737488355328)<|
  chk (((n5:Int)+(1:Int))≤9223372036854775807)<|
  (mO r4 K1 k) ((n5+1),r9.1,r9.2.1,(l8++[((r4.2.2.1.getD n5 (default:Tq0)).1,(r4.2.2.1.getD n5 (default:Tq0)).2.1,r9.2.2)]))
  )else(
  K1 (l6,l7,l8)
  )
abbrev vD (r4:Int×Int×Ty2×Int):List V:=[.int .i64 r4.1,.int .i64 r4.2.1,vL 3 bW (default:Tq0) r4.2.2.1]
abbrev aA7 (x1:List Tq1) (x2:List Tq0):List V:=[vL 3 cH (default:Tq1) x1,vL 3 bW (default:Tq0) x2]
abbrev oR (r4:Int×Int×Ty2×Int) (n5:Nat):=(r4.2.2.1.getD n5 (default:Tq0))
abbrev f37z3 (r9:Ty4×Ty2×List UInt8):List V:=[vL 3 cH (default:Tq1) r9.1,vL 3 bW (default:Tq0) r9.2.1]
abbrev f37z4 (l6:List Tq1) (l7:List Tq0):List V:=[vL 3 cH (default:Tq1) l6,vL 3 bW (default:Tq0) l7]
abbrev f37z5 (l10:List Tq1) (l11:List Tq0):List V:=[vL 3 cH (default:Tq1) l10,vL 3 bW (default:Tq0) l11]
abbrev f37z6 (n5:Nat):List (Nat×V):=[(2,.ptr 2 0),(4,.ptr 4 0),(6,.ptr 6 0),(8,.own 5008),(9,.int .i64 (n5:Int))]
abbrev f37z7 (r9:Ty4×Ty2×List UInt8) (r4:Int×Int×Ty2×Int) (l8:List Tq0) (n5:Nat):aK:=[(2,.cells 92 (f37z3 r9)),(4,.cells 92 [.nils,.nils]),(6,.cells 100 (vD r4)),(5008,bL 98 3 bW (default:Tq0) (l8++[((oR r4 n5).1,(oR r4 n5).2.1,r9.2.2)]))]
abbrev f37z8 (x1:List Tq1) (x2:List Tq0) (r4:Int×Int×Ty2×Int):aK:=[(2,.cells 92 (aA7 x1 x2)),(4,.cells 92 [.nils,.nils]),(6,.cells 100 (vD r4))]
abbrev f37z9 (r4:Int×Int×Ty2×Int) (n5:Nat):List V:=[.int .i64 (oR r4 n5).1,.int .i64 (oR r4 n5).2.1,.str (oR r4 n5).2.2]
abbrev aAe :=Ty2
def f37 (x1:List Tq1) (x2:List Tq0) (x3:List UInt8):Option (Ty4×Ty2×Ty2):=
 (f61 x3).bind fun(r4:Int×Int×Ty2×Int)=>
 if(r4.2.2.2 !=(0:Int))then(
 some (x1,x2,[])
 )else(
 jn (fun((l10,l11,l12):Ty4×Ty2×Ty2)=>
 some (l10,l11,l12)
 ) fun(K1:(Ty4×Ty2×Ty2)→Option (Ty4×Ty2×Ty2))=>
 mO r4 K1 bG (0,x1,x2,[])
 )
theorem f37_ok (x1:List Tq1) (x2:List Tq0) (x3:List UInt8) (r:Ty4×Ty2×Ty2) (h:f37 x1 x2 x3=some r):aH Tryz.prog 37 [] [] [] [.agg [vL 3 cH (default:Tq1) x1,vL 3 bW (default:Tq0) x2],.str x3] (.tup [.agg [vL 3 cH (default:Tq1) r.1,vL 3 bW (default:Tq0) r.2.1],.own 3000]) [(3000,bL 98 3 bW (default:Tq0) r.2.2)]:=by
 unfold f37 at h;refine aH.bodyD [4] 0 _ _ Tryz.func37 rfl Tryz.ntmps37 rfl rfl ?_;refine bJ [] [] [1,2,4] [2,4] trivial ?_;refine AWp.seq ?_;obtain⟨r4,hr4,h⟩:=bind_ok h;refine cA [] [(1,⟨[.str x3],[],[],[],.tup [.agg (vD r4),.i r4.2.2.2],[],[],[]⟩)] [2,4,6,7] [2,4,6] (an2 (cpT (f61_ok _ _ hr4)) trivial) ?_;refine tN (AWp.seq ?_);refine bJ [] [] [2,4,6,19] [2,4,6] trivial ?_;refine AWp.cond (b:=(r4.2.2.2 !=(0:Int))) (by kernel_rfl) (fun hc1=> ?_) (fun hc1=> ?_)
 ·
  replace h:=aE hc1 h;refine aU [] [] ⟨51,[(4,.ptr 4 0),(5,.nils)],[(4,.cells 92 (aA7 x1 x2))],[],0⟩ (an1 trivial) ?_;refine AWp.le (Le.trans (Le.nilOwn 5 3000 98 3 (cD bW bB []) rfl rfl (Nat.le_of_ble_eq_true rfl)) (LR (s':=⟨51,[(4,.ptr 4 0),(5,.own 3000)],[(4,.cells 92 (aA7 x1 x2)),(3000,bH [])],[],0⟩))) ?_;have hret:=Option.some.inj h;subst hret;refine AWp.le (LR (s':=⟨51,[(4,.ptr 4 0),(5,.own 3000)],[(3000,bH []),(4,.cells 92 (aA7 x1 x2))],[],0⟩)) ?_;refine AWp.ret (tR ?_);exact bR _ rfl ⟨rfl,rfl⟩ rfl
 ·
  replace h:=aF hc1 h;refine AWp.skip (tN ?_);refine aU [] [] ⟨51,[(2,.ptr 2 0),(4,.ptr 4 0),(6,.ptr 6 0),(8,.nils)],(f37z8 x1 x2 r4),[],0⟩ trivial ?_;obtain⟨K1,hK1,h⟩:=aS h;refine AWp.join (fun(x:Ty4×(aAe)×(aAe))=>match x with|(l10,l11,l12)=>⟨51,[(2,.ptr 2 0),(4,.ptr 4 0),(8,.own 5008)],[(2,.cells 92 (f37z5 l10 l11)),(4,.cells 92 [.nils,.nils]),(5008,bH l12)],[],0⟩) (fun x=>K1 x=some r) ?_ ?_
  ·
   refine aU [] [] ⟨51,[(2,.ptr 2 0),(4,.ptr 4 0),(6,.ptr 6 0),(8,.nils),(9,.i (0:Int))],(f37z8 x1 x2 r4),[],0⟩ trivial ?_;refine AWp.block ?_;refine AWp.loopL (α:=Nat×(Nat×Ty4×(aAe)×(aAe))) (fun x=>match x with|(_,n5,l6,l7,l8)=>⟨51,(f37z6 n5),[(2,.cells 92 (f37z4 l6 l7)),(4,.cells 92 [.nils,.nils]),(6,.cells 100 (vD r4)),(5008,bH l8)],[],0⟩) (fun x=>mO r4 K1 x.1 x.2=some r) (fun x=>x.1) (bG,0,x1,x2,[]) (Le.trans (Le.trans (Le.nilOwn 8 5008 98 3 (cD bW bB []) rfl rfl (Nat.le_of_ble_eq_true rfl)) (LR (s':=⟨51,[(2,.ptr 2 0),(4,.ptr 4 0),(6,.ptr 6 0),(8,.own 5008),(9,.i (0:Int))],[(2,.cells 92 (aA7 x1 x2)),(4,.cells 92 [.nils,.nils]),(6,.cells 100 (vD r4)),(5008,bH [])],[],0⟩))) (LR (s':=⟨51,[(2,.ptr 2 0),(4,.ptr 4 0),(6,.ptr 6 0),(8,.own 5008),(9,.i (0:Int))],[(2,.cells 92 (aA7 x1 x2)),(4,.cells 92 [.nils,.nils]),(6,.cells 100 (vD r4)),(5008,bH [])],[],0⟩))) h ?_
   rintro⟨k0,n5,l6,l7,l8⟩ h
   cases k0 with
   |zero=>exact nomatch (show none=some r from h)
   |succ k0=>
   obtain⟨C0,hC0⟩:∃C,C=mO r4 K1 k0:=⟨_,rfl⟩;replace h:=(mO.eq_2 ..).symm.trans h
   try rw[←hC0]at h
   refine AWp.seq ?_;refine aU [] [] ⟨51,[(2,.ptr 2 0),(4,.ptr 4 0),(6,.ptr 6 0),(8,.own 5008),(9,.i (n5:Int)),(25,.bool (decide ((n5:Int)<(lZ r4.2.2.1))))],[(2,.cells 92 (f37z4 l6 l7)),(4,.cells 92 [.nils,.nils]),(6,.cells 100 (vD r4)),(5008,bH l8)],[],0⟩ trivial ?_;refine AWp.cond (b:=(decide ((n5:Int)<(lZ r4.2.2.1)))) (by kernel_rfl) (fun hc2=> ?_) (fun hc2=> ?_)
   ·
    replace h:=aE hc2 h;refine AWp.skip (tN (AWp.seq (AWp.block (AWp.seq ?_))));obtain⟨ob0p,h⟩:=aB h;have ob0:0≤(n5:Int)∧(n5:Int)<(((r4.2.2.1).length:Nat):Int):=⟨by omega,ob0p⟩;refine cA [] [] [2,4,6,8,9,10] [2,4,6,10,5008] (an2 ob0 trivial) ?_;refine tN (AWp.seq ?_);obtain⟨r9,hr9,h⟩:=bind_ok h;refine cA [] [(2,⟨[.agg (f37z4 l6 l7),.agg (f37z9 r4 n5)],[],[],[],.tup [.agg (f37z3 r9),.str r9.2.2],[],[],[]⟩)] [2,4,6,8,9,10,11,12] [2,4,6,10,11,5008] (an2 (cpT (f62_ok _ _ _ _ _ _ hr9)) trivial) ?_;refine tN ?_;refine bJ [] [] [2,4,6,8,9,10,12] [2,4,6,10,5008] (an1 trivial) ?_;obtain⟨ob1,h⟩:=aB h;refine aZ [] [] ⟨51,(f37z6 n5),[(2,.cells 92 (f37z3 r9)),(4,.cells 92 [.nils,.nils]),(6,.cells 100 (vD r4)),(5008,.rows 98 3 ((l8).length+1) (gF (l8).length (cD bW bB l8) (dH 3 [.i (oR r4 n5).1,.i (oR r4 n5).2.1,.str r9.2.2])))],[],0⟩ (an1 ob1) ?_;refine kN (tN ?_);refine AWp.le (Le.mk (s':=⟨51,(f37z6 n5),(f37z7 r9 r4 l8 n5),[],0⟩) rfl rfl ⟨.refl _,.refl _,.refl _,.refl _,.refl _,trivial⟩ ⟨⟨_,rfl,.refl _⟩,⟨_,rfl,.refl _⟩,⟨_,rfl,.refl _⟩,⟨_,rfl,(BLe.of (RL.app (RL.self _) (RL.lst (enc:=bW) [((oR r4 n5).1,(oR r4 n5).2.1,r9.2.2)] rfl rfl (fun _=>rfl))))⟩,trivial⟩) ?_;obtain⟨ob2p,h⟩:=aB h;have ob2: -9223372036854775808≤((n5:Int)+(1:Int))∧((n5:Int)+(1:Int))≤9223372036854775807:=⟨by omega,ob2p⟩;refine aZ [] [] ⟨51,[(2,.ptr 2 0),(4,.ptr 4 0),(6,.ptr 6 0),(8,.own 5008),(9,.i (((n5+1):Nat):Int))],(f37z7 r9 r4 l8 n5),[],0⟩ (an1 ob2) ?_;rw[hC0]at h;exact lN (_,(n5+1),r9.1,r9.2.1,(l8++[((oR r4 n5).1,(oR r4 n5).2.1,r9.2.2)])) LR h (Nat.lt_succ_self _)
   ·
    replace h:=aF hc2 h;refine AWp.exit (tE (tE (kS ?_)));exact jN (l6,l7,l8) LR h
  ·
   rintro⟨l10,l11,l12⟩ h;replace h:=(congrFun hK1 _).symm.trans h;refine aU [] [] ⟨51,[(4,.ptr 4 0),(5,.own 5008)],[(4,.cells 92 (f37z5 l10 l11)),(5008,bH l12)],[],0⟩ (an1 trivial) ?_;refine AWp.le (Le.trans (Le.ren (bA 5008 3000) (aD 5008 3000) rfl) (LR (s':=⟨51,[(4,.ptr 4 0),(5,.own 3000)],[(4,.cells 92 (f37z5 l10 l11)),(3000,bH l12)],[],0⟩))) ?_;have hret:=Option.some.inj h;subst hret;refine AWp.le (LR (s':=⟨51,[(4,.ptr 4 0),(5,.own 3000)],[(3000,bH l12),(4,.cells 92 (f37z5 l10 l11))],[],0⟩)) ?_;refine AWp.ret ?_;exact bR _ rfl ⟨rfl,rfl⟩ rfl
def mN (x3:Nat) (x4:List Ty0) (K1:(Ty4×Ty2)→Option (Ty4×Ty2)):Nat→(Nat×Ty4×Ty2)→Option (Ty4×Ty2)
 |0,_=>none
 |k+1,(n5,l6,l7)=>
  if(decide ((n5:Int)<(x3:Int)))then(
  (f37 l6 l7 (x4.getD (0+n5) [])).bind fun(r8:Ty4×Ty2×Ty2)=>
  chk ((n5:Int)<(x3:Int))<|
  chk ((0+n5)<(x4).length)<|
  chk (((n5:Int)+(1:Int))≤9223372036854775807)<|
  (mN x3 x4 K1 k) ((n5+1),r8.1,r8.2.1)
  )else(
  K1 (l6,l7)
  )
abbrev f63z0 (x1:List Tq1) (x2:List Tq0) (x4:List Ty0):aK:=[(2,.cells 92 [vL 3 cH (default:Tq1) x1,vL 3 bW (default:Tq0) x2]),(4,.cells 92 [.nils,.nils]),(2000,bL 9 1 eS [] x4)]
abbrev f63z1 (l6:List Tq1) (l7:List Tq0) (x4:List Ty0):aK:=[(2,.cells 92 [vL 3 cH (default:Tq1) l6,vL 3 bW (default:Tq0) l7]),(4,.cells 92 [.nils,.nils]),(2000,bL 9 1 eS [] x4)]
abbrev f63z2 (r8:Ty4×Ty2×Ty2) (x4:List Ty0):aK:=[(2,.cells 92 [vL 3 cH (default:Tq1) r8.1,vL 3 bW (default:Tq0) r8.2.1]),(4,.cells 92 [.nils,.nils]),(2000,bL 9 1 eS [] x4)]
abbrev f63z3 (l9:List Tq1) (l10:List Tq0):List V:=[vL 3 cH (default:Tq1) l9,vL 3 bW (default:Tq0) l10]
def f63 (x1:List Tq1) (x2:List Tq0) (x3:Nat) (x4:List Ty0):Option (Ty4×Ty2):=
 jn (fun((l9,l10):Ty4×Ty2)=>
 some (l9,l10)
 ) fun(K1:(Ty4×Ty2)→Option (Ty4×Ty2))=>
 mN x3 x4 K1 bG (0,x1,x2)
theorem f63_ok (x1:List Tq1) (x2:List Tq0) (x3:Nat) (x4:List Ty0) (r:Ty4×Ty2) (h:f63 x1 x2 x3 x4=some r):aH Tryz.prog 63 [] [2000] [(2000,bL 9 1 eS [] x4)] [.agg [vL 3 cH (default:Tq1) x1,vL 3 bW (default:Tq0) x2],.osl 2000 1 0 x3] (.agg [vL 3 cH (default:Tq1) r.1,vL 3 bW (default:Tq0) r.2]) [(2000,bL 9 1 eS [] x4)]:=by
 unfold f63 at h;refine aH.bodyD [4] 0 _ _ Tryz.func63 rfl Tryz.ntmps63 rfl rfl ?_;refine aU [] [] ⟨22,[(1,.osl 2000 1 0 x3),(2,.ptr 2 0),(4,.ptr 4 0)],(f63z0 x1 x2 x4),[2000],0⟩ trivial ?_;obtain⟨K1,hK1,h⟩:=aS h;refine AWp.join (fun(x:Ty4×Ty2)=>match x with|(l9,l10)=>⟨22,[(2,.ptr 2 0),(4,.ptr 4 0)],[(2,.cells 92 (f63z3 l9 l10)),(4,.cells 92 [.nils,.nils]),(2000,aG x4)],[2000],0⟩) (fun x=>K1 x=some r) ?_ ?_
 ·
  refine aU [] [] ⟨22,[(1,.osl 2000 1 0 x3),(2,.ptr 2 0),(4,.ptr 4 0),(5,.i (0:Int))],(f63z0 x1 x2 x4),[2000],0⟩ trivial ?_;refine AWp.block ?_;refine AWp.loopL (α:=Nat×(Nat×Ty4×Ty2)) (fun x=>match x with|(_,n5,l6,l7)=>⟨22,[(1,.osl 2000 1 0 x3),(2,.ptr 2 0),(4,.ptr 4 0),(5,.i (n5:Int))],(f63z1 l6 l7 x4),[2000],0⟩) (fun x=>mN x3 x4 K1 x.1 x.2=some r) (fun x=>x.1) (bG,0,x1,x2) (LR (s':=⟨22,[(1,.osl 2000 1 0 x3),(2,.ptr 2 0),(4,.ptr 4 0),(5,.i (0:Int))],(f63z0 x1 x2 x4),[2000],0⟩)) h ?_
  rintro⟨k0,n5,l6,l7⟩ h
  cases k0 with
  |zero=>exact nomatch (show none=some r from h)
  |succ k0=>
  obtain⟨C0,hC0⟩:∃C,C=mN x3 x4 K1 k0:=⟨_,rfl⟩;replace h:=(mN.eq_2 ..).symm.trans h
  try rw[←hC0]at h
  refine AWp.seq ?_;refine aU [] [] ⟨22,[(1,.osl 2000 1 0 x3),(2,.ptr 2 0),(4,.ptr 4 0),(5,.i (n5:Int)),(9,.bool (decide ((n5:Int)<(x3:Int))))],(f63z1 l6 l7 x4),[2000],0⟩ trivial ?_;refine AWp.cond (b:=(decide ((n5:Int)<(x3:Int)))) (by kernel_rfl) (fun hc1=> ?_) (fun hc1=> ?_)
  ·
   replace h:=aE hc1 h;refine AWp.skip (tN (AWp.seq (AWp.block ?_)));obtain⟨r8,hr8,h⟩:=bind_ok h;obtain⟨ob0p,h⟩:=aB h;have ob0:0≤(n5:Int)∧(n5:Int)<(x3:Int):=⟨by omega,ob0p⟩;obtain⟨ob1,h⟩:=aB h;refine aZ [] [(5,⟨[.agg [aV l6,aT l7],.str (x4.getD (0+n5) [])],[],[],[(6001,bH r8.2.2)],.tup [.agg [aV r8.1,aT r8.2.1],.own 6001],[6001],[],[]⟩)] ⟨22,[(1,.osl 2000 1 0 x3),(2,.ptr 2 0),(4,.ptr 4 0),(5,.i (n5:Int))],(f63z2 r8 x4),[2000],0⟩ (an4 ob0 ob1 (cpT (aH.ren (bA 3000 6001) (aD 3000 6001) rfl (f37_ok _ _ _ _ hr8))) trivial) ?_;refine kN (tN ?_);obtain⟨ob2p,h⟩:=aB h;have ob2: -9223372036854775808≤((n5:Int)+(1:Int))∧((n5:Int)+(1:Int))≤9223372036854775807:=⟨by omega,ob2p⟩;refine aZ [] [] ⟨22,[(1,.osl 2000 1 0 x3),(2,.ptr 2 0),(4,.ptr 4 0),(5,.i (((n5+1):Nat):Int))],(f63z2 r8 x4),[2000],0⟩ (an1 ob2) ?_;rw[hC0]at h;exact lN (_,(n5+1),r8.1,r8.2.1) LR h (Nat.lt_succ_self _)
  ·
   replace h:=aF hc1 h;refine AWp.exit (tE (tE (kS ?_)));exact jN (l6,l7) LR h
 ·
  rintro⟨l9,l10⟩ h;replace h:=(congrFun hK1 _).symm.trans h;refine aU [] [] ⟨22,[(4,.ptr 4 0)],[(2000,aG x4),(4,.cells 92 (f63z3 l9 l10))],[2000],0⟩ (an1 trivial) ?_;have hret:=Option.some.inj h;subst hret;refine AWp.ret ?_;exact bR _ rfl ⟨rfl,rfl⟩ rfl
abbrev f38z0 (r3:Ty4×Ty2):List V:=[vL 3 cH (default:Tq1) r3.1,vL 3 bW (default:Tq0) r3.2]
def f38 (x1:Nat) (x2:List Ty0):Option (Ty4×Ty2):=
 (f63 [] [] x1 x2).bind fun(r3:Ty4×Ty2)=>
 some (r3.1,r3.2)
theorem f38_ok (x1:Nat) (x2:List Ty0) (r:Ty4×Ty2) (h:f38 x1 x2=some r):aH Tryz.prog 38 [] [2000] [(2000,bL 9 1 eS [] x2)] [.osl 2000 1 0 x1] (.agg [vL 3 cH (default:Tq1) r.1,vL 3 bW (default:Tq0) r.2]) [(2000,bL 9 1 eS [] x2)]:=by
 unfold f38 at h;refine aH.bodyD [2] 0 _ _ Tryz.func38 rfl Tryz.ntmps38 rfl rfl ?_;refine bJ [] [] [0,2] [2,2000] trivial ?_;refine AWp.seq ?_;obtain⟨r3,hr3,h⟩:=bind_ok h;refine aZ [] [(2,⟨[.agg [aV [],aT []],.osl 2000 1 0 x1],[2000],[2000],[(2000,aG x2)],.agg (f38z0 r3),[],[2000],[]⟩)] ⟨6,[(2,.ptr 2 0)],[(2000,aG x2),(2,.cells 92 (f38z0 r3))],[2000],0⟩ (an2 (cpR (cpL (c:=true) [] [] [.agg [.nils,.nils],.osl 2000 1 0 x1] (fun _=>(f63_ok _ _ _ _ _ hr3)) (fun _=>⟨(.aggs ⟨.nilL,.nilL,trivial⟩),.refl _,trivial⟩) (.inl rfl)) [(2000,aG x2)]) trivial) ?_;refine tN ?_;have hret:=Option.some.inj h;subst hret;refine AWp.ret ?_;exact bR _ rfl ⟨rfl,rfl⟩ rfl
abbrev f39z0 (x1 x2:Int) (x3:List Tq0):List V:=[.int .i64 x1,.int .i64 x2,vL 3 bW (default:Tq0) x3]
def f39 (x1 x2:Int) (x3:List Tq0):Option (List UInt8×Int):=
 (f64 x1 x2 x3).bind fun(r4:Int)=>
 if(r4 !=(0:Int))then(
 some ([],r4)
 )else(
 (f65 x1 x2 x3).bind fun(r5:List UInt8)=>
 some (r5,(0:Int))
 )
theorem f39_ok (x1 x2:Int) (x3:List Tq0) (r:List UInt8×Int) (h:f39 x1 x2 x3=some r):aH Tryz.prog 39 [] [] [] [.agg [.int .i64 x1,.int .i64 x2,vL 3 bW (default:Tq0) x3]] (.tup [.str r.1,.int .i64 r.2]) []:=by
 unfold f39 at h;refine aH.body 0 _ _ Tryz.func39 rfl Tryz.ntmps39 rfl rfl ?_;refine bJ [] [] [1] [1] trivial ?_;refine AWp.seq (AWp.seq ?_);obtain⟨r4,hr4,h⟩:=bind_ok h;refine cA [] [(1,⟨[.agg (f39z0 x1 x2 x3)],[],[],[],.i r4,[],[],[]⟩)] [1,4] [1] (an1 (cpT (f64_ok _ _ _ _ hr4))) ?_;refine tN ?_;refine bJ [] [] [1,4,8] [1] trivial ?_;refine AWp.cond (b:=(r4 !=(0:Int))) (by kernel_rfl) (fun hc1=> ?_) (fun hc1=> ?_)
 ·
  replace h:=aE hc1 h;refine aU [] [] ⟨12,[(2,.str []),(3,.i r4)],[],[],0⟩ trivial ?_;have hret:=Option.some.inj h;subst hret;refine AWp.ret (tR ?_);exact bR _ rfl ⟨rfl,rfl⟩ rfl
 ·
  replace h:=aF hc1 h;refine AWp.skip (tN (AWp.seq ?_));obtain⟨r5,hr5,h⟩:=bind_ok h;refine aZ [] [(1,⟨[.agg (f39z0 x1 x2 x3)],[],[],[],.str r5,[],[],[]⟩)] ⟨12,[(2,.str r5),(3,.i (0:Int))],[],[],0⟩ (an1 (cpT (f65_ok _ _ _ _ hr5))) ?_;refine tN ?_;have hret:=Option.some.inj h;subst hret;refine AWp.ret ?_;exact bR _ rfl ⟨rfl,rfl⟩ rfl
abbrev vC :List V:=[.int .i64 (0:Int),.int .i64 (0:Int),.int .i64 (0:Int),.int .i64 (0:Int),.int .i64 (0:Int),.str [],.str [],.int .i64 (0:Int),.int .i64 (0:Int),.int .i64 (0:Int),.int .i64 (0:Int),.int .i64 (0:Int),.str [],.int .i64 (0:Int),.int .i64 (0:Int),.int .i64 (0:Int),.int .i64 (0:Int),.int .i64 (0:Int),.str [],.str [],.nils,.nils,.int .i64 (0:Int),.str [],.nils,.nils,.nils,.nils]
abbrev f40z1 (x1 x2 x3 x4 x5:Int) (x6 x7:List UInt8):aK:=[(2,.cells 51 [.int .i64 x1,.int .i64 x2,.int .i64 x3,.int .i64 x4,.int .i64 x5,.str x6,.str x7,.opq,.opq,.opq,.opq,.opq,.opq,.opq,.opq,.opq,.opq,.opq,.opq,.opq,.opq,.opq,.opq,.opq,.opq,.opq,.opq,.opq]),(4,.cells 51 (vC))]
abbrev xN :List (Nat×V):=[(2,.ptr 2 0),(4,.ptr 4 0)]
abbrev f40z3 (x1 x2 i9 i10 i11:Int) (s12 s13:List UInt8):List V:=[.int .i64 x1,.int .i64 x2,.int .i64 i9,.int .i64 i10,.int .i64 i11,.str s12,.str s13,.opq,.opq,.opq,.opq,.opq,.opq,.opq,.opq,.opq,.opq,.opq,.opq,.opq,.opq,.opq,.opq,.opq,.opq,.opq,.opq,.opq]
def f40 (x1 x2 x3 x4 x5:Int) (x6 x7:List UInt8) (x8:Int):Option Tq9:=
 jn (fun((i9,i10,i11,s12,s13):Int×Int×Int×List UInt8×List UInt8)=>
 some (x1,x2,i9,i10,i11,s12,s13)
 ) fun(K1:(Int×Int×Int×List UInt8×List UInt8)→Option Tq9)=>
 if(x8==(1:Int))then(
 chk (-9223372036854775808≤(x4+(1:Int))∧(x4+(1:Int))≤9223372036854775807)<|
 K1 (x3,(x4+(1:Int)),x5,x6,x7)
 )else(
 if(x8==(2:Int))then(
 chk (-9223372036854775808≤(x5+(1:Int))∧(x5+(1:Int))≤9223372036854775807)<|
 K1 (x3,x4,(x5+(1:Int)),x6,x7)
 )else(
 if(x8==(3:Int))then(
 chk (-9223372036854775808≤(x3+(1:Int))∧(x3+(1:Int))≤9223372036854775807)<|
 chk (0≤(x3+(1:Int))∧1≤(2:Int))<|
 K1 (((x3+(1:Int))%(2:Int)),x4,x5,x6,x7)
 )else(
 if(x8==(4:Int))then(
 chk (x7.length+([120]:List UInt8).length≤9223372036854775807)<|
 K1 (x3,x4,x5,x6,(x7++([120]:List UInt8)))
 )else(
 if(x8==(5:Int))then(
 (f39 (3:Int) (0:Int) []).bind fun(r14:List UInt8×Int)=>
 K1 (x3,x4,x5,r14.1,x7)
 )else(
 if(x8==(6:Int))then(
 K1 ((40:Int),x4,x5,x6,x7)
 )else(
 K1 (x3,x4,x5,x6,x7)
 )
 )
 )
 )
 )
 )
theorem f40_ok (x1 x2 x3 x4 x5:Int) (x6 x7:List UInt8) (x8:Int) (r:Tq9) (h:f40 x1 x2 x3 x4 x5 x6 x7 x8=some r):aH Tryz.prog 40 [] [] [] [.agg [.int .i64 x1,.int .i64 x2,.int .i64 x3,.int .i64 x4,.int .i64 x5,.str x6,.str x7,.opq,.opq,.opq,.opq,.opq,.opq,.opq,.opq,.opq,.opq,.opq,.opq,.opq,.opq,.opq,.opq,.opq,.opq,.opq,.opq,.opq],.int .u8 x8] (.agg [.int .i64 r.1,.int .i64 r.2.1,.int .i64 r.2.2.1,.int .i64 r.2.2.2.1,.int .i64 r.2.2.2.2.1,.str r.2.2.2.2.2.1,.str r.2.2.2.2.2.2,.opq,.opq,.opq,.opq,.opq,.opq,.opq,.opq,.opq,.opq,.opq,.opq,.opq,.opq,.opq,.opq,.opq,.opq,.opq,.opq,.opq]) []:=by
 unfold f40 at h;refine aH.bodyD [4] 0 _ _ Tryz.func40 rfl Tryz.ntmps40 rfl rfl ?_;refine aU [] [] ⟨43,[(1,.int .u8 x8),(2,.ptr 2 0),(4,.ptr 4 0)],(f40z1 x1 x2 x3 x4 x5 x6 x7),[],0⟩ trivial ?_;obtain⟨K1,hK1,h⟩:=aS h;refine AWp.join (fun(x:Int×Int×Int×List UInt8×List UInt8)=>match x with|(i9,i10,i11,s12,s13)=>⟨43,(xN),[(2,.cells 51 (f40z3 x1 x2 i9 i10 i11 s12 s13)),(4,.cells 51 (vC))],[],0⟩) (fun x=>K1 x=some r) ?_ ?_
 ·
  refine bJ [] [] [2,4,5] [2,4] trivial ?_;refine AWp.block ?_;refine bJ [] [] [2,4,5,6] [2,4] trivial ?_;refine AWp.cond (b:=(x8==(1:Int))) (by kernel_rfl) (fun hc1=> ?_) (fun hc1=> ?_)
  ·
   replace h:=aE hc1 h;obtain⟨ob0,h⟩:=aB h;refine aZ [] [] ⟨43,(xN),[(2,.cells 51 [.i x1,.i x2,.i x3,.i (x4+(1:Int)),.i x5,.str x6,.str x7,.opq,.opq,.opq,.opq,.opq,.opq,.opq,.opq,.opq,.opq,.opq,.opq,.opq,.opq,.opq,.opq,.opq,.opq,.opq,.opq,.opq]),(4,.cells 51 (vC))],[],0⟩ (an2 ob0 trivial) ?_;refine kN ?_;exact jN (x3,(x4+(1:Int)),x5,x6,x7) LR h
  ·
   replace h:=aF hc1 h;refine bJ [] [] [2,4,5,12] [2,4] trivial ?_;refine AWp.cond (b:=(x8==(2:Int))) (by kernel_rfl) (fun hc2=> ?_) (fun hc2=> ?_)
   ·
    replace h:=aE hc2 h;obtain⟨ob1,h⟩:=aB h;refine aZ [] [] ⟨43,(xN),[(2,.cells 51 [.i x1,.i x2,.i x3,.i x4,.i (x5+(1:Int)),.str x6,.str x7,.opq,.opq,.opq,.opq,.opq,.opq,.opq,.opq,.opq,.opq,.opq,.opq,.opq,.opq,.opq,.opq,.opq,.opq,.opq,.opq,.opq]),(4,.cells 51 (vC))],[],0⟩ (an2 ob1 trivial) ?_;refine kN ?_;exact jN (x3,x4,(x5+(1:Int)),x6,x7) LR h
   ·
    replace h:=aF hc2 h;refine bJ [] [] [2,4,5,18] [2,4] trivial ?_;refine AWp.cond (b:=(x8==(3:Int))) (by kernel_rfl) (fun hc3=> ?_) (fun hc3=> ?_)
    ·
     replace h:=aE hc3 h;obtain⟨ob2,ob3,h⟩:=ck2 h;refine aZ [] [] ⟨43,(xN),[(2,.cells 51 [.i x1,.i x2,.i ((x3+(1:Int))%(2:Int)),.i x4,.i x5,.str x6,.str x7,.opq,.opq,.opq,.opq,.opq,.opq,.opq,.opq,.opq,.opq,.opq,.opq,.opq,.opq,.opq,.opq,.opq,.opq,.opq,.opq,.opq]),(4,.cells 51 (vC))],[],0⟩ (an3 ob2 ob3 trivial) ?_;refine kN ?_;exact jN (((x3+(1:Int))%(2:Int)),x4,x5,x6,x7) LR h
    ·
     replace h:=aF hc3 h;refine bJ [] [] [2,4,5,25] [2,4] trivial ?_;refine AWp.cond (b:=(x8==(4:Int))) (by kernel_rfl) (fun hc4=> ?_) (fun hc4=> ?_)
     ·
      replace h:=aE hc4 h;obtain⟨ob4,h⟩:=aB h;refine aZ [] [] ⟨43,(xN),[(2,.cells 51 [.i x1,.i x2,.i x3,.i x4,.i x5,.str x6,.str (x7++([120]:List UInt8)),.opq,.opq,.opq,.opq,.opq,.opq,.opq,.opq,.opq,.opq,.opq,.opq,.opq,.opq,.opq,.opq,.opq,.opq,.opq,.opq,.opq]),(4,.cells 51 (vC))],[],0⟩ (an2 ob4 trivial) ?_;refine kN ?_;exact jN (x3,x4,x5,x6,(x7++([120]:List UInt8))) LR h
     ·
      replace h:=aF hc4 h;refine bJ [] [] [2,4,5,31] [2,4] trivial ?_;refine AWp.cond (b:=(x8==(5:Int))) (by kernel_rfl) (fun hc5=> ?_) (fun hc5=> ?_)
      ·
       replace h:=aE hc5 h;obtain⟨r14,hr14,h⟩:=bind_ok h;refine aZ [] [(1,⟨[.agg [.i (3:Int),.i (0:Int),aT []]],[],[],[],.tup [.str r14.1,.i r14.2],[],[],[]⟩)] ⟨43,(xN),[(2,.cells 51 [.i x1,.i x2,.i x3,.i x4,.i x5,.str r14.1,.str x7,.opq,.opq,.opq,.opq,.opq,.opq,.opq,.opq,.opq,.opq,.opq,.opq,.opq,.opq,.opq,.opq,.opq,.opq,.opq,.opq,.opq]),(4,.cells 51 (vC))],[],0⟩ (an2 (cpL (c:=true) [] [] [.agg [.i (3:Int),.i (0:Int),.nils]] (fun _=>(f39_ok _ _ _ _ hr14)) (fun _=>⟨(.aggs ⟨.refl _,.refl _,.nilL,trivial⟩),trivial⟩) (.inl rfl)) trivial) ?_;refine kN ?_;exact jN (x3,x4,x5,r14.1,x7) LR h
      ·
       replace h:=aF hc5 h;refine aU [] [] ⟨43,[(2,.ptr 2 0),(4,.ptr 4 0),(39,.bool (x8==(6:Int)))],(f40z1 x1 x2 x3 x4 x5 x6 x7),[],0⟩ trivial ?_;refine AWp.cond (b:=(x8==(6:Int))) (by kernel_rfl) (fun hc6=> ?_) (fun hc6=> ?_)
       ·
        replace h:=aE hc6 h;refine aZ [] [] ⟨43,(xN),[(2,.cells 51 [.i x1,.i x2,.i (40:Int),.i x4,.i x5,.str x6,.str x7,.opq,.opq,.opq,.opq,.opq,.opq,.opq,.opq,.opq,.opq,.opq,.opq,.opq,.opq,.opq,.opq,.opq,.opq,.opq,.opq,.opq]),(4,.cells 51 (vC))],[],0⟩ (an1 trivial) ?_;refine kN ?_;exact jN ((40:Int),x4,x5,x6,x7) LR h
       ·
        replace h:=aF hc6 h;refine AWp.skip (kN ?_);exact jN (x3,x4,x5,x6,x7) LR h
 ·
  rintro⟨i9,i10,i11,s12,s13⟩ h;replace h:=(congrFun hK1 _).symm.trans h;refine aU [] [] ⟨43,[(4,.ptr 4 0)],[(4,.cells 51 (f40z3 x1 x2 i9 i10 i11 s12 s13))],[],0⟩ (an1 trivial) ?_;have hret:=Option.some.inj h;subst hret;refine AWp.ret ?_;exact bR _ rfl ⟨rfl,rfl⟩ rfl
def gD (x1:List Tq3) (n2:Nat) (l3:List Int) (n19:Nat) (K3:(Nat×List UInt8)→Option (List Y51)) (r24:Ty4×Ty2×Ty2):Nat→(Nat×Nat×List UInt8)→Option (List Y51)
 |0,_=>none
 |k+1,(n25,n26,s27)=>
  if(decide ((n25:Int)<(((r24.2.2).length:Nat):Int)))then(
  jn (fun((n28,s29):Nat×List UInt8)=>
  chk (((n25:Int)+(1:Int))≤9223372036854775807)<|
  (gD x1 n2 l3 n19 K3 r24 k) ((n25+1),n28,s29)
  ) fun(K4:(Nat×List UInt8)→Option (List Y51))=>
  chk ((n25:Int)<(((r24.2.2).length:Nat):Int))<|
  chk (n25<(r24.2.2).length)<|
  chk ((((r24.2.2.getD n25 (default:Tq0)).1==(((x1.getD n2 (default:Tq3)).2.1%(4:Int))%(2:Int)))==true)=true→0≤(n25:Int)∧(n25:Int)<(((r24.2.2).length:Nat):Int))<|
  chk ((((r24.2.2.getD n25 (default:Tq0)).1==(((x1.getD n2 (default:Tq3)).2.1%(4:Int))%(2:Int)))==true)=true→n25<(r24.2.2).length)<|
  if(((r24.2.2.getD n25 (default:Tq0)).1==(((x1.getD n2 (default:Tq3)).2.1%(4:Int))%(2:Int)))&&((r24.2.2.getD n25 (default:Tq0)).2.1==((1:Int)+((x1.getD n2 (default:Tq3)).2.2.1%(max (1:Int) (l3.getD (((((x1.getD n2 (default:Tq3)).2.1%(4:Int))%(2:Int))).toNat) 0))))))then(
  chk ((n25:Int)<(((r24.2.2).length:Nat):Int))<|
  chk (n25<(r24.2.2).length)<|
  K4 (n19,(r24.2.2.getD n25 (default:Tq0)).2.2)
  )else(
  K4 (n26,s27)
  )
  )else(
  K3 (n26,s27)
  )
def kY (x1:List Tq3) (n2:Nat) (l3:List Int) (l4:List Tq0) (l5:List Int) (K2:(Nat×Int×Int×Int×List UInt8×List UInt8×List Int×Ty2×List Int×List Ty0)→Option (List Y51)):Nat→(Nat×Nat×List UInt8×List Ty0)→Option (List Y51)
 |0,_=>none
 |k+1,(n19,n20,s21,l22)=>
  chk (-9223372036854775808≤((2:Int)+(((x1.getD n2 (default:Tq3)).2.1%(4:Int))%(2:Int)))∧((2:Int)+(((x1.getD n2 (default:Tq3)).2.1%(4:Int))%(2:Int)))≤9223372036854775807)<|
  chk (0≤((2:Int)+(((x1.getD n2 (default:Tq3)).2.1%(4:Int))%(2:Int)))∧((2:Int)+(((x1.getD n2 (default:Tq3)).2.1%(4:Int))%(2:Int)))<(((l5).length:Nat):Int))<|
  chk (((((2:Int)+(((x1.getD n2 (default:Tq3)).2.1%(4:Int))%(2:Int)))).toNat)<(l5).length)<|
  if(decide ((n19:Int)<(l5.getD ((((2:Int)+(((x1.getD n2 (default:Tq3)).2.1%(4:Int))%(2:Int)))).toNat) 0)))then(
  jn (fun((n30,s31):Nat×List UInt8)=>
  chk (((n19:Int)+(1:Int))≤9223372036854775807)<|
  (kY x1 n2 l3 l4 l5 K2 k) ((n19+1),n30,s31,l22)
  ) fun(K3:(Nat×List UInt8)→Option (List Y51))=>
  (f38 n19 l22).bind fun(r23:Ty4×Ty2)=>
  (f37 r23.1 r23.2 (l22.getD n19 [])).bind fun(r24:Ty4×Ty2×Ty2)=>
  chk ((n19:Int)≤(((l22).length:Nat):Int))<|
  chk ((n19:Int)<(((l22).length:Nat):Int))<|
  chk (n19<(l22).length)<|
  gD x1 n2 l3 n19 K3 r24 bG (0,n20,s21)
  )else(
  K2 (2,(((x1.getD n2 (default:Tq3)).2.1%(4:Int))%(2:Int)),(n20:Int),((1:Int)+((x1.getD n2 (default:Tq3)).2.2.1%(max (1:Int) (l3.getD (((((x1.getD n2 (default:Tq3)).2.1%(4:Int))%(2:Int))).toNat) 0)))),[],s21,l3,l4,l5,l22)
  )
def eN (x1:List Tq3) (K1:(List Y51)→Option (List Y51)):Nat→(Nat×List Int×Ty2×List Int×List Y51×List Ty0)→Option (List Y51)
 |0,_=>none
 |k+1,(n2,l3,l4,l5,l6,l7)=>
  if((decide ((n2:Int)<(((x1).length:Nat):Int)))&&(decide ((n2:Int)<(50:Int))))then(
  chk ((n2:Int)<(((x1).length:Nat):Int))<|
  chk (0≤(x1.getD n2 (default:Tq3)).2.1∧1≤(4:Int))<|
  chk (-9223372036854775808≤((x1.getD n2 (default:Tq3)).2.1%(4:Int))∧((x1.getD n2 (default:Tq3)).2.1%(4:Int))≤9223372036854775807)<|
  jn (fun((n9,i10,i11,i12,s13,s14,l15,l16,l17,l18):Nat×Int×Int×Int×List UInt8×List UInt8×List Int×Ty2×List Int×List Ty0)=>
  (f40 (n2:Int) (n9:Int) i10 i11 i12 s13 s14 ((x1.getD n2 (default:Tq3)).2.2.2)).bind fun(r41:Tq9)=>
  chk (((l6).length+1) *368≤140737488355328)<|
  chk (((n2:Int)+(1:Int))≤9223372036854775807)<|
  (eN x1 K1 k) ((n2+1),l15,l16,l17,(l6++[((r41.1,r41.2.1,r41.2.2.1,r41.2.2.2.1,r41.2.2.2.2.1,r41.2.2.2.2.2.1,r41.2.2.2.2.2.2):Y51)]),l18)
  ) fun(K2:(Nat×Int×Int×Int×List UInt8×List UInt8×List Int×Ty2×List Int×List Ty0)→Option (List Y51))=>
  chk (0≤(x1.getD n2 (default:Tq3)).1∧1≤(5:Int))<|
  if(((x1.getD n2 (default:Tq3)).1%(5:Int))==(0:Int))then(
  chk (0≤((x1.getD n2 (default:Tq3)).2.1%(4:Int))∧1≤(2:Int))<|
  chk (0≤(((x1.getD n2 (default:Tq3)).2.1%(4:Int))%(2:Int))∧(((x1.getD n2 (default:Tq3)).2.1%(4:Int))%(2:Int))<(((l3).length:Nat):Int))<|
  chk ((((((x1.getD n2 (default:Tq3)).2.1%(4:Int))%(2:Int))).toNat)<(l3).length)<|
  chk (-9223372036854775808≤((l3.getD (((((x1.getD n2 (default:Tq3)).2.1%(4:Int))%(2:Int))).toNat) 0)+(1:Int))∧((l3.getD (((((x1.getD n2 (default:Tq3)).2.1%(4:Int))%(2:Int))).toNat) 0)+(1:Int))≤9223372036854775807)<|
  chk (0≤(((x1.getD n2 (default:Tq3)).2.1%(4:Int))%(2:Int))∧(((x1.getD n2 (default:Tq3)).2.1%(4:Int))%(2:Int))<(((l3).length:Nat):Int))<|
  chk ((((((x1.getD n2 (default:Tq3)).2.1%(4:Int))%(2:Int))).toNat)<(l3).length)<|
  (f36 ((x1.getD n2 (default:Tq3)).2.2.1)).bind fun(r8:List UInt8)=>
  chk (0≤(((x1.getD n2 (default:Tq3)).2.1%(4:Int))%(2:Int))∧(((x1.getD n2 (default:Tq3)).2.1%(4:Int))%(2:Int))<((((l3.set (((((x1.getD n2 (default:Tq3)).2.1%(4:Int))%(2:Int))).toNat) ((l3.getD (((((x1.getD n2 (default:Tq3)).2.1%(4:Int))%(2:Int))).toNat) 0)+(1:Int)))).length:Nat):Int))<|
  chk ((((((x1.getD n2 (default:Tq3)).2.1%(4:Int))%(2:Int))).toNat)<((l3.set (((((x1.getD n2 (default:Tq3)).2.1%(4:Int))%(2:Int))).toNat) ((l3.getD (((((x1.getD n2 (default:Tq3)).2.1%(4:Int))%(2:Int))).toNat) 0)+(1:Int)))).length)<|
  chk (-9223372036854775808≤(x1.getD n2 (default:Tq3)).2.2.1∧(x1.getD n2 (default:Tq3)).2.2.1≤9223372036854775807)<|
  chk (0≤(((x1.getD n2 (default:Tq3)).2.1%(4:Int))%(2:Int))∧(((x1.getD n2 (default:Tq3)).2.1%(4:Int))%(2:Int))<((((l3.set (((((x1.getD n2 (default:Tq3)).2.1%(4:Int))%(2:Int))).toNat) ((l3.getD (((((x1.getD n2 (default:Tq3)).2.1%(4:Int))%(2:Int))).toNat) 0)+(1:Int)))).length:Nat):Int))<|
  chk ((((((x1.getD n2 (default:Tq3)).2.1%(4:Int))%(2:Int))).toNat)<((l3.set (((((x1.getD n2 (default:Tq3)).2.1%(4:Int))%(2:Int))).toNat) ((l3.getD (((((x1.getD n2 (default:Tq3)).2.1%(4:Int))%(2:Int))).toNat) 0)+(1:Int)))).length)<|
  chk (((l4).length+1) *32≤140737488355328)<|
  K2 (1,(((x1.getD n2 (default:Tq3)).2.1%(4:Int))%(2:Int)),(0:Int),((l3.set (((((x1.getD n2 (default:Tq3)).2.1%(4:Int))%(2:Int))).toNat) ((l3.getD (((((x1.getD n2 (default:Tq3)).2.1%(4:Int))%(2:Int))).toNat) 0)+(1:Int))).getD (((((x1.getD n2 (default:Tq3)).2.1%(4:Int))%(2:Int))).toNat) 0),r8,[],(l3.set (((((x1.getD n2 (default:Tq3)).2.1%(4:Int))%(2:Int))).toNat) ((l3.getD (((((x1.getD n2 (default:Tq3)).2.1%(4:Int))%(2:Int))).toNat) 0)+(1:Int))),(l4++[((((x1.getD n2 (default:Tq3)).2.1%(4:Int))%(2:Int)),((l3.set (((((x1.getD n2 (default:Tq3)).2.1%(4:Int))%(2:Int))).toNat) ((l3.getD (((((x1.getD n2 (default:Tq3)).2.1%(4:Int))%(2:Int))).toNat) 0)+(1:Int))).getD (((((x1.getD n2 (default:Tq3)).2.1%(4:Int))%(2:Int))).toNat) 0),r8)]),l5,l7)
  )else(
  if(((x1.getD n2 (default:Tq3)).1%(5:Int))==(4:Int))then(
  chk (0≤((x1.getD n2 (default:Tq3)).2.1%(4:Int))∧1≤(2:Int))<|
  chk (-9223372036854775808≤(x1.getD n2 (default:Tq3)).2.2.1∧(x1.getD n2 (default:Tq3)).2.2.1≤9223372036854775807)<|
  chk (0≤(((x1.getD n2 (default:Tq3)).2.1%(4:Int))%(2:Int))∧(((x1.getD n2 (default:Tq3)).2.1%(4:Int))%(2:Int))<(((l3).length:Nat):Int))<|
  chk ((((((x1.getD n2 (default:Tq3)).2.1%(4:Int))%(2:Int))).toNat)<(l3).length)<|
  chk (0≤(x1.getD n2 (default:Tq3)).2.2.1∧1≤(max (1:Int) (l3.getD (((((x1.getD n2 (default:Tq3)).2.1%(4:Int))%(2:Int))).toNat) 0)))<|
  chk (-9223372036854775808≤((1:Int)+((x1.getD n2 (default:Tq3)).2.2.1%(max (1:Int) (l3.getD (((((x1.getD n2 (default:Tq3)).2.1%(4:Int))%(2:Int))).toNat) 0))))∧((1:Int)+((x1.getD n2 (default:Tq3)).2.2.1%(max (1:Int) (l3.getD (((((x1.getD n2 (default:Tq3)).2.1%(4:Int))%(2:Int))).toNat) 0))))≤9223372036854775807)<|
  kY x1 n2 l3 l4 l5 K2 bG (0,0,[],l7)
  )else(
  jn (fun((l37,l38):Ty2×List Ty0)=>
  chk (0≤((x1.getD n2 (default:Tq3)).2.1%(4:Int))∧((x1.getD n2 (default:Tq3)).2.1%(4:Int))<(((l5).length:Nat):Int))<|
  chk (((((x1.getD n2 (default:Tq3)).2.1%(4:Int))).toNat)<(l5).length)<|
  chk (0≤((x1.getD n2 (default:Tq3)).2.1%(4:Int))∧((x1.getD n2 (default:Tq3)).2.1%(4:Int))<(((l5).length:Nat):Int))<|
  chk (((((x1.getD n2 (default:Tq3)).2.1%(4:Int))).toNat)<(l5).length)<|
  chk (0≤(l5.getD ((((x1.getD n2 (default:Tq3)).2.1%(4:Int))).toNat) 0)∧(l5.getD ((((x1.getD n2 (default:Tq3)).2.1%(4:Int))).toNat) 0)<(((l38).length:Nat):Int))<|
  chk ((((l5.getD ((((x1.getD n2 (default:Tq3)).2.1%(4:Int))).toNat) 0)).toNat)<(l38).length)<|
  jn (fun((n39,i40):Nat×Int)=>
  chk (0≤((x1.getD n2 (default:Tq3)).2.1%(4:Int))∧((x1.getD n2 (default:Tq3)).2.1%(4:Int))<(((l5).length:Nat):Int))<|
  chk (((((x1.getD n2 (default:Tq3)).2.1%(4:Int))).toNat)<(l5).length)<|
  chk (-9223372036854775808≤((l5.getD ((((x1.getD n2 (default:Tq3)).2.1%(4:Int))).toNat) 0)+(1:Int))∧((l5.getD ((((x1.getD n2 (default:Tq3)).2.1%(4:Int))).toNat) 0)+(1:Int))≤9223372036854775807)<|
  chk (0≤((x1.getD n2 (default:Tq3)).2.1%(4:Int))∧((x1.getD n2 (default:Tq3)).2.1%(4:Int))<(((l5).length:Nat):Int))<|
  chk (((((x1.getD n2 (default:Tq3)).2.1%(4:Int))).toNat)<(l5).length)<|
  K2 (n39,i40,(l5.getD ((((x1.getD n2 (default:Tq3)).2.1%(4:Int))).toNat) 0),(0:Int),(l38.getD (((l5.getD ((((x1.getD n2 (default:Tq3)).2.1%(4:Int))).toNat) 0)).toNat) []),[],l3,l37,(l5.set ((((x1.getD n2 (default:Tq3)).2.1%(4:Int))).toNat) ((l5.getD ((((x1.getD n2 (default:Tq3)).2.1%(4:Int))).toNat) 0)+(1:Int))),l38)
  ) fun(K7:(Nat×Int)→Option (List Y51))=>
  if(decide (((x1.getD n2 (default:Tq3)).2.1%(4:Int))≥(2:Int)))then(
  chk (-9223372036854775808≤(((x1.getD n2 (default:Tq3)).2.1%(4:Int))-(2:Int))∧(((x1.getD n2 (default:Tq3)).2.1%(4:Int))-(2:Int))≤9223372036854775807)<|
  K7 (3,(((x1.getD n2 (default:Tq3)).2.1%(4:Int))-(2:Int)))
  )else(
  K7 (4,((x1.getD n2 (default:Tq3)).2.1%(4:Int)))
  )
  ) fun(K5:(Ty2×List Ty0)→Option (List Y51))=>
  chk (0≤((x1.getD n2 (default:Tq3)).2.1%(4:Int))∧((x1.getD n2 (default:Tq3)).2.1%(4:Int))<(((l5).length:Nat):Int))<|
  chk (((((x1.getD n2 (default:Tq3)).2.1%(4:Int))).toNat)<(l5).length)<|
  if((l5.getD ((((x1.getD n2 (default:Tq3)).2.1%(4:Int))).toNat) 0)==(((l7).length:Nat):Int))then(
  jn (fun((n32,n33,l34,l35):Nat×Nat×Ty2×Ty2)=>
  (f39 (n32:Int) (n33:Int) l35).bind fun(r36:List UInt8×Int)=>
  chk (((l7).length+1) *16≤140737488355328)<|
  K5 (l34,(l7++[r36.1]))
  ) fun(K6:(Nat×Nat×Ty2×Ty2)→Option (List Y51))=>
  chk (0≤(x1.getD n2 (default:Tq3)).2.2.1∧1≤(4:Int))<|
  if(((x1.getD n2 (default:Tq3)).2.2.1%(4:Int))==(3:Int))then(
  K6 (2,1,l4,[])
  )else(
  if(decide ((((l4).length:Nat):Int)>(0:Int)))then(
  chk ((0:Int)<(((l4).length:Nat):Int))<|
  chk (0<(l4).length)<|
  chk ((1:Int)≤(((l4).length:Nat):Int))<|
  chk ((0+((l4).length-1)) *32≤140737488355328)<|
  K6 (1,0,([]++(l4.drop 1)),[((l4.getD 0 (default:Tq0)).1,(l4.getD 0 (default:Tq0)).2.1,(l4.getD 0 (default:Tq0)).2.2)])
  )else(
  K6 (1,0,l4,[])
  )
  )
  )else(
  K5 (l4,l7)
  )
  )
  )
  )else(
  K1 l6
  )
abbrev aX (x1:List Tq3) (n2:Nat):=(x1.getD n2 (default:Tq3))
abbrev fI (n2:Nat):List V:=[.int .i64 (n2:Int),.int .i64 (0:Int),.int .i64 (0:Int),.int .i64 (0:Int),.int .i64 (0:Int),.str [],.str [],.int .i64 (0:Int),.int .i64 (0:Int),.int .i64 (0:Int),.int .i64 (0:Int),.int .i64 (0:Int),.str [],.int .i64 (0:Int),.int .i64 (0:Int),.int .i64 (0:Int),.int .i64 (0:Int),.int .i64 (0:Int),.str [],.str [],.nils,.nils,.int .i64 (0:Int),.str [],.nils,.nils,.nils,.nils]
abbrev cN (x1:List Tq3) (n2:Nat):List V:=[.int .u8 (aX x1 n2).1,.int .u8 (aX x1 n2).2.1,.int .u8 (aX x1 n2).2.2.1,.int .u8 (aX x1 n2).2.2.2]
abbrev vK (x1:List Tq3) (n2:Nat):List (Nat×V):=[(0,vL 4 cO (default:Tq3) x1),(3,.own 5003),(4,.own 5004),(5,.own 21),(6,.own 22),(7,.own 23),(8,.int .i64 (n2:Int)),(9,.ptr 9 0),(10,.int .i64 ((aX x1 n2).2.1%(4:Int))),(11,.ptr 11 0),(18,.ptr 18 0)]
abbrev f12z4 (n2:Nat) (x1:List Tq3) (n20:Nat) (l3:List Int) (s21:List UInt8):List V:=[.int .i64 (n2:Int),.int .i64 (2:Int),.int .i64 (((aX x1 n2).2.1%(4:Int))%(2:Int)),.int .i64 (n20:Int),.int .i64 ((1:Int)+((aX x1 n2).2.2.1%(max (1:Int) (l3.getD (((((aX x1 n2).2.1%(4:Int))%(2:Int))).toNat) 0)))),.str [],.str s21,.int .i64 (0:Int),.int .i64 (0:Int),.int .i64 (0:Int),.int .i64 (0:Int),.int .i64 (0:Int),.str [],.int .i64 (0:Int),.int .i64 (0:Int),.int .i64 (0:Int),.int .i64 (0:Int),.int .i64 (0:Int),.str [],.str [],.nils,.nils,.int .i64 (0:Int),.str [],.nils,.nils,.nils,.nils]
abbrev f12z5 (n2 n39:Nat) (i40:Int) (l5:List Int) (x1:List Tq3) (l38:List Ty0):List V:=[.int .i64 (n2:Int),.int .i64 (n39:Int),.int .i64 i40,.int .i64 (l5.getD ((((aX x1 n2).2.1%(4:Int))).toNat) 0),.int .i64 (0:Int),.str (l38.getD (((l5.getD ((((aX x1 n2).2.1%(4:Int))).toNat) 0)).toNat) []),.str [],.int .i64 (0:Int),.int .i64 (0:Int),.int .i64 (0:Int),.int .i64 (0:Int),.int .i64 (0:Int),.str [],.int .i64 (0:Int),.int .i64 (0:Int),.int .i64 (0:Int),.int .i64 (0:Int),.int .i64 (0:Int),.str [],.str [],.nils,.nils,.int .i64 (0:Int),.str [],.nils,.nils,.nils,.nils]
abbrev f12z6 (n2:Nat) (x1:List Tq3) (n26:Nat) (l3:List Int) (s27:List UInt8):List V:=[.int .i64 (n2:Int),.int .i64 (2:Int),.int .i64 (((aX x1 n2).2.1%(4:Int))%(2:Int)),.int .i64 (n26:Int),.int .i64 ((1:Int)+((aX x1 n2).2.2.1%(max (1:Int) (l3.getD (((((aX x1 n2).2.1%(4:Int))%(2:Int))).toNat) 0)))),.str [],.str s27,.int .i64 (0:Int),.int .i64 (0:Int),.int .i64 (0:Int),.int .i64 (0:Int),.int .i64 (0:Int),.str [],.int .i64 (0:Int),.int .i64 (0:Int),.int .i64 (0:Int),.int .i64 (0:Int),.int .i64 (0:Int),.str [],.str [],.nils,.nils,.int .i64 (0:Int),.str [],.nils,.nils,.nils,.nils]
abbrev f12z7 (x1:List Tq3) (n2:Nat):List (Nat×V):=[(0,vL 4 cO (default:Tq3) x1),(3,.own 5003),(4,.own 80),(5,.own 21),(6,.own 22),(7,.own 23),(8,.int .i64 (n2:Int)),(9,.ptr 9 0),(10,.int .i64 ((aX x1 n2).2.1%(4:Int))),(11,.ptr 11 0)]
abbrev eG (l4:List Tq0):=(l4.getD 0 (default:Tq0))
abbrev f12z9 (x1:List Tq3) (n2 n19 n25:Nat):List (Nat×V):=[(0,vL 4 cO (default:Tq3) x1),(3,.own 5003),(4,.own 5004),(5,.own 21),(6,.own 22),(7,.own 23),(8,.int .i64 (n2:Int)),(9,.ptr 9 0),(11,.ptr 11 0),(13,.int .i64 (((aX x1 n2).2.1%(4:Int))%(2:Int))),(14,.int .i64 (n19:Int)),(16,.own 6001),(17,.int .i64 (n25:Int))]
abbrev f12z10 (n2:Nat) (x1:List Tq3) (l3:List Int):List V:=[.int .i64 (n2:Int),.int .i64 (2:Int),.int .i64 (((aX x1 n2).2.1%(4:Int))%(2:Int)),.int .i64 (0:Int),.int .i64 ((1:Int)+((aX x1 n2).2.2.1%(max (1:Int) (l3.getD (((((aX x1 n2).2.1%(4:Int))%(2:Int))).toNat) 0)))),.str [],.str [],.int .i64 (0:Int),.int .i64 (0:Int),.int .i64 (0:Int),.int .i64 (0:Int),.int .i64 (0:Int),.str [],.int .i64 (0:Int),.int .i64 (0:Int),.int .i64 (0:Int),.int .i64 (0:Int),.int .i64 (0:Int),.str [],.str [],.nils,.nils,.int .i64 (0:Int),.str [],.nils,.nils,.nils,.nils]
abbrev aAi (x1:List Tq3) (n2:Nat):List (Nat×V):=[(0,vL 4 cO (default:Tq3) x1),(3,.own 5003),(4,.own 5004),(5,.own 21),(6,.own 22),(7,.own 23),(8,.int .i64 (n2:Int)),(9,.ptr 9 0),(11,.ptr 11 0)]
abbrev f12z12 (n2:Nat) (x1:List Tq3) (n30:Nat) (l3:List Int) (s31:List UInt8):List V:=[.int .i64 (n2:Int),.int .i64 (2:Int),.int .i64 (((aX x1 n2).2.1%(4:Int))%(2:Int)),.int .i64 (n30:Int),.int .i64 ((1:Int)+((aX x1 n2).2.2.1%(max (1:Int) (l3.getD (((((aX x1 n2).2.1%(4:Int))%(2:Int))).toNat) 0)))),.str [],.str s31,.int .i64 (0:Int),.int .i64 (0:Int),.int .i64 (0:Int),.int .i64 (0:Int),.int .i64 (0:Int),.str [],.int .i64 (0:Int),.int .i64 (0:Int),.int .i64 (0:Int),.int .i64 (0:Int),.int .i64 (0:Int),.str [],.str [],.nils,.nils,.int .i64 (0:Int),.str [],.nils,.nils,.nils,.nils]
abbrev f12z13 (n2:Nat) (x1:List Tq3) (n28:Nat) (l3:List Int) (s29:List UInt8):List V:=[.int .i64 (n2:Int),.int .i64 (2:Int),.int .i64 (((aX x1 n2).2.1%(4:Int))%(2:Int)),.int .i64 (n28:Int),.int .i64 ((1:Int)+((aX x1 n2).2.2.1%(max (1:Int) (l3.getD (((((aX x1 n2).2.1%(4:Int))%(2:Int))).toNat) 0)))),.str [],.str s29,.int .i64 (0:Int),.int .i64 (0:Int),.int .i64 (0:Int),.int .i64 (0:Int),.int .i64 (0:Int),.str [],.int .i64 (0:Int),.int .i64 (0:Int),.int .i64 (0:Int),.int .i64 (0:Int),.int .i64 (0:Int),.str [],.str [],.nils,.nils,.int .i64 (0:Int),.str [],.nils,.nils,.nils,.nils]
abbrev f12z14 (n2:Nat) (x1:List Tq3) (l5:List Int) (l38:List Ty0):List V:=[.int .i64 (n2:Int),.int .i64 (4:Int),.int .i64 ((aX x1 n2).2.1%(4:Int)),.int .i64 (l5.getD ((((aX x1 n2).2.1%(4:Int))).toNat) 0),.int .i64 (0:Int),.str (l38.getD (((l5.getD ((((aX x1 n2).2.1%(4:Int))).toNat) 0)).toNat) []),.str [],.int .i64 (0:Int),.int .i64 (0:Int),.int .i64 (0:Int),.int .i64 (0:Int),.int .i64 (0:Int),.str [],.int .i64 (0:Int),.int .i64 (0:Int),.int .i64 (0:Int),.int .i64 (0:Int),.int .i64 (0:Int),.str [],.str [],.nils,.nils,.int .i64 (0:Int),.str [],.nils,.nils,.nils,.nils]
abbrev f12z15 (x1:List Tq3) (n2:Nat):List (Nat×V):=[(0,vL 4 cO (default:Tq3) x1),(3,.own 5003),(4,.own 5004),(5,.own 21),(6,.own 22),(7,.own 23),(8,.int .i64 (n2:Int)),(9,.ptr 9 0),(11,.ptr 11 0),(12,.int .i64 (((aX x1 n2).2.1%(4:Int))%(2:Int)))]
abbrev fO (r24:Ty4×Ty2×Ty2) (n25:Nat):=(r24.2.2.getD n25 (default:Tq0))
abbrev f12z17 (x1:List Tq3) (n2:Nat):List (Nat×V):=[(0,vL 4 cO (default:Tq3) x1),(3,.own 5003),(4,.own 5004),(5,.own 21),(6,.own 22),(7,.own 23),(8,.int .i64 (n2:Int)),(9,.ptr 9 0),(10,.int .i64 ((aX x1 n2).2.1%(4:Int))),(11,.ptr 11 0)]
abbrev f12z18 (x1:List Tq3) (n2:Nat) (l4:List Tq0):List (Nat×V):=[(0,vL 4 cO (default:Tq3) x1),(3,.own 5003),(4,.own 5004),(5,.own 21),(6,.own 22),(7,.own 23),(8,.int .i64 (n2:Int)),(9,.ptr 9 0),(10,.int .i64 ((aX x1 n2).2.1%(4:Int))),(11,.ptr 11 0),(18,.ptr 18 0),(62,.bool (decide ((((l4).length:Nat):Int)>(0:Int))))]
abbrev f12z19 (x1:List Tq3) (n2 n19:Nat):List (Nat×V):=[(0,vL 4 cO (default:Tq3) x1),(3,.own 5003),(4,.own 5004),(5,.own 21),(6,.own 22),(7,.own 23),(8,.int .i64 (n2:Int)),(9,.ptr 9 0),(11,.ptr 11 0),(13,.int .i64 (((aX x1 n2).2.1%(4:Int))%(2:Int))),(14,.int .i64 (n19:Int))]
abbrev f12z20 (x1:List Tq3) (n2:Nat):List (Nat×V):=[(0,vL 4 cO (default:Tq3) x1),(3,.own 5003),(4,.own 5004),(5,.own 21),(6,.own 68),(7,.own 23),(8,.int .i64 (n2:Int)),(9,.ptr 9 0),(10,.int .i64 ((aX x1 n2).2.1%(4:Int))),(11,.ptr 11 0),(18,.ptr 18 0)]
abbrev qS :List V:=[.int .i64 (1:Int),.int .i64 (0:Int),.own 66]
abbrev f12z22 (x1:List Tq3) (n2:Nat):List (Nat×V):=[(0,vL 4 cO (default:Tq3) x1),(3,.own 5003),(4,.own 80),(5,.own 21),(6,.own 22),(7,.own 23),(8,.int .i64 (n2:Int)),(9,.ptr 9 0),(11,.ptr 11 0)]
abbrev f12z23 :aK:=[(21,bL 3 1 eI 0 [(0:Int),(0:Int)]),(22,bL 88 3 bW (default:Tq0) []),(23,bL 3 1 eI 0 (List.replicate 4 ((0:Int):Int)))]
abbrev f12z24 (x1:List Tq3) (n2:Nat):List (Nat×V):=[(0,vL 4 cO (default:Tq3) x1),(3,.own 5003),(4,.own 5004),(5,.own 21),(6,.own 22),(7,.own 23),(8,.int .i64 (n2:Int))]
abbrev vN :=Ty2
abbrev f12z26 :List V:=[.int .i64 (1:Int),.int .i64 (0:Int),.own 7302]
abbrev f12z27 :List V:=[.int .i64 (1:Int),.int .i64 (0:Int),.nils]
abbrev aAh :=(List.replicate 4 ((0:Int):Int))
def f12 (x1:List Tq3):Option (List Y51):=
 jn (fun(l42:List Y51)=>
 some l42
 ) fun(K1:(List Y51)→Option (List Y51))=>
 eN x1 K1 bG (0,[(0:Int),(0:Int)],[],(List.replicate 4 ((0:Int):Int)),[],[])
end Go.Abs
