/- Part 23 of the proof: X54f. -/
import Derived.Test.YtfkhgbcggabkjaaGreatDoorMonfstZ22
namespace Go.Abs
open Go Go.Proofs
set_option maxRecDepth 100000
set_option maxHeartbeats 4000000
abbrev f41z1 (x2:Int) (r3:dZ×dY×Ty5×eF×Ty5×Ty2×Ty3):aK:=[(6,.cells 115 (yT)),(2000,.cells 3 [.int .i64 x2]),(6001,bP (V.int .i64) 0 cQ [] r3.1),(6002,bP (V.int .i64) 0 cT false r3.2.1),(6003,bP aJ (default:Tq1) bH [] r3.2.2.1),(6004,bP (V.int .i64) 0 cS 0 r3.2.2.2.1),(6005,bP aJ (default:Tq1) bH [] r3.2.2.2.2.1),(6006,bP aZ (default:Tq0) cY false r3.2.2.2.2.2.1),(6007,bP aY (default:Tq1) cX false r3.2.2.2.2.2.2)]
abbrev f41z2 (r13:Bool×dZ×dY×Ty5×eF×Ty5×Ty2×Ty3×Int) (r14:dZ×dY×Ty5×eF×Ty5×Ty2×Ty3):aK:=[(6,.cells 115 (yT)),(2000,.cells 3 [.int .i64 r13.2.2.2.2.2.2.2.2]),(6001,bP (V.int .i64) 0 cQ [] r14.1),(6002,bP (V.int .i64) 0 cT false r14.2.1),(6003,bP aJ (default:Tq1) bH [] r14.2.2.1),(6004,bP (V.int .i64) 0 cS 0 r14.2.2.2.1),(6005,bP aJ (default:Tq1) bH [] r14.2.2.2.2.1),(6006,bP aZ (default:Tq0) cY false r14.2.2.2.2.2.1),(6007,bP aY (default:Tq1) cX false r14.2.2.2.2.2.2)]
def f41 (x1:List Y51) (x2:Int):Option Tq5:=
 (f44).bind fun(r3:dZ×dY×Ty5×eF×Ty5×Ty2×Ty3)=>
 jn (fun(i15:Int)=>
 some ((0:Int),(13:Int),i15)
 ) fun(K1:Int→Option Tq5)=>
 mU x1 K1 bB (0,x2,r3.1,r3.2.1,r3.2.2.1,r3.2.2.2.1,r3.2.2.2.2.1,r3.2.2.2.2.2.1,r3.2.2.2.2.2.2)
theorem f41_ok (x1:List Y51) (x2:Int) (r:Tq5) (h:f41 x1 x2=some r):aE Tryz.prog 41 [(1,.tab .u64 Lib.pow10Tab),(2,bD),(3,bD)] [2000] [(2000,.cells 3 [.int .i64 x2])] [vL 28 lC (default:Y51) x1,.fn (.func 42) [.ptr 2000 0]] (.tup [.int .i64 r.1,.int .i64 r.2.1]) [(2000,.cells 3 [.int .i64 r.2.2])]:=by
 unfold f41 at h;refine aE.body 0 _ _ Tryz.func41 rfl Tryz.ntmps41 rfl rfl ?_;refine bF [] [] [0,1,1000001,1000002,1000003] [2000] trivial ?_;refine AWp.seq ?_;obtain⟨r3,hr3,h⟩:=bind_ok h;refine aX [] [(0,⟨[],[],[],(qmp 6001 r3.1 r3.2.1 r3.2.2.1 r3.2.2.2.1 r3.2.2.2.2.1 r3.2.2.2.2.2.1 r3.2.2.2.2.2.2),.agg (yT),[6001,6002,6003,6004,6005,6006,6007],[],[]⟩)] ⟨24,[(0,aI x1),(1,.fn (.func 42) [.ptr 2000 0]),(6,.ptr 6 0),(1000001,.tab .u64 Lib.pow10Tab),(1000002,bD),(1000003,bD)],(f41z1 x2 r3),[2000],0⟩ (an2 (cpT (aE.ren (aU 3006 6007) (aD 3006 6007) rfl (aE.ren (aU 3005 6006) (aD 3005 6006) rfl (aE.ren (aU 3004 6005) (aD 3004 6005) rfl (aE.ren (aU 3003 6004) (aD 3003 6004) rfl (aE.ren (aU 3002 6003) (aD 3002 6003) rfl (aE.ren (aU 3001 6002) (aD 3001 6002) rfl (aE.ren (aU 3000 6001) (aD 3000 6001) rfl (aAC _ hr3))))))))) trivial) ?_;refine tN ?_;obtain⟨K1,hK1,h⟩:=aR h;refine AWp.join (α:=Int) (fun(i15:Int)=>⟨24,[(1000001,.tab .u64 Lib.pow10Tab),(1000002,bD),(1000003,bD)],[(2000,.cells 3 [.i i15])],[2000],0⟩) (fun x=>K1 x=some r) ?_ ?_
 ·
  refine aN [] [] ⟨24,[(1,.fn (.func 42) [.ptr 2000 0]),(6,.ptr 6 0),(10,aI x1),(11,.i (lZ x1)),(12,.i (0:Int)),(1000001,.tab .u64 Lib.pow10Tab),(1000002,bD),(1000003,bD)],(f41z1 x2 r3),[2000],0⟩ trivial ?_;refine AWp.block ?_;refine AWp.loopL (α:=Nat×(Nat×Int×dZ×dY×Ty5×eF×Ty5×Ty2×Ty3)) (fun x=>match x with|(_,n4,i5,l6,l7,l8,l9,l10,l11,l12)=>⟨24,[(1,.fn (.func 42) [.ptr 2000 0]),(6,.ptr 6 0),(10,aI x1),(11,.i (lZ x1)),(12,.i (n4:Int)),(1000001,.tab .u64 Lib.pow10Tab),(1000002,bD),(1000003,bD)],((6,.cells 115 (yT))::(2000,.cells 3 [.i i5])::qmp 6001 l6 l7 l8 l9 l10 l11 l12),[2000],0⟩) (fun x=>mU x1 K1 x.1 x.2=some r) (fun x=>x.1) (bB,0,x2,r3.1,r3.2.1,r3.2.2.1,r3.2.2.2.1,r3.2.2.2.2.1,r3.2.2.2.2.2.1,r3.2.2.2.2.2.2) (LR (s':=⟨24,[(1,.fn (.func 42) [.ptr 2000 0]),(6,.ptr 6 0),(10,aI x1),(11,.i (lZ x1)),(12,.i (0:Int)),(1000001,.tab .u64 Lib.pow10Tab),(1000002,bD),(1000003,bD)],(f41z1 x2 r3),[2000],0⟩)) h ?_
  rintro⟨k0,n4,i5,l6,l7,l8,l9,l10,l11,l12⟩ h
  cases k0 with
  |zero=>exact nomatch (show none=some r from h)
  |succ k0=>
  obtain⟨C0,hC0⟩:∃C,C=mU x1 K1 k0:=⟨_,rfl⟩;replace h:=(mU.eq_2 ..).symm.trans h
  try rw[←hC0]at h
  refine aN [] [] ⟨24,[(1,.fn (.func 42) [.ptr 2000 0]),(6,.ptr 6 0),(10,aI x1),(11,.i (lZ x1)),(12,.i (n4:Int)),(13,.bool (decide ((n4:Int)<(lZ x1)))),(1000001,.tab .u64 Lib.pow10Tab),(1000002,bD),(1000003,bD)],((6,.cells 115 (yT))::(2000,.cells 3 [.i i5])::qmp 6001 l6 l7 l8 l9 l10 l11 l12),[2000],0⟩ trivial ?_;refine AWp.seq ?_;refine AWp.cond (b:=(decide ((n4:Int)<(lZ x1)))) (by kernel_rfl) (fun hc1=> ?_) (fun hc1=> ?_)
  ·
   replace h:=aF hc1 h;refine AWp.skip (tN (AWp.seq (AWp.block (AWp.seq ?_))));obtain⟨ob0p,h⟩:=aB h;have ob0:0≤(n4:Int)∧(n4:Int)<(((x1).length:Nat):Int):=⟨by omega,ob0p⟩;refine bS [] [] [1,6,7,8,10,11,12,1000001,1000002,1000003] [6,8,2000,6001,6002,6003,6004,6005,6006,6007] (an2 ob0 trivial) ?_;refine tN (AWp.seq (AWp.seq ?_));obtain⟨r13,hr13,h⟩:=bind_ok h;refine bS [] [(2,⟨[.ptr 6 0,.agg (qpt (x1.getD n4 aH)),.ptr 2000 0],[6,6001,6002,6003,6004,6005,6006,6007,2000],[6,2000],[(6,.cells 115 (yT)),(6001,bP (V.int .i64) 0 cQ [] r13.2.1),(6002,bP (V.int .i64) 0 cT false r13.2.2.1),(6003,bP aJ bE bH [] r13.2.2.2.1),(6004,bP (V.int .i64) 0 cS 0 r13.2.2.2.2.1),(6005,bP aJ bE bH [] r13.2.2.2.2.2.1),(6006,bP aZ bA cY false r13.2.2.2.2.2.2.1),(6007,bP aY bE cX false r13.2.2.2.2.2.2.2.1),(2000,.cells 3 [.i r13.2.2.2.2.2.2.2.2])],.bool r13.1,[6001,6002,6003,6004,6005,6006,6007],[],[1,2,3]⟩)] [1,6,7,8,10,11,12,19,1000001,1000002,1000003] [6,8,2000,6001,6002,6003,6004,6005,6006,6007] (an1 (cpT (aE.ren (aU 2008 2000) (aD 2008 2000) rfl (aE.ren (aU 2007 6007) (aD 2007 6007) rfl (aE.ren (aU 2006 6006) (aD 2006 6006) rfl (aE.ren (aU 2005 6005) (aD 2005 6005) rfl (aE.ren (aU 2004 6004) (aD 2004 6004) rfl (aE.ren (aU 2003 6003) (aD 2003 6003) rfl (aE.ren (aU 2002 6002) (aD 2002 6002) rfl (aE.ren (aU 2001 6001) (aD 2001 6001) rfl (aE.ren (aU 2000 6) (aD 2000 6) rfl (f42_ok _ _ _ _ _ _ _ _ _ _ _ _ _ _ _ _ hr13)))))))))))) ?_;refine tN ?_;refine AWp.cond (b:=r13.1) (by kernel_rfl) (fun hc2=> ?_) (fun hc2=> ?_)
   ·
    replace h:=aF hc2 h;refine aN [] [] ⟨24,[(4,.i (n4:Int)),(5,.i (0:Int))],[(2000,.cells 3 [.i r13.2.2.2.2.2.2.2.2])],[2000],0⟩ trivial ?_;have hret:=Option.some.inj h;subst hret;refine AWp.ret (tR (kR (tR (tR (kR (aQ ?_))))));exact bR _ rfl ⟨rfl,rfl⟩ rfl
   ·
    replace h:=aG hc2 h;refine AWp.skip (tN ?_);obtain⟨r14,hr14,h⟩:=bind_ok h;refine aX [] [(1,⟨[.ptr 6 0,.agg (qpt (x1.getD n4 aH))],[6,6001,6002,6003,6004,6005,6006,6007],[6],((6,.cells 115 (yT))::qmp 6001 r14.1 r14.2.1 r14.2.2.1 r14.2.2.2.1 r14.2.2.2.2.1 r14.2.2.2.2.2.1 r14.2.2.2.2.2.2),.tup [],[6001,6002,6003,6004,6005,6006,6007],[],[]⟩)] ⟨24,[(1,.fn (.func 42) [.ptr 2000 0]),(6,.ptr 6 0),(10,aI x1),(11,.i (lZ x1)),(12,.i (n4:Int)),(1000001,.tab .u64 Lib.pow10Tab),(1000002,bD),(1000003,bD)],(f41z2 r13 r14),[2000],0⟩ (an1 (cpT (aE.ren (aU 2007 6007) (aD 2007 6007) rfl (aE.ren (aU 2006 6006) (aD 2006 6006) rfl (aE.ren (aU 2005 6005) (aD 2005 6005) rfl (aE.ren (aU 2004 6004) (aD 2004 6004) rfl (aE.ren (aU 2003 6003) (aD 2003 6003) rfl (aE.ren (aU 2002 6002) (aD 2002 6002) rfl (aE.ren (aU 2001 6001) (aD 2001 6001) rfl (aE.ren (aU 2000 6) (aD 2000 6) rfl (aAB _ _ _ _ _ _ _ _ _ _ _ _ _ _ _ hr14))))))))))) ?_;refine kN (tN ?_);obtain⟨ob1p,h⟩:=aB h;have ob1: -9223372036854775808≤((n4:Int)+(1:Int))∧((n4:Int)+(1:Int))≤9223372036854775807:=⟨by omega,ob1p⟩;refine aX [] [] ⟨24,[(1,.fn (.func 42) [.ptr 2000 0]),(6,.ptr 6 0),(10,aI x1),(11,.i (lZ x1)),(12,.i (((n4+1):Nat):Int)),(1000001,.tab .u64 Lib.pow10Tab),(1000002,bD),(1000003,bD)],(f41z2 r13 r14),[2000],0⟩ (an1 ob1) ?_;rw[hC0]at h;exact lN (_,(n4+1),r13.2.2.2.2.2.2.2.2,r14.1,r14.2.1,r14.2.2.1,r14.2.2.2.1,r14.2.2.2.2.1,r14.2.2.2.2.2.1,r14.2.2.2.2.2.2) LR h (Nat.lt_succ_self _)
  ·
   replace h:=aG hc1 h;refine AWp.exit (tE (tE (kS ?_)));exact jN (i5) LR h
 ·
  rintro i15 h;replace h:=(congrFun hK1 _).symm.trans h;refine aN [] [] ⟨24,[(4,.i (0:Int)),(5,.i (13:Int))],[(2000,.cells 3 [.i i15])],[2000],0⟩ trivial ?_;have hret:=Option.some.inj h;subst hret;refine AWp.ret ?_;exact bR _ rfl ⟨rfl,rfl⟩ rfl
def f13 (x1:List Ty1) (x2:List (List UInt8×BitVec 16)) (x3:BitVec 16) (x4:List Ty9) (x5:List Int) (x6:List (List UInt8×Bool×(List Tq6))) (x7:List Y51):Option Tq5:=
 (f41 x7 (0:Int)).bind fun(r8:Tq5)=>
 some (r8.1,r8.2.2,r8.2.1)
theorem wJ (x1:List Ty1) (x2:List (List UInt8×BitVec 16)) (x3:BitVec 16) (x4:List Ty9) (x5:List Int) (x6:List (List UInt8×Bool×(List Tq6))) (x7:List Y51) (r:Tq5) (h:f13 x1 x2 x3 x4 x5 x6 x7=some r):aE Tryz.prog 13 [(1,.tab .u64 Lib.pow10Tab),(2,bD),(3,bD)] [] [] [.agg [vL 1 eS [] x1,vL 2 eSW (default:List UInt8×BitVec 16) x2,.b16 x3,vL 6 eT73 (default:List UInt8×Int×BitVec 16×List (BitVec 16)×List (BitVec 16)×(List Tq6)) x4,vL 1 eI 0 x5,vL 3 fQ (default:List UInt8×Bool×(List Tq6)) x6],vL 28 lC (default:Y51) x7] (.tup [.int .i64 r.1,.int .i64 r.2.1,.int .i64 r.2.2]) []:=by
 unfold f13 at h;refine aE.body 0 _ _ Tryz.func13 rfl Tryz.ntmps13 rfl rfl ?_;refine bF [] [] [1,1000001,1000002,1000003] [] trivial ?_;refine bF [] [] [1,7,1000001,1000002,1000003] [7] (an1 trivial) ?_;refine AWp.seq ?_;obtain⟨r8,hr8,h⟩:=bind_ok h;refine bS [] [(2,⟨[aI x7,.fn (.func 42) [.ptr 7 0]],[7],[7],[(7,.cells 3 [.i r8.2.2])],.tup [.i r8.1,.i r8.2.1],[],[],[1,2,3]⟩)] [7,8,9,1000001,1000002,1000003] [7] (an1 (cpT (aE.ren (aU 2000 7) (aD 2000 7) rfl (f41_ok _ _ _ hr8)))) ?_;refine tN ?_;refine aN [] [] ⟨19,[(4,.i r8.1),(5,.i r8.2.2),(6,.i r8.2.1)],[],[],0⟩ trivial ?_;have hret:=Option.some.inj h;subst hret;refine AWp.ret ?_;exact bR _ rfl ⟨rfl,rfl⟩ rfl
def wI (x1:List Y51) (K1:Ty7→Option (List Ty1)):Nat→Ty11→Option (List Ty1)
 |0,_=>none
 |k+1,(n3,l4,l5,l6,l7,l8,l9,l10)=>
  if(decide ((n3:Int)<(((x1).length:Nat):Int)))then(
  chk ((n3:Int)<(((x1).length:Nat):Int))<|
  (f45 ((x1.getD n3 (default:Y51)).1) ((x1.getD n3 (default:Y51)).2.1) ((x1.getD n3 (default:Y51)).2.2.1) ((x1.getD n3 (default:Y51)).2.2.2.1) ((x1.getD n3 (default:Y51)).2.2.2.2.1) ((x1.getD n3 (default:Y51)).2.2.2.2.2.1) ((x1.getD n3 (default:Y51)).2.2.2.2.2.2) l4 l5 l6 l7 l8 l9 l10).bind fun(r11:dZ×dY×Ty5×eF×Ty5×Ty2×Ty3)=>
  chk (((n3:Int)+(1:Int))≤9223372036854775807)<|
  (wI x1 K1 k) ((n3+1),r11.1,r11.2.1,r11.2.2.1,r11.2.2.2.1,r11.2.2.2.2.1,r11.2.2.2.2.2.1,r11.2.2.2.2.2.2)
  )else(
  K1 (l4,l5,l6,l7,l8,l9,l10)
  )
def wH (l12:List Tq4) (l13:List Tq3):Nat→(List Ty1)→Option (List Ty1)
 |0,_=>none
 |k+1,l19=>
  if(!(hM l12 (((l19).length:Nat):Int)))=true then(
  some l19
  )else(
  if(gM l13 false (((l19).length:Nat):Int))then(
  some l19
  )else(
  chk (((l19).length+1) *16≤140737488355328)<|
  (wH l12 l13 k) (l19++[(gM l12 [] (((l19).length:Nat):Int))])
  )
  )
abbrev qE :List V:=[.own 6001,.own 6002,.own 6003,.own 6004,.own 6005,.own 6006,.own 6007]
abbrev f14z1 (r11:dZ×dY×Ty5×eF×Ty5×Ty2×Ty3):aK:=[(3,.cells 115 (qE)),(6001,bP (V.int .i64) 0 cQ [] r11.1),(6002,bP (V.int .i64) 0 cT false r11.2.1),(6003,bP aJ (default:Tq1) bH [] r11.2.2.1),(6004,bP (V.int .i64) 0 cS 0 r11.2.2.2.1),(6005,bP aJ (default:Tq1) bH [] r11.2.2.2.2.1),(6006,bP aZ (default:Tq0) cY false r11.2.2.2.2.2.1),(6007,bP aY (default:Tq1) cX false r11.2.2.2.2.2.2)]
abbrev f14z2 (l19:List Ty1) (l12:List Tq4) (l13:List Tq3) (l14:List Ty0) (l15:List Tq1) (l16:List Ty0) (l17:List gS) (l18:List gN):aK:=[(3,.cells 115 (qE)),(5006,bL 9 1 eS [] l19),(6001,bP (V.int .i64) 0 cQ [] l12),(6002,bP (V.int .i64) 0 cT false l13),(6003,bP aJ (default:Tq1) bH [] l14),(6004,bP (V.int .i64) 0 cS 0 l15),(6005,bP aJ (default:Tq1) bH [] l16),(6006,bP aZ (default:Tq0) cY false l17),(6007,bP aY (default:Tq1) cX false l18)]
abbrev f14z3 (r2:dZ×dY×Ty5×eF×Ty5×Ty2×Ty3):aK:=[(3,.cells 115 (qE)),(6001,bP (V.int .i64) 0 cQ [] r2.1),(6002,bP (V.int .i64) 0 cT false r2.2.1),(6003,bP aJ (default:Tq1) bH [] r2.2.2.1),(6004,bP (V.int .i64) 0 cS 0 r2.2.2.2.1),(6005,bP aJ (default:Tq1) bH [] r2.2.2.2.2.1),(6006,bP aZ (default:Tq0) cY false r2.2.2.2.2.2.1),(6007,bP aY (default:Tq1) cX false r2.2.2.2.2.2.2)]
abbrev f14z4 (l4:List Tq4) (l5:List Tq3) (l6:List Ty0) (l7:List Tq1) (l8:List Ty0) (l9:List gS) (l10:List gN):aK:=[(3,.cells 115 (qE)),(6001,bP (V.int .i64) 0 cQ [] l4),(6002,bP (V.int .i64) 0 cT false l5),(6003,bP aJ (default:Tq1) bH [] l6),(6004,bP (V.int .i64) 0 cS 0 l7),(6005,bP aJ (default:Tq1) bH [] l8),(6006,bP aZ (default:Tq0) cY false l9),(6007,bP aY (default:Tq1) cX false l10)]
abbrev f14z5 (l12:List Tq4) (l13:List Tq3) (l14:List Ty0) (l15:List Tq1) (l16:List Ty0) (l17:List gS) (l18:List gN):aK:=[(3,.cells 115 (qE)),(6001,bP (V.int .i64) 0 cQ [] l12),(6002,bP (V.int .i64) 0 cT false l13),(6003,bP aJ (default:Tq1) bH [] l14),(6004,bP (V.int .i64) 0 cS 0 l15),(6005,bP aJ (default:Tq1) bH [] l16),(6006,bP aZ (default:Tq0) cY false l17),(6007,bP aY (default:Tq1) cX false l18)]
abbrev f14z6 :=Ty5
abbrev f14z7 :List (Nat×V):=[(3,.ptr 3 0),(6,.own 5006)]
def f14 (x1:List Y51):Option (List Ty1):=
 (f44).bind fun(r2:dZ×dY×Ty5×eF×Ty5×Ty2×Ty3)=>
 jn (fun((l12,l13,l14,l15,l16,l17,l18):dZ×dY×Ty5×eF×Ty5×Ty2×Ty3)=>
 wH l12 l13 bB []
 ) fun(K1:Ty7→Option (List Ty1))=>
 wI x1 K1 bB (0,r2.1,r2.2.1,r2.2.2.1,r2.2.2.2.1,r2.2.2.2.2.1,r2.2.2.2.2.2.1,r2.2.2.2.2.2.2)
theorem f14_ok (x1:List Y51) (r:List Ty1) (h:f14 x1=some r):aE Tryz.prog 14 [] [] [] [vL 28 lC (default:Y51) x1] (.own 3000) [(3000,bL 9 1 eS [] r)]:=by
 unfold f14 at h;refine aE.body 0 _ _ Tryz.func14 rfl Tryz.ntmps14 rfl rfl ?_;refine bF [] [] [0] [] trivial ?_;refine AWp.seq ?_;obtain⟨r2,hr2,h⟩:=bind_ok h;refine aX [] [(0,⟨[],[],[],(qmp 6001 r2.1 r2.2.1 r2.2.2.1 r2.2.2.2.1 r2.2.2.2.2.1 r2.2.2.2.2.2.1 r2.2.2.2.2.2.2),.agg (qE),[6001,6002,6003,6004,6005,6006,6007],[],[]⟩)] ⟨41,[(0,aI x1),(3,.ptr 3 0)],(f14z3 r2),[],0⟩ (an2 (cpT (aE.ren (aU 3006 6007) (aD 3006 6007) rfl (aE.ren (aU 3005 6006) (aD 3005 6006) rfl (aE.ren (aU 3004 6005) (aD 3004 6005) rfl (aE.ren (aU 3003 6004) (aD 3003 6004) rfl (aE.ren (aU 3002 6003) (aD 3002 6003) rfl (aE.ren (aU 3001 6002) (aD 3001 6002) rfl (aE.ren (aU 3000 6001) (aD 3000 6001) rfl (aAC _ hr2))))))))) trivial) ?_;refine tN ?_;obtain⟨K1,hK1,h⟩:=aR h;refine AWp.join (fun(x:dZ×dY×(f14z6)×eF×(f14z6)×Ty2×Ty3)=>match x with|(l12,l13,l14,l15,l16,l17,l18)=>⟨41,[(3,.ptr 3 0)],(f14z5 l12 l13 l14 l15 l16 l17 l18),[],0⟩) (fun x=>K1 x=some r) ?_ ?_
 ·
  refine aN [] [] ⟨41,[(3,.ptr 3 0),(10,aI x1),(11,.i (lZ x1)),(12,.i (0:Int))],(f14z3 r2),[],0⟩ trivial ?_;refine AWp.block ?_;refine AWp.loopL (α:=Nat×(Nat×dZ×dY×(f14z6)×eF×(f14z6)×Ty2×Ty3)) (fun x=>match x with|(_,n3,l4,l5,l6,l7,l8,l9,l10)=>⟨41,[(3,.ptr 3 0),(10,aI x1),(11,.i (lZ x1)),(12,.i (n3:Int))],(f14z4 l4 l5 l6 l7 l8 l9 l10),[],0⟩) (fun x=>wI x1 K1 x.1 x.2=some r) (fun x=>x.1) (bB,0,r2.1,r2.2.1,r2.2.2.1,r2.2.2.2.1,r2.2.2.2.2.1,r2.2.2.2.2.2.1,r2.2.2.2.2.2.2) (LR (s':=⟨41,[(3,.ptr 3 0),(10,aI x1),(11,.i (lZ x1)),(12,.i (0:Int))],(f14z3 r2),[],0⟩)) h ?_
  rintro⟨k0,n3,l4,l5,l6,l7,l8,l9,l10⟩ h
  cases k0 with
  |zero=>exact nomatch (show none=some r from h)
  |succ k0=>
  obtain⟨C0,hC0⟩:∃C,C=wI x1 K1 k0:=⟨_,rfl⟩;replace h:=(wI.eq_2 ..).symm.trans h
  try rw[←hC0]at h
  refine aN [] [] ⟨41,[(3,.ptr 3 0),(10,aI x1),(11,.i (lZ x1)),(12,.i (n3:Int)),(13,.bool (decide ((n3:Int)<(lZ x1))))],(f14z4 l4 l5 l6 l7 l8 l9 l10),[],0⟩ trivial ?_;refine AWp.seq ?_;refine AWp.cond (b:=(decide ((n3:Int)<(lZ x1)))) (by kernel_rfl) (fun hc1=> ?_) (fun hc1=> ?_)
  ·
   replace h:=aF hc1 h;refine AWp.skip (tN (AWp.seq (AWp.block (AWp.seq ?_))));obtain⟨ob0p,h⟩:=aB h;have ob0:0≤(n3:Int)∧(n3:Int)<(((x1).length:Nat):Int):=⟨by omega,ob0p⟩;refine bS [] [] [3,5,10,11,12] [3,5,6001,6002,6003,6004,6005,6006,6007] (an2 ob0 trivial) ?_;refine tN ?_;obtain⟨r11,hr11,h⟩:=bind_ok h;refine aX [] [(1,⟨[.ptr 3 0,.agg (qpt (x1.getD n3 aH))],[3,6001,6002,6003,6004,6005,6006,6007],[3],(f14z1 r11),.tup [],[6001,6002,6003,6004,6005,6006,6007],[],[]⟩)] ⟨41,[(3,.ptr 3 0),(10,aI x1),(11,.i (lZ x1)),(12,.i (n3:Int))],(f14z1 r11),[],0⟩ (an1 (cpT (aE.ren (aU 2007 6007) (aD 2007 6007) rfl (aE.ren (aU 2006 6006) (aD 2006 6006) rfl (aE.ren (aU 2005 6005) (aD 2005 6005) rfl (aE.ren (aU 2004 6004) (aD 2004 6004) rfl (aE.ren (aU 2003 6003) (aD 2003 6003) rfl (aE.ren (aU 2002 6002) (aD 2002 6002) rfl (aE.ren (aU 2001 6001) (aD 2001 6001) rfl (aE.ren (aU 2000 3) (aD 2000 3) rfl (aAB _ _ _ _ _ _ _ _ _ _ _ _ _ _ _ hr11))))))))))) ?_;refine kN (tN ?_);obtain⟨ob1p,h⟩:=aB h;have ob1: -9223372036854775808≤((n3:Int)+(1:Int))∧((n3:Int)+(1:Int))≤9223372036854775807:=⟨by omega,ob1p⟩;refine aX [] [] ⟨41,[(3,.ptr 3 0),(10,aI x1),(11,.i (lZ x1)),(12,.i (((n3+1):Nat):Int))],(f14z1 r11),[],0⟩ (an1 ob1) ?_;rw[hC0]at h;exact lN (_,(n3+1),r11.1,r11.2.1,r11.2.2.1,r11.2.2.2.1,r11.2.2.2.2.1,r11.2.2.2.2.2.1,r11.2.2.2.2.2.2) LR h (Nat.lt_succ_self _)
  ·
   replace h:=aG hc1 h;refine AWp.exit (tE (tE (kS ?_)));exact jN (l4,l5,l6,l7,l8,l9,l10) LR h
 ·
  rintro⟨l12,l13,l14,l15,l16,l17,l18⟩ h;replace h:=(congrFun hK1 _).symm.trans h;refine aN [] [] ⟨41,[(3,.ptr 3 0),(6,.nils)],(f14z5 l12 l13 l14 l15 l16 l17 l18),[],0⟩ trivial ?_;refine AWp.block ?_;refine AWp.loopL (α:=Nat×(List Ty1)) (fun x=>match x with|(_,l19)=>⟨41,(f14z7),(f14z2 l19 l12 l13 l14 l15 l16 l17 l18),[],0⟩) (fun x=>wH l12 l13 x.1 x.2=some r) (fun x=>x.1) (bB,[]) (Le.trans (Le.trans (Le.nilOwn 6 5006 9 1 (cB eS [] []) rfl rfl (Nat.le_of_ble_eq_true rfl)) (LR (s':=⟨41,(f14z7),[(3,.cells 115 (qE)),(6001,bP (V.int .i64) 0 cQ [] l12),(6002,bP (V.int .i64) 0 cT false l13),(6003,bP aJ bE bH [] l14),(6004,bP (V.int .i64) 0 cS 0 l15),(6005,bP aJ bE bH [] l16),(6006,bP aZ bA cY false l17),(6007,bP aY bE cX false l18),(5006,aM [])],[],0⟩))) (LR (s':=⟨41,(f14z7),((3,.cells 115 (qE))::(5006,aM [])::qmp 6001 l12 l13 l14 l15 l16 l17 l18),[],0⟩))) h ?_
  rintro⟨k1,l19⟩ h
  cases k1 with
  |zero=>exact nomatch (show none=some r from h)
  |succ k1=>
  obtain⟨C1,hC1⟩:∃C,C=wH l12 l13 k1:=⟨_,rfl⟩;replace h:=(wH.eq_2 ..).symm.trans h
  try rw[←hC1]at h
  refine AWp.block ?_;refine aN [] [(4,⟨[.own 6001,.i (lZ l19)],[6001],[6001],[(6001,bP (V.int .i64) 0 cQ [] l12)],.tup [.str (gM l12 [] (lZ l19)),.bool (hM l12 (lZ l19))],[],[],[]⟩)] ⟨41,[(3,.ptr 3 0),(6,.own 5006),(7,.str (gM l12 [] (lZ l19))),(8,.bool (hM l12 (lZ l19)))],(f14z2 l19 l12 l13 l14 l15 l16 l17 l18),[],0⟩ (an1 (And.intro (dO (P:=Tryz.prog) Tryz.underlying108 (V.int .i64) kE108 0 cQ [] [] (by kernel_rfl) (.tmp 21) (.tmp 23) 118 6001 l12 (lZ l19)) (eB.same [.own 6001,.i (lZ l19)]))) ?_;refine AWp.seq (AWp.seq ?_);by_cases hg9_2:(!(hM l12 (((l19).length:Nat):Int)))=true
  ·
   replace h:=uK hg9_2 h;have ob2:=idA (false=true);have ob3:=idA (false=true);have ob4:true=true→true=false→false=true:=by first|decide|omega|simp|(intro h;cases h)
   refine aX [] [(2,⟨[],[],[],[],(.bool true),[],[0],[]⟩),(7,⟨[],[],[],[],.bool (gM l13 false (lZ l19)),[],[],[]⟩)] ⟨41,[(3,.ptr 3 0),(6,.own 5006),(7,.str (gM l12 [] (lZ l19))),(35,.bool true)],(f14z2 l19 l12 l13 l14 l15 l16 l17 l18),[],0⟩ (an5 (show((.bool (!(hM l12 (lZ l19)))):V)=(.bool true)from(congrArg (fun x=>((.bool x):V)) hg9_2)) (an1 ob2) (an1 ob3) trivial ob4) ?_;refine tN ?_;refine AWp.cond (b:=true) (by kernel_rfl) (fun hc=> ?_) (fun hc=> ?_)
   ·
    clear hc;refine aN [] [] ⟨41,[(2,.own 5006)],[(5006,aM l19)],[],0⟩ trivial ?_;refine AWp.le (Le.trans (Le.ren (aU 5006 3000) (aD 5006 3000) rfl) (LR (s':=⟨41,[(2,.own 3000)],[(3000,aM l19)],[],0⟩))) ?_;have hret:=Option.some.inj h;subst hret;refine AWp.le (LR (s':=⟨41,[(2,.own 3000)],[(3000,aM l19)],[],0⟩)) ?_;refine AWp.ret (tR (kR (tR (kR ?_))));exact bR _ rfl ⟨rfl,rfl⟩ rfl
   ·
    cases hc
  ·
   replace h:=uL hg9_2 h;have ob2:=idA (true=true);have ob3:=idA (true=true);have ob4:=idA (true=true);have ob5:=idA (true=true);refine bS [] [(2,⟨[],[],[],[],(.bool false),[],[0],[]⟩),(7,⟨[.own 6002,.i (lZ l19)],[6002],[6002],[(6002,bP (V.int .i64) 0 cT false l13)],.bool (gM l13 false (lZ l19)),[],[],[]⟩)] [3,6,7,35] [3,5006,6001,6002,6003,6004,6005,6006,6007] (an5 (show((.bool (!(hM l12 (lZ l19)))):V)=(.bool false)from(congrArg (fun x=>((.bool x):V)) (Bool.eq_false_iff.2 hg9_2))) (an1 ob2) (an1 ob3) (And.intro (And.intro (eD (P:=Tryz.prog) Tryz.underlying109 (V.int .i64) kE109 0 cT false false (by kernel_rfl) (.tmp 31) (.tmp 33) 4 6002 l13 (lZ l19)) (eB.same [.own 6002,.i (lZ l19)])) (an2 ob4 ob5)) trivial) ?_;refine tN ?_;refine AWp.cond (b:=(gM l13 false (lZ l19))) (by kernel_rfl) (fun hc3=> ?_) (fun hc3=> ?_)
   ·
    replace h:=aF hc3 h;refine aN [] [] ⟨41,[(2,.own 5006)],[(5006,aM l19)],[],0⟩ trivial ?_;refine AWp.le (Le.trans (Le.ren (aU 5006 3000) (aD 5006 3000) rfl) (LR (s':=⟨41,[(2,.own 3000)],[(3000,aM l19)],[],0⟩))) ?_;have hret:=Option.some.inj h;subst hret;refine AWp.le (LR (s':=⟨41,[(2,.own 3000)],[(3000,aM l19)],[],0⟩)) ?_;refine AWp.ret (tR (kR (tR (kR ?_))));exact bR _ rfl ⟨rfl,rfl⟩ rfl
   ·
    replace h:=aG hc3 h;refine AWp.skip (tN ?_);obtain⟨ob6,h⟩:=aB h;refine aX [] [] ⟨41,(f14z7),((3,.cells 115 (qE))::(5006,.rows 9 1 ((l19).length+1) (gZ (l19).length (cB eS [] l19) (dR 1 [.str (gM l12 [] (lZ l19))])))::qmp 6001 l12 l13 l14 l15 l16 l17 l18),[],0⟩ (an1 ob6) ?_;refine kN ?_;rw[hC1]at h;exact lN (_,(l19++[(gM l12 [] (lZ l19))])) (Le.trans (Le.mk (s':=⟨41,(f14z7),((3,.cells 115 (qE))::(5006,aM (l19++[(gM l12 [] (lZ l19))]))::qmp 6001 l12 l13 l14 l15 l16 l17 l18),[],0⟩) rfl rfl ⟨.refl _,.refl _,trivial⟩ ⟨⟨_,rfl,.refl _⟩,⟨_,rfl,(BLe.of (RL.app (RL.self _) (RL.lst (enc:=eS) [(gM l12 [] (lZ l19))] rfl rfl (fun _=>rfl))))⟩,⟨_,rfl,.refl _⟩,⟨_,rfl,.refl _⟩,⟨_,rfl,.refl _⟩,⟨_,rfl,.refl _⟩,⟨_,rfl,.refl _⟩,⟨_,rfl,.refl _⟩,⟨_,rfl,.refl _⟩,trivial⟩) LR) h (Nat.lt_succ_self _)
def wE (x1 x2:List Ty1) (K1:Unit→Option Bool):Nat→Nat→Option Bool
 |0,_=>none
 |k+1,n3=>
  if(decide ((n3:Int)<(((x1).length:Nat):Int)))then(
  chk ((n3:Int)<(((x1).length:Nat):Int))<|
  chk ((n3:Int)<(((x2).length:Nat):Int))<|
  if(!((x1.getD n3 [])==(x2.getD n3 [])))then(
  some false
  )else(
  chk (((n3:Int)+(1:Int))≤9223372036854775807)<|
  (wE x1 x2 K1 k) (n3+1)
  )
  )else(
  K1 ()
  )
def f15 (x1 x2:List Ty1):Option Bool:=
 if((((x1).length:Nat):Int) !=(((x2).length:Nat):Int))then(
 some false
 )else(
 jn (fun(_:Unit)=>
 some true
 ) fun(K1:Unit→Option Bool)=>
 wE x1 x2 K1 bB 0
 )
theorem f15_ok (x1 x2:List Ty1) (r:Bool) (h:f15 x1 x2=some r):aE Tryz.prog 15 [] [] [] [vL 1 eS [] x1,vL 1 eS [] x2] (.bool r) []:=by
 unfold f15 at h;refine aE.body 0 _ _ Tryz.func15 rfl Tryz.ntmps15 rfl rfl ?_;refine bF [] [] [0,1] [] trivial ?_;refine AWp.seq ?_;refine aN [] [] ⟨26,[(0,cW x1),(1,cW x2),(10,.bool ((lZ x1) !=(lZ x2)))],[],[],0⟩ trivial ?_;refine AWp.cond (b:=((lZ x1) !=(lZ x2))) (by kernel_rfl) (fun hc1=> ?_) (fun hc1=> ?_)
 ·
  replace h:=aF hc1 h;refine aN [] [] ⟨26,[(4,.bool false)],[],[],0⟩ trivial ?_;have hret:=Option.some.inj h;subst hret;refine AWp.ret (tR ?_);exact bR _ rfl ⟨rfl,rfl⟩ rfl
 ·
  replace h:=aG hc1 h;refine AWp.skip (tN ?_);obtain⟨K1,hK1,h⟩:=aR h;refine AWp.join (fun(x:Unit)=>match x with|()=>⟨26,[],[],[],0⟩) (fun x=>K1 x=some r) ?_ ?_
  ·
   refine aN [] [] ⟨26,[(0,cW x1),(1,cW x2),(5,.i (0:Int))],[],[],0⟩ trivial ?_;refine AWp.block ?_;refine AWp.loopL (α:=Nat×Nat) (fun x=>match x with|(_,n3)=>⟨26,[(0,cW x1),(1,cW x2),(5,.i (n3:Int))],[],[],0⟩) (fun x=>wE x1 x2 K1 x.1 x.2=some r) (fun x=>x.1) (bB,0) (LR (s':=⟨26,[(0,cW x1),(1,cW x2),(5,.i (0:Int))],[],[],0⟩)) h ?_
   rintro⟨k0,n3⟩ h
   cases k0 with
   |zero=>exact nomatch (show none=some r from h)
   |succ k0=>
   obtain⟨C0,hC0⟩:∃C,C=wE x1 x2 K1 k0:=⟨_,rfl⟩;replace h:=(wE.eq_2 ..).symm.trans h
   try rw[←hC0]at h
   refine AWp.seq ?_;refine aN [] [] ⟨26,[(0,cW x1),(1,cW x2),(5,.i (n3:Int)),(14,.bool (decide ((n3:Int)<(lZ x1))))],[],[],0⟩ trivial ?_;refine AWp.cond (b:=(decide ((n3:Int)<(lZ x1)))) (by kernel_rfl) (fun hc2=> ?_) (fun hc2=> ?_)
   ·
    replace h:=aF hc2 h;refine AWp.skip (tN (AWp.seq (AWp.block (AWp.seq ?_))));obtain⟨ob0p,h⟩:=aB h;have ob0:0≤(n3:Int)∧(n3:Int)<(((x1).length:Nat):Int):=⟨by omega,ob0p⟩;obtain⟨ob1p,h⟩:=aB h;have ob1:0≤(n3:Int)∧(n3:Int)<(((x2).length:Nat):Int):=⟨by omega,ob1p⟩;refine aX [] [] ⟨26,[(0,cW x1),(1,cW x2),(5,.i (n3:Int)),(25,.bool (!((x1.getD n3 [])==(x2.getD n3 []))))],[],[],0⟩ (an2 ob0 ob1) ?_;refine tN ?_;refine AWp.cond (b:=(!((x1.getD n3 [])==(x2.getD n3 [])))) (by kernel_rfl) (fun hc3=> ?_) (fun hc3=> ?_)
    ·
     replace h:=aF hc3 h;refine aN [] [] ⟨26,[(4,.bool false)],[],[],0⟩ trivial ?_;have hret:=Option.some.inj h;subst hret;refine AWp.ret (kR (tR (tR (kR (aQ ?_)))));exact bR _ rfl ⟨rfl,rfl⟩ rfl
    ·
     replace h:=aG hc3 h;refine AWp.skip (kN (tN ?_));obtain⟨ob2p,h⟩:=aB h;have ob2: -9223372036854775808≤((n3:Int)+(1:Int))∧((n3:Int)+(1:Int))≤9223372036854775807:=⟨by omega,ob2p⟩;refine aX [] [] ⟨26,[(0,cW x1),(1,cW x2),(5,.i (((n3+1):Nat):Int))],[],[],0⟩ (an1 ob2) ?_;rw[hC0]at h;exact lN (_,(n3+1)) LR h (Nat.lt_succ_self _)
   ·
    replace h:=aG hc2 h;refine AWp.exit (tE (tE (kS ?_)));exact jN () LR h
  ·
   rintro⟨⟩ h;replace h:=(congrFun hK1 _).symm.trans h;refine aN [] [] ⟨26,[(4,.bool true)],[],[],0⟩ trivial ?_;have hret:=Option.some.inj h;subst hret;refine AWp.ret ?_;exact bR _ rfl ⟨rfl,rfl⟩ rfl
abbrev aBH (r1:Int×Int×Int×Int) (r2:Tq5):=((((r1.2.2.2==(0:Int))&&((r1.1==(0:Int))&&((r1.2.1==(0:Int))&&((r1.2.2.1==(12:Int))&&true))))&&(r2.2.2==(0:Int)))&&(r2.1==(1:Int)))
abbrev f11z1 (r1:Int×Int×Int×Int) (r2 r3 r4:Tq5):=((((aBH r1 r2)&&(r2.2.1==(1:Int)))&&(r3.2.2==(13:Int)))&&(r4.2.2==(0:Int)))
abbrev zH (r1:Int×Int×Int×Int):=((r1.2.2.2==(0:Int))&&((r1.1==(0:Int))&&((r1.2.1==(0:Int))&&((r1.2.2.1==(12:Int))&&true))))
abbrev bJ :=([118]:List UInt8)
abbrev bW :=([119]:List UInt8)
abbrev qF (r1:Int×Int×Int×Int) (r2 r3 r4:Tq5):=((f11z1 r1 r2 r3 r4)&&(r4.2.1==(3:Int)))
abbrev zG (r1:Int×Int×Int×Int) (r2:Tq5):=((aBH r1 r2)&&(r2.2.1==(1:Int)))
abbrev f11z7 (r1:Int×Int×Int×Int):List V:=[.int .i64 r1.1,.int .i64 r1.2.1,.int .i64 r1.2.2.1]
abbrev aBG (r1:Int×Int×Int×Int):=((r1.2.2.2==(0:Int))==true)
abbrev wN :=(List Tq6)
abbrev aAN (r1:Int×Int×Int×Int) (r2:Tq5):=(((zH r1)&&(r2.2.2==(0:Int)))==true)
abbrev aAM (r1:Int×Int×Int×Int) (r2 r3:Tq5):=(((zG r1 r2)&&(r3.2.2==(13:Int)))==true)
def f11  :Option Bool:=
 (f22 ([(((0:Int),(4:Int),(0:Int),(0:Int),(0:Int),([118]:List UInt8),[]):Y51),(((0:Int),(3:Int),(0:Int),(0:Int),(0:Int),([119]:List UInt8),[]):Y51)])).bind fun(r1:Int×Int×Int×Int)=>
 (f13 [] [] (BitVec.ofInt 16 0) [] [] [] ([(((0:Int),(4:Int),(0:Int),(0:Int),(0:Int),([118]:List UInt8),[]):Y51),(((0:Int),(3:Int),(0:Int),(0:Int),(0:Int),([119]:List UInt8),[]):Y51)])).bind fun(r2:Tq5)=>
 chk ((0:Int)<((([(((0:Int),(4:Int),(0:Int),(0:Int),(0:Int),([118]:List UInt8),[]):Y51),(((0:Int),(3:Int),(0:Int),(0:Int),(0:Int),([119]:List UInt8),[]):Y51)]).length:Nat):Int))<|
 chk (0<([(((0:Int),(4:Int),(0:Int),(0:Int),(0:Int),([118]:List UInt8),[]):Y51),(((0:Int),(3:Int),(0:Int),(0:Int),(0:Int),([119]:List UInt8),[]):Y51)]).length)<|
 (f13 [] [] (BitVec.ofInt 16 0) [] [] [] ([(((([(((0:Int),(4:Int),(0:Int),(0:Int),(0:Int),([118]:List UInt8),[]):Y51),(((0:Int),(3:Int),(0:Int),(0:Int),(0:Int),([119]:List UInt8),[]):Y51)]).getD 0 (default:Y51)).1,(([(((0:Int),(4:Int),(0:Int),(0:Int),(0:Int),([118]:List UInt8),[]):Y51),(((0:Int),(3:Int),(0:Int),(0:Int),(0:Int),([119]:List UInt8),[]):Y51)]).getD 0 (default:Y51)).2.1,(([(((0:Int),(4:Int),(0:Int),(0:Int),(0:Int),([118]:List UInt8),[]):Y51),(((0:Int),(3:Int),(0:Int),(0:Int),(0:Int),([119]:List UInt8),[]):Y51)]).getD 0 (default:Y51)).2.2.1,(([(((0:Int),(4:Int),(0:Int),(0:Int),(0:Int),([118]:List UInt8),[]):Y51),(((0:Int),(3:Int),(0:Int),(0:Int),(0:Int),([119]:List UInt8),[]):Y51)]).getD 0 (default:Y51)).2.2.2.1,(([(((0:Int),(4:Int),(0:Int),(0:Int),(0:Int),([118]:List UInt8),[]):Y51),(((0:Int),(3:Int),(0:Int),(0:Int),(0:Int),([119]:List UInt8),[]):Y51)]).getD 0 (default:Y51)).2.2.2.2.1,(([(((0:Int),(4:Int),(0:Int),(0:Int),(0:Int),([118]:List UInt8),[]):Y51),(((0:Int),(3:Int),(0:Int),(0:Int),(0:Int),([119]:List UInt8),[]):Y51)]).getD 0 (default:Y51)).2.2.2.2.2.1,(([(((0:Int),(4:Int),(0:Int),(0:Int),(0:Int),([118]:List UInt8),[]):Y51),(((0:Int),(3:Int),(0:Int),(0:Int),(0:Int),([119]:List UInt8),[]):Y51)]).getD 0 (default:Y51)).2.2.2.2.2.2):Y51),(((0:Int),(3:Int),(0:Int),(0:Int),(0:Int),([118]:List UInt8),[]):Y51)])).bind fun(r3:Tq5)=>
 (f13 [] [] (BitVec.ofInt 16 0) [] [] [] ([(((0:Int),(2:Int),(0:Int),(0:Int),(1:Int),[],([111,107,32,49]:List UInt8)):Y51)])).bind fun(r4:Tq5)=>
 (f13 [] [] (BitVec.ofInt 16 0) [] [] [] ([(((0:Int),(3:Int),(0:Int),(1:Int),(0:Int),([118]:List UInt8),[]):Y51)])).bind fun(r5:Tq5)=>
 if((((((((((r1.2.2.2==(0:Int))&&((r1.1==(0:Int))&&((r1.2.1==(0:Int))&&((r1.2.2.1==(12:Int))&&true))))&&(r2.2.2==(0:Int)))&&(r2.1==(1:Int)))&&(r2.2.1==(1:Int)))&&(r3.2.2==(13:Int)))&&(r4.2.2==(0:Int)))&&(r4.2.1==(3:Int)))&&(r5.2.2==(0:Int)))&&(r5.2.1==(2:Int)))=true then(
 (f14 ([(((([(((0:Int),(4:Int),(0:Int),(0:Int),(0:Int),([118]:List UInt8),[]):Y51),(((0:Int),(3:Int),(0:Int),(0:Int),(0:Int),([119]:List UInt8),[]):Y51)]).getD 0 (default:Y51)).1,(([(((0:Int),(4:Int),(0:Int),(0:Int),(0:Int),([118]:List UInt8),[]):Y51),(((0:Int),(3:Int),(0:Int),(0:Int),(0:Int),([119]:List UInt8),[]):Y51)]).getD 0 (default:Y51)).2.1,(([(((0:Int),(4:Int),(0:Int),(0:Int),(0:Int),([118]:List UInt8),[]):Y51),(((0:Int),(3:Int),(0:Int),(0:Int),(0:Int),([119]:List UInt8),[]):Y51)]).getD 0 (default:Y51)).2.2.1,(([(((0:Int),(4:Int),(0:Int),(0:Int),(0:Int),([118]:List UInt8),[]):Y51),(((0:Int),(3:Int),(0:Int),(0:Int),(0:Int),([119]:List UInt8),[]):Y51)]).getD 0 (default:Y51)).2.2.2.1,(([(((0:Int),(4:Int),(0:Int),(0:Int),(0:Int),([118]:List UInt8),[]):Y51),(((0:Int),(3:Int),(0:Int),(0:Int),(0:Int),([119]:List UInt8),[]):Y51)]).getD 0 (default:Y51)).2.2.2.2.1,(([(((0:Int),(4:Int),(0:Int),(0:Int),(0:Int),([118]:List UInt8),[]):Y51),(((0:Int),(3:Int),(0:Int),(0:Int),(0:Int),([119]:List UInt8),[]):Y51)]).getD 0 (default:Y51)).2.2.2.2.2.1,(([(((0:Int),(4:Int),(0:Int),(0:Int),(0:Int),([118]:List UInt8),[]):Y51),(((0:Int),(3:Int),(0:Int),(0:Int),(0:Int),([119]:List UInt8),[]):Y51)]).getD 0 (default:Y51)).2.2.2.2.2.2):Y51),(((0:Int),(3:Int),(0:Int),(0:Int),(0:Int),([118]:List UInt8),[]):Y51)])).bind fun(r6:List Ty1)=>
 (f15 r6 ([([118]:List UInt8)])).bind fun(r7:Bool)=>
 some r7
 )else(
 some false
 )
theorem f11_ok (r:Bool) (h:f11=some r):aE Tryz.prog 11 [(1,.tab .u64 Lib.pow10Tab),(2,bD),(3,bD)] [] [] [] (.bool r) []:=by
 unfold f11 at h;refine aE.body 0 _ _ Tryz.func11 rfl Tryz.ntmps11 rfl rfl ?_;refine bF [] [] [1000001,1000002,1000003] [] trivial ?_;refine bF [] [] [1,1000001,1000002,1000003] [1] (an1 trivial) ?_;refine aN [] [] ⟨107,[(1,.ptr 1 0),(2,.own 21),(1000001,.tab .u64 Lib.pow10Tab),(1000002,bD),(1000003,bD)],[(1,.cells 37 [.nils,.nils,.b16 (gU 0),.nils,.nils,.nils]),(21,.rows 51 28 2 (dR 28 [.i (0:Int),.i (4:Int),.i (0:Int),.i (0:Int),.i (0:Int),.str (bJ),.str [],.i (0:Int),.i (0:Int),.i (0:Int),.i (0:Int),.i (0:Int),.str [],.i (0:Int),.i (0:Int),.i (0:Int),.i (0:Int),.i (0:Int),.str [],.str [],.nils,.nils,.i (0:Int),.str [],.nils,.nils,.nils,.nils,.i (0:Int),.i (3:Int),.i (0:Int),.i (0:Int),.i (0:Int),.str (bW),.str [],.i (0:Int),.i (0:Int),.i (0:Int),.i (0:Int),.i (0:Int),.str [],.i (0:Int),.i (0:Int),.i (0:Int),.i (0:Int),.i (0:Int),.str [],.str [],.nils,.nils,.i (0:Int),.str [],.nils,.nils,.nils,.nils]))],[],0⟩ trivial ?_;refine AWp.le (Le.mk (s':=⟨107,[(1,.ptr 1 0),(2,.own 21),(1000001,.tab .u64 Lib.pow10Tab),(1000002,bD),(1000003,bD)],[(1,.cells 37 [.nils,.nils,.b16 (gU 0),.nils,.nils,.nils]),(21,eV [(((0:Int),(4:Int),(0:Int),(0:Int),(0:Int),(bJ),[]):Y51),(((0:Int),(3:Int),(0:Int),(0:Int),(0:Int),(bW),[]):Y51)])],[],0⟩) rfl rfl ⟨.refl _,.refl _,.refl _,.refl _,.refl _,trivial⟩ ⟨⟨_,rfl,.refl _⟩,⟨_,rfl,(BLe.of (RL.lstV (enc:=lC) [(((0:Int),(4:Int),(0:Int),(0:Int),(0:Int),(bJ),[]):Y51),(((0:Int),(3:Int),(0:Int),(0:Int),(0:Int),(bW),[]):Y51)] rfl ⟨.refl _,.refl _,.refl _,.refl _,.refl _,.refl _,.refl _,VLe.opq rfl,VLe.opq rfl,VLe.opq rfl,VLe.opq rfl,VLe.opq rfl,VLe.opq rfl,VLe.opq rfl,VLe.opq rfl,VLe.opq rfl,VLe.opq rfl,VLe.opq rfl,VLe.opq rfl,VLe.opq rfl,VLe.opq rfl,VLe.opq rfl,VLe.opq rfl,VLe.opq rfl,VLe.opq rfl,VLe.opq rfl,VLe.opq rfl,VLe.opq rfl,.refl _,.refl _,.refl _,.refl _,.refl _,.refl _,.refl _,VLe.opq rfl,VLe.opq rfl,VLe.opq rfl,VLe.opq rfl,VLe.opq rfl,VLe.opq rfl,VLe.opq rfl,VLe.opq rfl,VLe.opq rfl,VLe.opq rfl,VLe.opq rfl,VLe.opq rfl,VLe.opq rfl,VLe.opq rfl,VLe.opq rfl,VLe.opq rfl,VLe.opq rfl,VLe.opq rfl,VLe.opq rfl,VLe.opq rfl,VLe.opq rfl,trivial⟩ (fun _=>rfl)))⟩,trivial⟩) ?_;refine AWp.seq ?_;obtain⟨r1,hr1,h⟩:=bind_ok h;refine bS [] [(1,⟨[aI [(((0:Int),(4:Int),(0:Int),(0:Int),(0:Int),(bJ),[]):Y51),(((0:Int),(3:Int),(0:Int),(0:Int),(0:Int),(bW),[]):Y51)]],[],[],[],.tup [.agg (f11z7 r1),.i r1.2.2.2],[],[21],[]⟩)] [1,2,3,4,1000001,1000002,1000003] [1,3,21] (an2 (cpL (c:=true) [(21,eV [(((0:Int),(4:Int),(0:Int),(0:Int),(0:Int),(bJ),[]):Y51),(((0:Int),(3:Int),(0:Int),(0:Int),(0:Int),(bW),[]):Y51)])] [21] [.own 21] (fun _=>(f22_ok _ _ hr1)) (fun _=>⟨.refl _,trivial⟩) (.inr ⟨rfl,trivial⟩)) trivial) ?_;refine tN (AWp.seq ?_);obtain⟨r2,hr2,h⟩:=bind_ok h;refine bS [] [(2,⟨[.agg [cW [],xT [],.b16 (gU 0),vL 6 eT73 (default:List UInt8×Int×BitVec 16×List (BitVec 16)×List (BitVec 16)×(wN)) [],jU [],vL 3 fQ (default:List UInt8×Bool×(wN)) []],aI [(((0:Int),(4:Int),(0:Int),(0:Int),(0:Int),(bJ),[]):Y51),(((0:Int),(3:Int),(0:Int),(0:Int),(0:Int),(bW),[]):Y51)]],[],[],[],.tup [.i r2.1,.i r2.2.1,.i r2.2.2],[],[21],[1,2,3]⟩)] [1,2,3,4,5,6,7,1000001,1000002,1000003] [1,3,21] (an1 (cpL (c:=true) [(21,eV [(((0:Int),(4:Int),(0:Int),(0:Int),(0:Int),(bJ),[]):Y51),(((0:Int),(3:Int),(0:Int),(0:Int),(0:Int),(bW),[]):Y51)])] [21] [.agg [.nils,.nils,.b16 (gU 0),.nils,.nils,.nils],.own 21] (fun _=>(wJ _ _ _ _ _ _ _ _ hr2)) (fun _=>⟨(.aggs ⟨.nilL,.nilL,.refl _,.nilL,.nilL,.nilL,trivial⟩),.refl _,trivial⟩) (.inr ⟨rfl,trivial⟩))) ?_;refine tN (AWp.seq ?_);obtain⟨ob0p,h⟩:=aB h;have ob0:0≤(0:Int)∧(0:Int)<((([(((0:Int),(4:Int),(0:Int),(0:Int),(0:Int),([118]:List UInt8),[]):Y51),(((0:Int),(3:Int),(0:Int),(0:Int),(0:Int),([119]:List UInt8),[]):Y51)]).length:Nat):Int):=⟨by omega,ob0p⟩;obtain⟨ob1,h⟩:=aB h;refine aX [] [] ⟨107,[(1,.ptr 1 0),(3,.ptr 3 0),(4,.i r1.2.2.2),(5,.i r2.1),(6,.i r2.2.1),(7,.i r2.2.2),(8,.own 38),(1000001,.tab .u64 Lib.pow10Tab),(1000002,bD),(1000003,bD)],[(1,.cells 37 [.nils,.nils,.b16 (gU 0),.nils,.nils,.nils]),(3,.cells 60 (f11z7 r1)),(38,.rows 51 28 2 (dR 28 [.i (([(((0:Int),(4:Int),(0:Int),(0:Int),(0:Int),(bJ),[]):Y51),(((0:Int),(3:Int),(0:Int),(0:Int),(0:Int),(bW),[]):Y51)]).getD 0 aH).1,.i (([(((0:Int),(4:Int),(0:Int),(0:Int),(0:Int),(bJ),[]):Y51),(((0:Int),(3:Int),(0:Int),(0:Int),(0:Int),(bW),[]):Y51)]).getD 0 aH).2.1,.i (([(((0:Int),(4:Int),(0:Int),(0:Int),(0:Int),(bJ),[]):Y51),(((0:Int),(3:Int),(0:Int),(0:Int),(0:Int),(bW),[]):Y51)]).getD 0 aH).2.2.1,.i (([(((0:Int),(4:Int),(0:Int),(0:Int),(0:Int),(bJ),[]):Y51),(((0:Int),(3:Int),(0:Int),(0:Int),(0:Int),(bW),[]):Y51)]).getD 0 aH).2.2.2.1,.i (([(((0:Int),(4:Int),(0:Int),(0:Int),(0:Int),(bJ),[]):Y51),(((0:Int),(3:Int),(0:Int),(0:Int),(0:Int),(bW),[]):Y51)]).getD 0 aH).2.2.2.2.1,.str (([(((0:Int),(4:Int),(0:Int),(0:Int),(0:Int),(bJ),[]):Y51),(((0:Int),(3:Int),(0:Int),(0:Int),(0:Int),(bW),[]):Y51)]).getD 0 aH).2.2.2.2.2.1,.str (([(((0:Int),(4:Int),(0:Int),(0:Int),(0:Int),(bJ),[]):Y51),(((0:Int),(3:Int),(0:Int),(0:Int),(0:Int),(bW),[]):Y51)]).getD 0 aH).2.2.2.2.2.2,.opq,.opq,.opq,.opq,.opq,.opq,.opq,.opq,.opq,.opq,.opq,.opq,.opq,.opq,.opq,.opq,.opq,.opq,.opq,.opq,.opq,.i (0:Int),.i (3:Int),.i (0:Int),.i (0:Int),.i (0:Int),.str (bJ),.str [],.i (0:Int),.i (0:Int),.i (0:Int),.i (0:Int),.i (0:Int),.str [],.i (0:Int),.i (0:Int),.i (0:Int),.i (0:Int),.i (0:Int),.str [],.str [],.nils,.nils,.i (0:Int),.str [],.nils,.nils,.nils,.nils]))],[],0⟩ (an2 ob0 ob1) ?_;refine tN ?_;refine AWp.le (Le.mk (s':=⟨107,[(1,.ptr 1 0),(3,.ptr 3 0),(4,.i r1.2.2.2),(5,.i r2.1),(6,.i r2.2.1),(7,.i r2.2.2),(8,.own 38),(1000001,.tab .u64 Lib.pow10Tab),(1000002,bD),(1000003,bD)],[(1,.cells 37 [.nils,.nils,.b16 (gU 0),.nils,.nils,.nils]),(3,.cells 60 (f11z7 r1)),(38,eV [(((([(((0:Int),(4:Int),(0:Int),(0:Int),(0:Int),(bJ),[]):Y51),(((0:Int),(3:Int),(0:Int),(0:Int),(0:Int),(bW),[]):Y51)]).getD 0 aH).1,(([(((0:Int),(4:Int),(0:Int),(0:Int),(0:Int),(bJ),[]):Y51),(((0:Int),(3:Int),(0:Int),(0:Int),(0:Int),(bW),[]):Y51)]).getD 0 aH).2.1,(([(((0:Int),(4:Int),(0:Int),(0:Int),(0:Int),(bJ),[]):Y51),(((0:Int),(3:Int),(0:Int),(0:Int),(0:Int),(bW),[]):Y51)]).getD 0 aH).2.2.1,(([(((0:Int),(4:Int),(0:Int),(0:Int),(0:Int),(bJ),[]):Y51),(((0:Int),(3:Int),(0:Int),(0:Int),(0:Int),(bW),[]):Y51)]).getD 0 aH).2.2.2.1,(([(((0:Int),(4:Int),(0:Int),(0:Int),(0:Int),(bJ),[]):Y51),(((0:Int),(3:Int),(0:Int),(0:Int),(0:Int),(bW),[]):Y51)]).getD 0 aH).2.2.2.2.1,(([(((0:Int),(4:Int),(0:Int),(0:Int),(0:Int),(bJ),[]):Y51),(((0:Int),(3:Int),(0:Int),(0:Int),(0:Int),(bW),[]):Y51)]).getD 0 aH).2.2.2.2.2.1,(([(((0:Int),(4:Int),(0:Int),(0:Int),(0:Int),(bJ),[]):Y51),(((0:Int),(3:Int),(0:Int),(0:Int),(0:Int),(bW),[]):Y51)]).getD 0 aH).2.2.2.2.2.2):Y51),(((0:Int),(3:Int),(0:Int),(0:Int),(0:Int),(bJ),[]):Y51)])],[],0⟩) rfl rfl ⟨.refl _,.refl _,.refl _,.refl _,.refl _,.refl _,.refl _,.refl _,.refl _,.refl _,trivial⟩ ⟨⟨_,rfl,.refl _⟩,⟨_,rfl,.refl _⟩,⟨_,rfl,(BLe.of (RL.lstV (enc:=lC) [(((([(((0:Int),(4:Int),(0:Int),(0:Int),(0:Int),(bJ),[]):Y51),(((0:Int),(3:Int),(0:Int),(0:Int),(0:Int),(bW),[]):Y51)]).getD 0 aH).1,(([(((0:Int),(4:Int),(0:Int),(0:Int),(0:Int),(bJ),[]):Y51),(((0:Int),(3:Int),(0:Int),(0:Int),(0:Int),(bW),[]):Y51)]).getD 0 aH).2.1,(([(((0:Int),(4:Int),(0:Int),(0:Int),(0:Int),(bJ),[]):Y51),(((0:Int),(3:Int),(0:Int),(0:Int),(0:Int),(bW),[]):Y51)]).getD 0 aH).2.2.1,(([(((0:Int),(4:Int),(0:Int),(0:Int),(0:Int),(bJ),[]):Y51),(((0:Int),(3:Int),(0:Int),(0:Int),(0:Int),(bW),[]):Y51)]).getD 0 aH).2.2.2.1,(([(((0:Int),(4:Int),(0:Int),(0:Int),(0:Int),(bJ),[]):Y51),(((0:Int),(3:Int),(0:Int),(0:Int),(0:Int),(bW),[]):Y51)]).getD 0 aH).2.2.2.2.1,(([(((0:Int),(4:Int),(0:Int),(0:Int),(0:Int),(bJ),[]):Y51),(((0:Int),(3:Int),(0:Int),(0:Int),(0:Int),(bW),[]):Y51)]).getD 0 aH).2.2.2.2.2.1,(([(((0:Int),(4:Int),(0:Int),(0:Int),(0:Int),(bJ),[]):Y51),(((0:Int),(3:Int),(0:Int),(0:Int),(0:Int),(bW),[]):Y51)]).getD 0 aH).2.2.2.2.2.2):Y51),(((0:Int),(3:Int),(0:Int),(0:Int),(0:Int),(bJ),[]):Y51)] rfl ⟨.refl _,.refl _,.refl _,.refl _,.refl _,.refl _,.refl _,.refl _,.refl _,.refl _,.refl _,.refl _,.refl _,.refl _,.refl _,.refl _,.refl _,.refl _,.refl _,.refl _,.refl _,.refl _,.refl _,.refl _,.refl _,.refl _,.refl _,.refl _,.refl _,.refl _,.refl _,.refl _,.refl _,.refl _,.refl _,VLe.opq rfl,VLe.opq rfl,VLe.opq rfl,VLe.opq rfl,VLe.opq rfl,VLe.opq rfl,VLe.opq rfl,VLe.opq rfl,VLe.opq rfl,VLe.opq rfl,VLe.opq rfl,VLe.opq rfl,VLe.opq rfl,VLe.opq rfl,VLe.opq rfl,VLe.opq rfl,VLe.opq rfl,VLe.opq rfl,VLe.opq rfl,VLe.opq rfl,VLe.opq rfl,trivial⟩ (fun _=>rfl)))⟩,trivial⟩) ?_;refine AWp.seq ?_;obtain⟨r3,hr3,h⟩:=bind_ok h;refine bS [] [(2,⟨[.agg [cW [],xT [],.b16 (gU 0),vL 6 eT73 (default:List UInt8×Int×BitVec 16×List (BitVec 16)×List (BitVec 16)×(wN)) [],jU [],vL 3 fQ (default:List UInt8×Bool×(wN)) []],aI [(((([(((0:Int),(4:Int),(0:Int),(0:Int),(0:Int),(bJ),[]):Y51),(((0:Int),(3:Int),(0:Int),(0:Int),(0:Int),(bW),[]):Y51)]).getD 0 aH).1,(([(((0:Int),(4:Int),(0:Int),(0:Int),(0:Int),(bJ),[]):Y51),(((0:Int),(3:Int),(0:Int),(0:Int),(0:Int),(bW),[]):Y51)]).getD 0 aH).2.1,(([(((0:Int),(4:Int),(0:Int),(0:Int),(0:Int),(bJ),[]):Y51),(((0:Int),(3:Int),(0:Int),(0:Int),(0:Int),(bW),[]):Y51)]).getD 0 aH).2.2.1,(([(((0:Int),(4:Int),(0:Int),(0:Int),(0:Int),(bJ),[]):Y51),(((0:Int),(3:Int),(0:Int),(0:Int),(0:Int),(bW),[]):Y51)]).getD 0 aH).2.2.2.1,(([(((0:Int),(4:Int),(0:Int),(0:Int),(0:Int),(bJ),[]):Y51),(((0:Int),(3:Int),(0:Int),(0:Int),(0:Int),(bW),[]):Y51)]).getD 0 aH).2.2.2.2.1,(([(((0:Int),(4:Int),(0:Int),(0:Int),(0:Int),(bJ),[]):Y51),(((0:Int),(3:Int),(0:Int),(0:Int),(0:Int),(bW),[]):Y51)]).getD 0 aH).2.2.2.2.2.1,(([(((0:Int),(4:Int),(0:Int),(0:Int),(0:Int),(bJ),[]):Y51),(((0:Int),(3:Int),(0:Int),(0:Int),(0:Int),(bW),[]):Y51)]).getD 0 aH).2.2.2.2.2.2):Y51),(((0:Int),(3:Int),(0:Int),(0:Int),(0:Int),(bJ),[]):Y51)]],[],[],[],.tup [.i r3.1,.i r3.2.1,.i r3.2.2],[],[38],[1,2,3]⟩)] [1,3,4,5,6,7,8,11,1000001,1000002,1000003] [1,3,38] (an1 (cpL (c:=true) [(38,eV [(((([(((0:Int),(4:Int),(0:Int),(0:Int),(0:Int),(bJ),[]):Y51),(((0:Int),(3:Int),(0:Int),(0:Int),(0:Int),(bW),[]):Y51)]).getD 0 aH).1,(([(((0:Int),(4:Int),(0:Int),(0:Int),(0:Int),(bJ),[]):Y51),(((0:Int),(3:Int),(0:Int),(0:Int),(0:Int),(bW),[]):Y51)]).getD 0 aH).2.1,(([(((0:Int),(4:Int),(0:Int),(0:Int),(0:Int),(bJ),[]):Y51),(((0:Int),(3:Int),(0:Int),(0:Int),(0:Int),(bW),[]):Y51)]).getD 0 aH).2.2.1,(([(((0:Int),(4:Int),(0:Int),(0:Int),(0:Int),(bJ),[]):Y51),(((0:Int),(3:Int),(0:Int),(0:Int),(0:Int),(bW),[]):Y51)]).getD 0 aH).2.2.2.1,(([(((0:Int),(4:Int),(0:Int),(0:Int),(0:Int),(bJ),[]):Y51),(((0:Int),(3:Int),(0:Int),(0:Int),(0:Int),(bW),[]):Y51)]).getD 0 aH).2.2.2.2.1,(([(((0:Int),(4:Int),(0:Int),(0:Int),(0:Int),(bJ),[]):Y51),(((0:Int),(3:Int),(0:Int),(0:Int),(0:Int),(bW),[]):Y51)]).getD 0 aH).2.2.2.2.2.1,(([(((0:Int),(4:Int),(0:Int),(0:Int),(0:Int),(bJ),[]):Y51),(((0:Int),(3:Int),(0:Int),(0:Int),(0:Int),(bW),[]):Y51)]).getD 0 aH).2.2.2.2.2.2):Y51),(((0:Int),(3:Int),(0:Int),(0:Int),(0:Int),(bJ),[]):Y51)])] [38] [.agg [.nils,.nils,.b16 (gU 0),.nils,.nils,.nils],.own 38] (fun _=>(wJ _ _ _ _ _ _ _ _ hr3)) (fun _=>⟨(.aggs ⟨.nilL,.nilL,.refl _,.nilL,.nilL,.nilL,trivial⟩),.refl _,trivial⟩) (.inr ⟨rfl,trivial⟩))) ?_;refine tN (AWp.seq ?_);obtain⟨r4,hr4,h⟩:=bind_ok h;refine bS [] [(3,⟨[.agg [cW [],xT [],.b16 (gU 0),vL 6 eT73 (default:List UInt8×Int×BitVec 16×List (BitVec 16)×List (BitVec 16)×(wN)) [],jU [],vL 3 fQ (default:List UInt8×Bool×(wN)) []],aI [(((0:Int),(2:Int),(0:Int),(0:Int),(1:Int),[],([111,107,32,49]:List UInt8)):Y51)]],[],[],[],.tup [.i r4.1,.i r4.2.1,.i r4.2.2],[],[49],[1,2,3]⟩)] [1,3,4,5,6,7,8,11,13,14,1000001,1000002,1000003] [1,3,38] (an1 (cpL (c:=true) [(49,.rows 51 28 1 (dR 28 [.i (0:Int),.i (2:Int),.i (0:Int),.i (0:Int),.i (1:Int),.str [],.str ([111,107,32,49]:List UInt8),.i (0:Int),.i (0:Int),.i (0:Int),.i (0:Int),.i (0:Int),.str [],.i (0:Int),.i (0:Int),.i (0:Int),.i (0:Int),.i (0:Int),.str [],.str [],.nils,.nils,.i (0:Int),.str [],.nils,.nils,.nils,.nils]))] [49] [.agg [.nils,.nils,.b16 (gU 0),.nils,.nils,.nils],.own 49] (fun _=>(wJ _ _ _ _ _ _ _ _ hr4)) (fun _=>⟨(.aggs ⟨.nilL,.nilL,.refl _,.nilL,.nilL,.nilL,trivial⟩),(VLe.of (RL.lstV (enc:=lC) [(((0:Int),(2:Int),(0:Int),(0:Int),(1:Int),[],([111,107,32,49]:List UInt8)):Y51)] rfl ⟨.refl _,.refl _,.refl _,.refl _,.refl _,.refl _,.refl _,VLe.opq rfl,VLe.opq rfl,VLe.opq rfl,VLe.opq rfl,VLe.opq rfl,VLe.opq rfl,VLe.opq rfl,VLe.opq rfl,VLe.opq rfl,VLe.opq rfl,VLe.opq rfl,VLe.opq rfl,VLe.opq rfl,VLe.opq rfl,VLe.opq rfl,VLe.opq rfl,VLe.opq rfl,VLe.opq rfl,VLe.opq rfl,VLe.opq rfl,VLe.opq rfl,trivial⟩ (fun _=>rfl))),trivial⟩) (.inr ⟨rfl,trivial⟩))) ?_;refine tN (AWp.seq ?_);obtain⟨r5,hr5,h⟩:=bind_ok h;refine aX [] [(3,⟨[.agg [cW [],xT [],.b16 (gU 0),vL 6 eT73 (default:List UInt8×Int×BitVec 16×List (BitVec 16)×List (BitVec 16)×(wN)) [],jU [],vL 3 fQ (default:List UInt8×Bool×(wN)) []],aI [(((0:Int),(3:Int),(0:Int),(1:Int),(0:Int),(bJ),[]):Y51)]],[],[],[],.tup [.i r5.1,.i r5.2.1,.i r5.2.2],[],[57],[1,2,3]⟩)] ⟨107,[(3,.ptr 3 0),(4,.i r1.2.2.2),(5,.i r2.1),(6,.i r2.2.1),(7,.i r2.2.2),(8,.own 38),(11,.i r3.2.2),(13,.i r4.2.1),(14,.i r4.2.2),(16,.i r5.2.1),(17,.i r5.2.2),(1000001,.tab .u64 Lib.pow10Tab),(1000002,bD),(1000003,bD)],[(3,.cells 60 (f11z7 r1)),(38,eV [(((([(((0:Int),(4:Int),(0:Int),(0:Int),(0:Int),(bJ),[]):Y51),(((0:Int),(3:Int),(0:Int),(0:Int),(0:Int),(bW),[]):Y51)]).getD 0 aH).1,(([(((0:Int),(4:Int),(0:Int),(0:Int),(0:Int),(bJ),[]):Y51),(((0:Int),(3:Int),(0:Int),(0:Int),(0:Int),(bW),[]):Y51)]).getD 0 aH).2.1,(([(((0:Int),(4:Int),(0:Int),(0:Int),(0:Int),(bJ),[]):Y51),(((0:Int),(3:Int),(0:Int),(0:Int),(0:Int),(bW),[]):Y51)]).getD 0 aH).2.2.1,(([(((0:Int),(4:Int),(0:Int),(0:Int),(0:Int),(bJ),[]):Y51),(((0:Int),(3:Int),(0:Int),(0:Int),(0:Int),(bW),[]):Y51)]).getD 0 aH).2.2.2.1,(([(((0:Int),(4:Int),(0:Int),(0:Int),(0:Int),(bJ),[]):Y51),(((0:Int),(3:Int),(0:Int),(0:Int),(0:Int),(bW),[]):Y51)]).getD 0 aH).2.2.2.2.1,(([(((0:Int),(4:Int),(0:Int),(0:Int),(0:Int),(bJ),[]):Y51),(((0:Int),(3:Int),(0:Int),(0:Int),(0:Int),(bW),[]):Y51)]).getD 0 aH).2.2.2.2.2.1,(([(((0:Int),(4:Int),(0:Int),(0:Int),(0:Int),(bJ),[]):Y51),(((0:Int),(3:Int),(0:Int),(0:Int),(0:Int),(bW),[]):Y51)]).getD 0 aH).2.2.2.2.2.2):Y51),(((0:Int),(3:Int),(0:Int),(0:Int),(0:Int),(bJ),[]):Y51)])],[],0⟩ (an1 (cpL (c:=true) [(57,.rows 51 28 1 (dR 28 [.i (0:Int),.i (3:Int),.i (0:Int),.i (1:Int),.i (0:Int),.str (bJ),.str [],.i (0:Int),.i (0:Int),.i (0:Int),.i (0:Int),.i (0:Int),.str [],.i (0:Int),.i (0:Int),.i (0:Int),.i (0:Int),.i (0:Int),.str [],.str [],.nils,.nils,.i (0:Int),.str [],.nils,.nils,.nils,.nils]))] [57] [.agg [.nils,.nils,.b16 (gU 0),.nils,.nils,.nils],.own 57] (fun _=>(wJ _ _ _ _ _ _ _ _ hr5)) (fun _=>⟨(.aggs ⟨.nilL,.nilL,.refl _,.nilL,.nilL,.nilL,trivial⟩),(VLe.of (RL.lstV (enc:=lC) [(((0:Int),(3:Int),(0:Int),(1:Int),(0:Int),(bJ),[]):Y51)] rfl ⟨.refl _,.refl _,.refl _,.refl _,.refl _,.refl _,.refl _,VLe.opq rfl,VLe.opq rfl,VLe.opq rfl,VLe.opq rfl,VLe.opq rfl,VLe.opq rfl,VLe.opq rfl,VLe.opq rfl,VLe.opq rfl,VLe.opq rfl,VLe.opq rfl,VLe.opq rfl,VLe.opq rfl,VLe.opq rfl,VLe.opq rfl,VLe.opq rfl,VLe.opq rfl,VLe.opq rfl,VLe.opq rfl,VLe.opq rfl,VLe.opq rfl,trivial⟩ (fun _=>rfl))),trivial⟩) (.inr ⟨rfl,trivial⟩))) ?_;refine tN (AWp.seq ?_);by_cases hg9_39:((((((((((r1.2.2.2==(0:Int))&&((r1.1==(0:Int))&&((r1.2.1==(0:Int))&&((r1.2.2.1==(12:Int))&&true))))&&(r2.2.2==(0:Int)))&&(r2.1==(1:Int)))&&(r2.2.1==(1:Int)))&&(r3.2.2==(13:Int)))&&(r4.2.2==(0:Int)))&&(r4.2.1==(3:Int)))&&(r5.2.2==(0:Int)))&&(r5.2.1==(2:Int)))=true
 ·
  replace h:=uK hg9_39 h;obtain⟨r6,hr6,h⟩:=bind_ok h;obtain⟨r7,hr7,h⟩:=bind_ok h;have ob2:=idA ((aBG r1)=true);have ob3:=idA ((aBG r1)=true);have ob4:true=true→(r1.2.2.2==(0:Int))=true→(aBG r1)=true:=fun _ h=>beq_iff_eq.2 h;have ob5:=idA (((zH r1)==true)=true);have ob6:=bqA (zH r1) true;have ob7:=idA ((aAN r1 r2)=true);have ob8:true=true→((zH r1)&&(r2.2.2==(0:Int)))=true→(aAN r1 r2)=true:=fun _ h=>beq_iff_eq.2 h;have ob9:=idA (((aBH r1 r2)==true)=true);have ob10:=bqA (aBH r1 r2) true;have ob11:=idA (((zG r1 r2)==true)=true);have ob12:=bqA (zG r1 r2) true;have ob13:=idA ((aAM r1 r2 r3)=true);have ob14:true=true→((zG r1 r2)&&(r3.2.2==(13:Int)))=true→(aAM r1 r2 r3)=true:=fun _ h=>beq_iff_eq.2 h;have ob15:=idA (((f11z1 r1 r2 r3 r4)==true)=true);have ob16:=bqA (f11z1 r1 r2 r3 r4) true;have ob17:=idA (((qF r1 r2 r3 r4)==true)=true);have ob18:=bqA (qF r1 r2 r3 r4) true;have ob19:=idA ((((qF r1 r2 r3 r4)&&(r5.2.2==(0:Int)))==true)=true);have ob20:=bqA ((qF r1 r2 r3 r4)&&(r5.2.2==(0:Int))) true;have ob21:=idA (true=true);have ob22:true=true→true=true→true=true:=fun _ h=>h;refine aX [] [(39,⟨[],[],[],[],(.bool true),[],[0],[]⟩),(41,⟨[aI [(((([(((0:Int),(4:Int),(0:Int),(0:Int),(0:Int),(bJ),[]):Y51),(((0:Int),(3:Int),(0:Int),(0:Int),(0:Int),(bW),[]):Y51)]).getD 0 aH).1,(([(((0:Int),(4:Int),(0:Int),(0:Int),(0:Int),(bJ),[]):Y51),(((0:Int),(3:Int),(0:Int),(0:Int),(0:Int),(bW),[]):Y51)]).getD 0 aH).2.1,(([(((0:Int),(4:Int),(0:Int),(0:Int),(0:Int),(bJ),[]):Y51),(((0:Int),(3:Int),(0:Int),(0:Int),(0:Int),(bW),[]):Y51)]).getD 0 aH).2.2.1,(([(((0:Int),(4:Int),(0:Int),(0:Int),(0:Int),(bJ),[]):Y51),(((0:Int),(3:Int),(0:Int),(0:Int),(0:Int),(bW),[]):Y51)]).getD 0 aH).2.2.2.1,(([(((0:Int),(4:Int),(0:Int),(0:Int),(0:Int),(bJ),[]):Y51),(((0:Int),(3:Int),(0:Int),(0:Int),(0:Int),(bW),[]):Y51)]).getD 0 aH).2.2.2.2.1,(([(((0:Int),(4:Int),(0:Int),(0:Int),(0:Int),(bJ),[]):Y51),(((0:Int),(3:Int),(0:Int),(0:Int),(0:Int),(bW),[]):Y51)]).getD 0 aH).2.2.2.2.2.1,(([(((0:Int),(4:Int),(0:Int),(0:Int),(0:Int),(bJ),[]):Y51),(((0:Int),(3:Int),(0:Int),(0:Int),(0:Int),(bW),[]):Y51)]).getD 0 aH).2.2.2.2.2.2):Y51),(((0:Int),(3:Int),(0:Int),(0:Int),(0:Int),(bJ),[]):Y51)]],[],[],[(6001,aM r6)],.own 6001,[6001],[38],[]⟩),(43,⟨[cW r6,cW [(bJ)]],[],[],[],.bool r7,[],[6001,104],[]⟩)] ⟨107,[(0,.bool r7)],[],[],0⟩ (ac6 (an2 ob2 ob3) ob4 (an1 ob5) ob6 (an1 ob7) ob8 (ac6 (an1 ob9) ob10 (an1 ob11) ob12 (an1 ob13) ob14 (ac6 (an1 ob15) ob16 (an1 ob17) ob18 (an1 ob19) ob20 (an4 (show((.bool (((qF r1 r2 r3 r4)&&(r5.2.2==(0:Int)))&&(r5.2.1==(2:Int)))):V)=(.bool true)from(congrArg (fun x=>((.bool x):V)) hg9_39)) (And.intro (cpL (c:=true) [(38,eV [(((([(((0:Int),(4:Int),(0:Int),(0:Int),(0:Int),(bJ),[]):Y51),(((0:Int),(3:Int),(0:Int),(0:Int),(0:Int),(bW),[]):Y51)]).getD 0 aH).1,(([(((0:Int),(4:Int),(0:Int),(0:Int),(0:Int),(bJ),[]):Y51),(((0:Int),(3:Int),(0:Int),(0:Int),(0:Int),(bW),[]):Y51)]).getD 0 aH).2.1,(([(((0:Int),(4:Int),(0:Int),(0:Int),(0:Int),(bJ),[]):Y51),(((0:Int),(3:Int),(0:Int),(0:Int),(0:Int),(bW),[]):Y51)]).getD 0 aH).2.2.1,(([(((0:Int),(4:Int),(0:Int),(0:Int),(0:Int),(bJ),[]):Y51),(((0:Int),(3:Int),(0:Int),(0:Int),(0:Int),(bW),[]):Y51)]).getD 0 aH).2.2.2.1,(([(((0:Int),(4:Int),(0:Int),(0:Int),(0:Int),(bJ),[]):Y51),(((0:Int),(3:Int),(0:Int),(0:Int),(0:Int),(bW),[]):Y51)]).getD 0 aH).2.2.2.2.1,(([(((0:Int),(4:Int),(0:Int),(0:Int),(0:Int),(bJ),[]):Y51),(((0:Int),(3:Int),(0:Int),(0:Int),(0:Int),(bW),[]):Y51)]).getD 0 aH).2.2.2.2.2.1,(([(((0:Int),(4:Int),(0:Int),(0:Int),(0:Int),(bJ),[]):Y51),(((0:Int),(3:Int),(0:Int),(0:Int),(0:Int),(bW),[]):Y51)]).getD 0 aH).2.2.2.2.2.2):Y51),(((0:Int),(3:Int),(0:Int),(0:Int),(0:Int),(bJ),[]):Y51)])] [38] [.own 38] (fun _=>(aE.ren (aU 3000 6001) (aD 3000 6001) rfl (f14_ok _ _ hr6))) (fun _=>⟨.refl _,trivial⟩) (.inr ⟨rfl,⟨(fun _ _ _ _=>eS_flat _ _),trivial⟩⟩)) (an1 ob21)) (cpL (c:=true) [(6001,aM r6),(104,.rows 9 1 1 (dR 1 [.str (bJ)]))] [6001,104] [.own 6001,.own 104] (fun _=>(f15_ok _ _ _ hr7)) (fun _=>⟨.refl _,(VLe.of (RL.lst (enc:=eS) [(bJ)] rfl rfl (fun _=>rfl))),trivial⟩) (.inr ⟨rfl,trivial⟩)) ob22)))) ?_;refine tN ?_;have hret:=Option.some.inj h;subst hret;refine AWp.ret ?_;exact bR _ rfl ⟨rfl,rfl⟩ rfl
 ·
  replace h:=uL hg9_39 h;have ob2:=idA ((aBG r1)=true);have ob3:=idA ((aBG r1)=true);have ob4:true=true→(r1.2.2.2==(0:Int))=true→(aBG r1)=true:=fun _ h=>beq_iff_eq.2 h;have ob5:=idA (((zH r1)==true)=true);have ob6:=bqA (zH r1) true;have ob7:=idA ((aAN r1 r2)=true);have ob8:true=true→((zH r1)&&(r2.2.2==(0:Int)))=true→(aAN r1 r2)=true:=fun _ h=>beq_iff_eq.2 h;have ob9:=idA (((aBH r1 r2)==true)=true);have ob10:=bqA (aBH r1 r2) true;have ob11:=idA (((zG r1 r2)==true)=true);have ob12:=bqA (zG r1 r2) true;have ob13:=idA ((aAM r1 r2 r3)=true);have ob14:true=true→((zG r1 r2)&&(r3.2.2==(13:Int)))=true→(aAM r1 r2 r3)=true:=fun _ h=>beq_iff_eq.2 h;have ob15:=idA (((f11z1 r1 r2 r3 r4)==true)=true);have ob16:=bqA (f11z1 r1 r2 r3 r4) true;have ob17:=idA (((qF r1 r2 r3 r4)==true)=true);have ob18:=bqA (qF r1 r2 r3 r4) true;have ob19:=idA ((((qF r1 r2 r3 r4)&&(r5.2.2==(0:Int)))==true)=true);have ob20:=bqA ((qF r1 r2 r3 r4)&&(r5.2.2==(0:Int))) true;have ob21:=idA (false=true);have ob22:=idA (false=true);have ob23:=idA (false=true);have ob24:true=true→false=true→false=true:=fun _ h=>h;refine aX [] [(39,⟨[],[],[],[],(.bool false),[],[0],[]⟩),(41,⟨[],[],[],[],.any,[],[],[]⟩),(43,⟨[],[],[],[],.bool false,[],[],[]⟩)] ⟨107,[(0,.bool false)],[],[],0⟩ (ac6 (an2 ob2 ob3) ob4 (an1 ob5) ob6 (an1 ob7) ob8 (ac6 (an1 ob9) ob10 (an1 ob11) ob12 (an1 ob13) ob14 (ac6 (an1 ob15) ob16 (an1 ob17) ob18 (an1 ob19) ob20 (an4 (show((.bool (((qF r1 r2 r3 r4)&&(r5.2.2==(0:Int)))&&(r5.2.1==(2:Int)))):V)=(.bool false)from(congrArg (fun x=>((.bool x):V)) (Bool.eq_false_iff.2 hg9_39))) (And.intro (show(pQ Tryz.prog false 14 [] [] [] [] [] [.own 38] [] (.any) [])from⟨nofun,nofun,.inl rfl⟩) (an1 ob21)) (And.intro (show(pQ Tryz.prog false 15 [] [] [] [] [] [.any,.bool false] [] (.bool false) [])from⟨nofun,nofun,.inl rfl⟩) (an2 ob22 ob23)) ob24)))) ?_;refine tN ?_;have hret:=Option.some.inj h;subst hret;refine AWp.ret ?_;exact bR _ rfl ⟨rfl,rfl⟩ rfl
def iS (x1:List Y51) (K1:Int→Option Bool):Nat→(Int×Nat)→Option Bool
 |0,_=>none
 |k+1,(i2,n3)=>
  if(decide ((n3:Int)<(((x1).length:Nat):Int)))then(
  chk ((n3:Int)<(((x1).length:Nat):Int))<|
  chk ((n3:Int)<(((x1).length:Nat):Int))<|
  chk (((n3:Int)+(1:Int))≤9223372036854775807)<|
  (iS x1 K1 k) ((IntKind.wrap .i64 ((IntKind.wrap .i64 (i2+((((x1.getD n3 (default:Y51)).2.2.2.2.2.1).length:Nat):Int)))+((((x1.getD n3 (default:Y51)).2.2.2.2.2.2).length:Nat):Int))),(n3+1))
  )else(
  K1 i2
  )
def f16 (x1:List Y51):Option Bool:=
 jn (fun(i4:Int)=>
 some ((decide ((((x1).length:Nat):Int)≤(60:Int)))&&(decide (i4≤(20000:Int))))
 ) fun(K1:Int→Option Bool)=>
 iS x1 K1 bB ((0:Int),0)
theorem f16_ok (x1:List Y51) (r:Bool) (h:f16 x1=some r):aE Tryz.prog 16 [] [] [] [vL 28 lC (default:Y51) x1] (.bool r) []:=by
 unfold f16 at h;refine aE.body 0 _ _ Tryz.func16 rfl Tryz.ntmps16 rfl rfl ?_;refine bF [18,25] [] [0] [] trivial ?_;refine aN [18,25] [] ⟨33,[(0,aI x1),(3,.i (0:Int))],[],[],0⟩ trivial ?_;obtain⟨K1,hK1,h⟩:=aR h;refine AWp.join (α:=Int) (fun(i4:Int)=>⟨33,[(0,aI x1),(3,.i i4)],[],[],0⟩) (fun x=>K1 x=some r) ?_ ?_
 ·
  refine aN [18,25] [] ⟨33,[(0,aI x1),(3,.i (0:Int)),(4,.i (0:Int))],[],[],0⟩ trivial ?_;refine AWp.block ?_;refine AWp.loopL (α:=Nat×(Int×Nat)) (fun x=>match x with|(_,i2,n3)=>⟨33,[(0,aI x1),(3,.i i2),(4,.i (n3:Int))],[],[],0⟩) (fun x=>iS x1 K1 x.1 x.2=some r) (fun x=>x.1) (bB,(0:Int),0) (LR (s':=⟨33,[(0,aI x1),(3,.i (0:Int)),(4,.i (0:Int))],[],[],0⟩)) h ?_
  rintro⟨k0,i2,n3⟩ h
  cases k0 with
  |zero=>exact nomatch (show none=some r from h)
  |succ k0=>
  obtain⟨C0,hC0⟩:∃C,C=iS x1 K1 k0:=⟨_,rfl⟩;replace h:=(iS.eq_2 ..).symm.trans h
  try rw[←hC0]at h
  refine AWp.seq ?_;refine aN [18,25] [] ⟨33,[(0,aI x1),(3,.i i2),(4,.i (n3:Int)),(8,.bool (decide ((n3:Int)<(lZ x1))))],[],[],0⟩ trivial ?_;refine AWp.cond (b:=(decide ((n3:Int)<(lZ x1)))) (by kernel_rfl) (fun hc1=> ?_) (fun hc1=> ?_)
  ·
   replace h:=aF hc1 h;refine AWp.skip (tN (AWp.seq (AWp.block ?_)));obtain⟨ob0p,h⟩:=aB h;have ob0:0≤(n3:Int)∧(n3:Int)<(((x1).length:Nat):Int):=⟨by omega,ob0p⟩;obtain⟨ob1p,h⟩:=aB h;have ob1:0≤(n3:Int)∧(n3:Int)<(((x1).length:Nat):Int):=⟨by omega,ob1p⟩;refine aX [18,25] [] ⟨33,[(0,aI x1),(3,.i (IntKind.wrap .i64 ((IntKind.wrap .i64 (i2+((((x1.getD n3 aH).2.2.2.2.2.1).length:Nat):Int)))+((((x1.getD n3 aH).2.2.2.2.2.2).length:Nat):Int)))),(4,.i (n3:Int))],[],[],0⟩ (an4 ob0 trivial ob1 trivial) ?_;refine kN (tN ?_);obtain⟨ob2p,h⟩:=aB h;have ob2: -9223372036854775808≤((n3:Int)+(1:Int))∧((n3:Int)+(1:Int))≤9223372036854775807:=⟨by omega,ob2p⟩;refine aX [18,25] [] ⟨33,[(0,aI x1),(3,.i (IntKind.wrap .i64 ((IntKind.wrap .i64 (i2+((((x1.getD n3 aH).2.2.2.2.2.1).length:Nat):Int)))+((((x1.getD n3 aH).2.2.2.2.2.2).length:Nat):Int)))),(4,.i (((n3+1):Nat):Int))],[],[],0⟩ (an1 ob2) ?_;rw[hC0]at h;exact lN (_,(IntKind.wrap .i64 ((IntKind.wrap .i64 (i2+((((x1.getD n3 aH).2.2.2.2.2.1).length:Nat):Int)))+((((x1.getD n3 aH).2.2.2.2.2.2).length:Nat):Int))),(n3+1)) LR h (Nat.lt_succ_self _)
  ·
   replace h:=aG hc1 h;refine AWp.exit (tE (tE (kS ?_)));exact jN (i2) LR h
 ·
  rintro i4 h;replace h:=(congrFun hK1 _).symm.trans h;refine AWp.seq ?_;have ob3:=idA (((decide ((lZ x1)≤(60:Int)))==true)=true);have ob4:=bqA (decide ((lZ x1)≤(60:Int))) true;refine aX [18,25] [] ⟨33,[(2,.bool ((decide ((lZ x1)≤(60:Int)))&&(decide (i4≤(20000:Int)))))],[],[],0⟩ (an2 (an1 ob3) ob4) ?_;refine tN ?_;have hret:=Option.some.inj h;subst hret;refine AWp.ret ?_;exact bR _ rfl ⟨rfl,rfl⟩ rfl
abbrev f52z1 (x2 x3:Int):=((x2==(4:Int))&&(decide (x3≥(0:Int))))
abbrev f52z2 (x2 x3:Int):=((x2==(3:Int))&&(decide (x3≥(0:Int))))
def f52 (x1 x2 x3 x4 x5:Int) (x6 x7:List UInt8):Option Int:=
 if(((x2==(4:Int))&&(decide (x3≥(0:Int))))&&(decide (x3<(12:Int))))then(
 some x3
 )else(
 if(((x2==(3:Int))&&(decide (x3≥(0:Int))))&&(decide (x3<(6:Int))))then(
 chk (-9223372036854775808≤((12:Int)+x3)∧((12:Int)+x3)≤9223372036854775807)<|
 some ((12:Int)+x3)
 )else(
 some (-1:Int)
 )
 )
theorem vQ (x1 x2 x3 x4 x5:Int) (x6 x7:List UInt8) (r:Int) (h:f52 x1 x2 x3 x4 x5 x6 x7=some r):aE Tryz.prog 52 [] [] [] [.agg [.int .i64 x1,.int .i64 x2,.int .i64 x3,.int .i64 x4,.int .i64 x5,.str x6,.str x7,.opq,.opq,.opq,.opq,.opq,.opq,.opq,.opq,.opq,.opq,.opq,.opq,.opq,.opq,.opq,.opq,.opq,.opq,.opq,.opq,.opq]] (.int .i64 r) []:=by
 unfold f52 at h;refine aE.body 0 _ _ Tryz.func52 rfl Tryz.ntmps52 rfl rfl ?_;refine bF [] [] [1] [1] trivial ?_;refine AWp.seq (AWp.seq ?_);have ob0:=idA (((x2==(4:Int))==true)=true);have ob1:=idA (((x2==(4:Int))==true)=true);have ob2:=bqA (x2==(4:Int)) true;have ob3:=idA (((f52z1 x2 x3)==true)=true);have ob4:=idA (((f52z1 x2 x3)==true)=true);have ob5:=bqA (f52z1 x2 x3) true;refine bS [] [] [1,15] [1] (an6 (an1 ob0) (an1 ob1) ob2 (an1 ob3) (an1 ob4) ob5) ?_;refine tN ?_;refine AWp.cond (b:=((f52z1 x2 x3)&&(decide (x3<(12:Int))))) (by kernel_rfl) (fun hc1=> ?_) (fun hc1=> ?_)
 ·
  replace h:=aF hc1 h;refine aN [] [] ⟨34,[(2,.i x3)],[],[],0⟩ trivial ?_;have hret:=Option.some.inj h;subst hret;refine AWp.ret (tR ?_);exact bR _ rfl ⟨rfl,rfl⟩ rfl
 ·
  replace h:=aG hc1 h;refine AWp.skip (tN (AWp.seq (AWp.seq ?_)));have ob6:=idA (((x2==(3:Int))==true)=true);have ob7:=idA (((x2==(3:Int))==true)=true);have ob8:=bqA (x2==(3:Int)) true;have ob9:=idA (((f52z2 x2 x3)==true)=true);have ob10:=idA (((f52z2 x2 x3)==true)=true);have ob11:=bqA (f52z2 x2 x3) true;refine bS [] [] [1,30] [1] (an6 (an1 ob6) (an1 ob7) ob8 (an1 ob9) (an1 ob10) ob11) ?_;refine tN ?_;refine AWp.cond (b:=((f52z2 x2 x3)&&(decide (x3<(6:Int))))) (by kernel_rfl) (fun hc2=> ?_) (fun hc2=> ?_)
  ·
   replace h:=aF hc2 h;refine AWp.seq ?_;obtain⟨ob12,h⟩:=aB h;refine aX [] [] ⟨34,[(2,.i ((12:Int)+x3))],[],[],0⟩ (an1 ob12) ?_;refine tN ?_;have hret:=Option.some.inj h;subst hret;refine AWp.ret (tR ?_);exact bR _ rfl ⟨rfl,rfl⟩ rfl
  ·
   replace h:=aG hc2 h;refine AWp.skip (tN ?_);refine aN [] [] ⟨34,[(2,.i (-1:Int))],[],[],0⟩ trivial ?_;have hret:=Option.some.inj h;subst hret;refine AWp.ret ?_;exact bR _ rfl ⟨rfl,rfl⟩ rfl
def mJ (x1:List Y51) (x2 x3:Int) (K1:Unit→Option (List UInt8×Bool)):Nat→Nat→Option (List UInt8×Bool)
 |0,_=>none
 |k+1,n4=>
  if(decide ((n4:Int)<(((x1).length:Nat):Int)))then(
  chk ((n4:Int)<(((x1).length:Nat):Int))<|
  chk ((((x1.getD n4 (default:Y51)).2.1==(1:Int))==true)=true→0≤(n4:Int)∧(n4:Int)<(((x1).length:Nat):Int))<|
  chk (((((x1.getD n4 (default:Y51)).2.1==(1:Int))&&((x1.getD n4 (default:Y51)).2.2.1==x2))==true)=true→0≤(n4:Int)∧(n4:Int)<(((x1).length:Nat):Int))<|
  if((((x1.getD n4 (default:Y51)).2.1==(1:Int))&&((x1.getD n4 (default:Y51)).2.2.1==x2))&&((x1.getD n4 (default:Y51)).2.2.2.2.1==x3))then(
  chk ((n4:Int)<(((x1).length:Nat):Int))<|
  some ((x1.getD n4 (default:Y51)).2.2.2.2.2.1,true)
  )else(
  chk (((n4:Int)+(1:Int))≤9223372036854775807)<|
  (mJ x1 x2 x3 K1 k) (n4+1)
  )
  )else(
  K1 ()
  )
def f94 (x1:List Y51) (x2 x3:Int):Option (List UInt8×Bool):=
 jn (fun(_:Unit)=>
 some ([],false)
 ) fun(K1:Unit→Option (List UInt8×Bool))=>
 mJ x1 x2 x3 K1 bB 0
theorem f94_ok (x1:List Y51) (x2 x3:Int) (r:List UInt8×Bool) (h:f94 x1 x2 x3=some r):aE Tryz.prog 94 [] [] [] [vL 28 lC (default:Y51) x1,.int .i64 x2,.int .i64 x3] (.tup [.str r.1,.bool r.2]) []:=by
 unfold f94 at h;refine aE.body 0 _ _ Tryz.func94 rfl Tryz.ntmps94 rfl rfl ?_;refine aN [] [] ⟨44,[(0,aI x1),(1,.i x2),(2,.i x3)],[],[],0⟩ trivial ?_;obtain⟨K1,hK1,h⟩:=aR h;refine AWp.join (fun(x:Unit)=>match x with|()=>⟨44,[],[],[],0⟩) (fun x=>K1 x=some r) ?_ ?_
 ·
  refine aN [] [] ⟨44,[(0,aI x1),(1,.i x2),(2,.i x3),(8,.i (0:Int))],[],[],0⟩ trivial ?_;refine AWp.block ?_;refine AWp.loopL (α:=Nat×Nat) (fun x=>match x with|(_,n4)=>⟨44,[(0,aI x1),(1,.i x2),(2,.i x3),(8,.i (n4:Int))],[],[],0⟩) (fun x=>mJ x1 x2 x3 K1 x.1 x.2=some r) (fun x=>x.1) (bB,0) (LR (s':=⟨44,[(0,aI x1),(1,.i x2),(2,.i x3),(8,.i (0:Int))],[],[],0⟩)) h ?_
  rintro⟨k0,n4⟩ h
  cases k0 with
  |zero=>exact nomatch (show none=some r from h)
  |succ k0=>
  obtain⟨C0,hC0⟩:∃C,C=mJ x1 x2 x3 K1 k0:=⟨_,rfl⟩;replace h:=(mJ.eq_2 ..).symm.trans h
  try rw[←hC0]at h
  refine AWp.seq ?_;refine aN [] [] ⟨44,[(0,aI x1),(1,.i x2),(2,.i x3),(8,.i (n4:Int)),(12,.bool (decide ((n4:Int)<(lZ x1))))],[],[],0⟩ trivial ?_;refine AWp.cond (b:=(decide ((n4:Int)<(lZ x1)))) (by kernel_rfl) (fun hc1=> ?_) (fun hc1=> ?_)
  ·
   replace h:=aF hc1 h;refine AWp.skip (tN (AWp.seq (AWp.block (AWp.seq ?_))));obtain⟨ob0p,h⟩:=aB h;have ob0:0≤(n4:Int)∧(n4:Int)<(((x1).length:Nat):Int):=⟨by omega,ob0p⟩;obtain⟨ob1,h⟩:=aB h;have ob2:=idA ((((x1.getD n4 aH).2.1==(1:Int))==true)=true);have ob3:=idA ((((x1.getD n4 aH).2.1==(1:Int))==true)=true);have ob4:=idA ((((x1.getD n4 aH).2.1==(1:Int))==true)=true);have ob5:=idA ((((x1.getD n4 aH).2.1==(1:Int))==true)=true);have ob6:=idA ((((x1.getD n4 aH).2.1==(1:Int))==true)=true);have ob7:=idA ((((x1.getD n4 aH).2.1==(1:Int))==true)=true);have ob8:=bqA ((x1.getD n4 aH).2.1==(1:Int)) true;obtain⟨ob9,h⟩:=aB h;have ob10:=idA (((((x1.getD n4 aH).2.1==(1:Int))&&((x1.getD n4 aH).2.2.1==x2))==true)=true);have ob11:=idA (((((x1.getD n4 aH).2.1==(1:Int))&&((x1.getD n4 aH).2.2.1==x2))==true)=true);have ob12:=idA (((((x1.getD n4 aH).2.1==(1:Int))&&((x1.getD n4 aH).2.2.1==x2))==true)=true);have ob13:=idA (((((x1.getD n4 aH).2.1==(1:Int))&&((x1.getD n4 aH).2.2.1==x2))==true)=true);have ob14:=idA (((((x1.getD n4 aH).2.1==(1:Int))&&((x1.getD n4 aH).2.2.1==x2))==true)=true);have ob15:=idA (((((x1.getD n4 aH).2.1==(1:Int))&&((x1.getD n4 aH).2.2.1==x2))==true)=true);have ob16:=bqA (((x1.getD n4 aH).2.1==(1:Int))&&((x1.getD n4 aH).2.2.1==x2)) true;refine aX [] [] ⟨44,[(0,aI x1),(1,.i x2),(2,.i x3),(8,.i (n4:Int)),(38,.bool ((((x1.getD n4 aH).2.1==(1:Int))&&((x1.getD n4 aH).2.2.1==x2))&&((x1.getD n4 aH).2.2.2.2.1==x3)))],[],[],0⟩ (ac6 ob0 (And.intro ob1 (an2 ob2 ob3)) (an1 ob4) (an1 ob5) (an2 ob6 ob7) ob8 (an5 (And.intro ob9 (an2 ob10 ob11)) (an1 ob12) (an1 ob13) (an2 ob14 ob15) ob16)) ?_;refine tN ?_;refine AWp.cond (b:=((((x1.getD n4 aH).2.1==(1:Int))&&((x1.getD n4 aH).2.2.1==x2))&&((x1.getD n4 aH).2.2.2.2.1==x3))) (by kernel_rfl) (fun hc2=> ?_) (fun hc2=> ?_)
   ·
    replace h:=aF hc2 h;refine AWp.seq ?_;obtain⟨ob17p,h⟩:=aB h;have ob17:0≤(n4:Int)∧(n4:Int)<(((x1).length:Nat):Int):=⟨by omega,ob17p⟩;refine aX [] [] ⟨44,[(6,.str (x1.getD n4 aH).2.2.2.2.2.1),(7,.bool true)],[],[],0⟩ (an1 ob17) ?_;refine tN ?_;have hret:=Option.some.inj h;subst hret;refine AWp.ret (kR (tR (tR (kR (aQ ?_)))));exact bR _ rfl ⟨rfl,rfl⟩ rfl
   ·
    replace h:=aG hc2 h;refine AWp.skip (kN (tN ?_));obtain⟨ob18p,h⟩:=aB h;have ob18: -9223372036854775808≤((n4:Int)+(1:Int))∧((n4:Int)+(1:Int))≤9223372036854775807:=⟨by omega,ob18p⟩;refine aX [] [] ⟨44,[(0,aI x1),(1,.i x2),(2,.i x3),(8,.i (((n4+1):Nat):Int))],[],[],0⟩ (an1 ob18) ?_;rw[hC0]at h;exact lN (_,(n4+1)) LR h (Nat.lt_succ_self _)
  ·
   replace h:=aG hc1 h;refine AWp.exit (tE (tE (kS ?_)));exact jN () LR h
 ·
  rintro⟨⟩ h;replace h:=(congrFun hK1 _).symm.trans h;refine aN [] [] ⟨44,[(6,.str []),(7,.bool false)],[],[],0⟩ trivial ?_;have hret:=Option.some.inj h;subst hret;refine AWp.ret ?_;exact bR _ rfl ⟨rfl,rfl⟩ rfl
def mI (x1:List Y51) (x2 x3:Int) (K1:Unit→Option (List UInt8×Bool)):Nat→Nat→Option (List UInt8×Bool)
 |0,_=>none
 |k+1,n4=>
  if(decide ((n4:Int)<(((x1).length:Nat):Int)))then(
  (f52 ((x1.getD n4 (default:Y51)).1) ((x1.getD n4 (default:Y51)).2.1) ((x1.getD n4 (default:Y51)).2.2.1) ((x1.getD n4 (default:Y51)).2.2.2.1) ((x1.getD n4 (default:Y51)).2.2.2.2.1) ((x1.getD n4 (default:Y51)).2.2.2.2.2.1) ((x1.getD n4 (default:Y51)).2.2.2.2.2.2)).bind fun(r5:Int)=>
  chk ((n4:Int)<(((x1).length:Nat):Int))<|
  chk (((r5==x2)==true)=true→0≤(n4:Int)∧(n4:Int)<(((x1).length:Nat):Int))<|
  if((r5==x2)&&((x1.getD n4 (default:Y51)).2.2.2.1==x3))then(
  chk ((n4:Int)<(((x1).length:Nat):Int))<|
  some ((x1.getD n4 (default:Y51)).2.2.2.2.2.1,true)
  )else(
  chk (((n4:Int)+(1:Int))≤9223372036854775807)<|
  (mI x1 x2 x3 K1 k) (n4+1)
  )
  )else(
  K1 ()
  )
def f95 (x1:List Y51) (x2 x3:Int):Option (List UInt8×Bool):=
 jn (fun(_:Unit)=>
 some ([],false)
 ) fun(K1:Unit→Option (List UInt8×Bool))=>
 mI x1 x2 x3 K1 bB 0
theorem f95_ok (x1:List Y51) (x2 x3:Int) (r:List UInt8×Bool) (h:f95 x1 x2 x3=some r):aE Tryz.prog 95 [] [] [] [vL 28 lC (default:Y51) x1,.int .i64 x2,.int .i64 x3] (.tup [.str r.1,.bool r.2]) []:=by
 unfold f95 at h;refine aE.body 0 _ _ Tryz.func95 rfl Tryz.ntmps95 rfl rfl ?_;refine aN [] [] ⟨36,[(0,aI x1),(1,.i x2),(2,.i x3)],[],[],0⟩ trivial ?_;obtain⟨K1,hK1,h⟩:=aR h;refine AWp.join (fun(x:Unit)=>match x with|()=>⟨36,[],[],[],0⟩) (fun x=>K1 x=some r) ?_ ?_
 ·
  refine aN [] [] ⟨36,[(0,aI x1),(1,.i x2),(2,.i x3),(8,.i (0:Int))],[],[],0⟩ trivial ?_;refine AWp.block ?_;refine AWp.loopL (α:=Nat×Nat) (fun x=>match x with|(_,n4)=>⟨36,[(0,aI x1),(1,.i x2),(2,.i x3),(8,.i (n4:Int))],[],[],0⟩) (fun x=>mI x1 x2 x3 K1 x.1 x.2=some r) (fun x=>x.1) (bB,0) (LR (s':=⟨36,[(0,aI x1),(1,.i x2),(2,.i x3),(8,.i (0:Int))],[],[],0⟩)) h ?_
  rintro⟨k0,n4⟩ h
  cases k0 with
  |zero=>exact nomatch (show none=some r from h)
  |succ k0=>
  obtain⟨C0,hC0⟩:∃C,C=mI x1 x2 x3 K1 k0:=⟨_,rfl⟩;replace h:=(mI.eq_2 ..).symm.trans h
  try rw[←hC0]at h
  refine AWp.seq ?_;refine aN [] [] ⟨36,[(0,aI x1),(1,.i x2),(2,.i x3),(8,.i (n4:Int)),(12,.bool (decide ((n4:Int)<(lZ x1))))],[],[],0⟩ trivial ?_;refine AWp.cond (b:=(decide ((n4:Int)<(lZ x1)))) (by kernel_rfl) (fun hc1=> ?_) (fun hc1=> ?_)
  ·
   replace h:=aF hc1 h;refine AWp.skip (tN (AWp.seq (AWp.block (AWp.seq ?_))));obtain⟨r5,hr5,h⟩:=bind_ok h;obtain⟨ob0p,h⟩:=aB h;have ob0:0≤(n4:Int)∧(n4:Int)<(((x1).length:Nat):Int):=⟨by omega,ob0p⟩;obtain⟨ob1,h⟩:=aB h;have ob2:=idA (((r5==x2)==true)=true);have ob3:=idA (((r5==x2)==true)=true);have ob4:=idA (((r5==x2)==true)=true);have ob5:=idA (((r5==x2)==true)=true);have ob6:=idA (((r5==x2)==true)=true);have ob7:=idA (((r5==x2)==true)=true);have ob8:=bqA (r5==x2) true;refine aX [] [(4,⟨[.agg (qpt (x1.getD n4 aH))],[],[],[],.i r5,[],[],[]⟩)] ⟨36,[(0,aI x1),(1,.i x2),(2,.i x3),(8,.i (n4:Int)),(30,.bool ((r5==x2)&&((x1.getD n4 aH).2.2.2.1==x3)))],[],[],0⟩ (ac6 ob0 (cpT (vQ _ _ _ _ _ _ _ _ hr5)) (And.intro ob1 (an2 ob2 ob3)) (an1 ob4) (an1 ob5) (an2 ob6 ob7) (an1 ob8)) ?_;refine tN ?_;refine AWp.cond (b:=((r5==x2)&&((x1.getD n4 aH).2.2.2.1==x3))) (by kernel_rfl) (fun hc2=> ?_) (fun hc2=> ?_)
   ·
    replace h:=aF hc2 h;refine AWp.seq ?_;obtain⟨ob9p,h⟩:=aB h;have ob9:0≤(n4:Int)∧(n4:Int)<(((x1).length:Nat):Int):=⟨by omega,ob9p⟩;refine aX [] [] ⟨36,[(6,.str (x1.getD n4 aH).2.2.2.2.2.1),(7,.bool true)],[],[],0⟩ (an1 ob9) ?_;refine tN ?_;have hret:=Option.some.inj h;subst hret;refine AWp.ret (kR (tR (tR (kR (aQ ?_)))));exact bR _ rfl ⟨rfl,rfl⟩ rfl
   ·
    replace h:=aG hc2 h;refine AWp.skip (kN (tN ?_));obtain⟨ob10p,h⟩:=aB h;have ob10: -9223372036854775808≤((n4:Int)+(1:Int))∧((n4:Int)+(1:Int))≤9223372036854775807:=⟨by omega,ob10p⟩;refine aX [] [] ⟨36,[(0,aI x1),(1,.i x2),(2,.i x3),(8,.i (((n4+1):Nat):Int))],[],[],0⟩ (an1 ob10) ?_;rw[hC0]at h;exact lN (_,(n4+1)) LR h (Nat.lt_succ_self _)
  ·
   replace h:=aG hc1 h;refine AWp.exit (tE (tE (kS ?_)));exact jN () LR h
 ·
  rintro⟨⟩ h;replace h:=(congrFun hK1 _).symm.trans h;refine aN [] [] ⟨36,[(6,.str []),(7,.bool false)],[],[],0⟩ trivial ?_;have hret:=Option.some.inj h;subst hret;refine AWp.ret ?_;exact bR _ rfl ⟨rfl,rfl⟩ rfl
abbrev f112z0 :List (Nat×V):=[(4,.int .i64 (0:Int)),(5,.int .i64 (0:Int))]
def aBT (x1:List UInt8) (x2:Int):Option Tq1:=
 if(x1==[])then(
 some ((0:Int),(0:Int))
 )else(
 chk ((0:Int)<((x1.length:Nat):Int))<|
 chk ((((x1.getD 0 0).toNat:Nat):Int)≤9223372036854775807)<|
 jn (fun((i3,n4):Int×Nat)=>
 if(decide (i3>x2))then(
 some ((0:Int),(0:Int))
 )else(
 some (i3,(n4:Int))
 )
 ) fun(K1:(Int×Nat)→Option Tq1)=>
 if(decide ((((x1.getD 0 0).toNat:Nat):Int)≥(128:Int)))then(
 chk (((decide (((x1.length:Nat):Int)<(2:Int)))==false)=true→0≤(1:Int)∧(1:Int)<((x1.length:Nat):Int))<|
 chk ((((decide (((x1.length:Nat):Int)<(2:Int)))||((((x1.getD 1 0).toNat:Nat):Int)==(0:Int)))==false)=true→0≤(1:Int)∧(1:Int)<((x1.length:Nat):Int))<|
 if(((decide (((x1.length:Nat):Int)<(2:Int)))||((((x1.getD 1 0).toNat:Nat):Int)==(0:Int)))||(decide ((((x1.getD 1 0).toNat:Nat):Int)≥(128:Int))))then(
 some ((0:Int),(0:Int))
 )else(
 chk (-9223372036854775808≤((((x1.getD 0 0).toNat:Nat):Int)-(128:Int))∧((((x1.getD 0 0).toNat:Nat):Int)-(128:Int))≤9223372036854775807)<|
 chk ((1:Int)<((x1.length:Nat):Int))<|
 chk ((((x1.getD 1 0).toNat:Nat):Int)≤9223372036854775807)<|
 chk (-9223372036854775808≤((128:Int) *(((x1.getD 1 0).toNat:Nat):Int))∧((128:Int) *(((x1.getD 1 0).toNat:Nat):Int))≤9223372036854775807)<|
 chk (-9223372036854775808≤(((((x1.getD 0 0).toNat:Nat):Int)-(128:Int))+(((128 *(x1.getD 1 0).toNat):Nat):Int))∧(((((x1.getD 0 0).toNat:Nat):Int)-(128:Int))+(((128 *(x1.getD 1 0).toNat):Nat):Int))≤9223372036854775807)<|
 K1 ((((((x1.getD 0 0).toNat:Nat):Int)-(128:Int))+(((128 *(x1.getD 1 0).toNat):Nat):Int)),2)
 )
 )else(
 K1 ((((x1.getD 0 0).toNat:Nat):Int),1)
 )
 )
theorem f112_ok (x1:List UInt8) (x2:Int) (r:Tq1) (h:aBT x1 x2=some r):aE Tryz.prog 112 [] [] [] [.str x1,.int .i64 x2] (.tup [.int .i64 r.1,.int .i64 r.2]) []:=by
 unfold aBT at h;refine aE.body 0 _ _ Tryz.func112 rfl Tryz.ntmps112 rfl rfl ?_;refine bF [] [] [0,1] [] trivial ?_;refine AWp.seq ?_;refine bF [] [] [0,1,9] [] trivial ?_;refine AWp.cond (b:=(x1==[])) (by kernel_rfl) (fun hc1=> ?_) (fun hc1=> ?_)
 ·
  replace h:=aF hc1 h;refine aN [] [] ⟨40,(f112z0),[],[],0⟩ trivial ?_;have hret:=Option.some.inj h;subst hret;refine AWp.ret (tR ?_);exact bR _ rfl ⟨rfl,rfl⟩ rfl
 ·
  replace h:=aG hc1 h;refine AWp.skip (tN (AWp.seq ?_));obtain⟨ob0p,h⟩:=aB h;have ob0:0≤(0:Int)∧(0:Int)<((x1.length:Nat):Int):=⟨by omega,ob0p⟩;obtain⟨ob1p,h⟩:=aB h;have ob1: -9223372036854775808≤(((x1.getD 0 0).toNat:Nat):Int)∧(((x1.getD 0 0).toNat:Nat):Int)≤9223372036854775807:=⟨by omega,ob1p⟩;refine aX [] [] ⟨40,[(0,.str x1),(1,.i x2),(6,.i (((x1.getD 0 0).toNat:Nat):Int)),(7,.i (1:Int))],[],[],0⟩ (an2 ob0 ob1) ?_;refine tN ?_;obtain⟨K1,hK1,h⟩:=aR h;refine AWp.join (fun(x:Int×Nat)=>match x with|(i3,n4)=>⟨40,[(1,.i x2),(6,.i i3),(7,.i (n4:Int))],[],[],0⟩) (fun x=>K1 x=some r) ?_ ?_
  ·
   refine aN [] [] ⟨40,[(0,.str x1),(1,.i x2),(6,.i (((x1.getD 0 0).toNat:Nat):Int)),(7,.i (1:Int)),(14,.bool (decide ((((x1.getD 0 0).toNat:Nat):Int)≥(128:Int))))],[],[],0⟩ trivial ?_;refine AWp.cond (b:=(decide ((((x1.getD 0 0).toNat:Nat):Int)≥(128:Int)))) (by kernel_rfl) (fun hc2=> ?_) (fun hc2=> ?_)
   ·
    replace h:=aF hc2 h;refine AWp.seq (AWp.seq ?_);obtain⟨ob2,h⟩:=aB h;have ob3:=idA (((decide ((lZ x1)<(2:Int)))==false)=true);have ob4:=idA (((decide ((lZ x1)<(2:Int)))==false)=true);have ob5:=bqA (decide ((lZ x1)<(2:Int))) false;obtain⟨ob6,h⟩:=aB h;have ob7:=idA ((((decide ((lZ x1)<(2:Int)))||((((x1.getD 1 0).toNat:Nat):Int)==(0:Int)))==false)=true);have ob8:=idA ((((decide ((lZ x1)<(2:Int)))||((((x1.getD 1 0).toNat:Nat):Int)==(0:Int)))==false)=true);have ob9:=bqA ((decide ((lZ x1)<(2:Int)))||((((x1.getD 1 0).toNat:Nat):Int)==(0:Int))) false;refine bS [] [] [0,1,6,27] [] (an6 (And.intro ob2 (an1 ob3)) (an1 ob4) ob5 (And.intro ob6 (an1 ob7)) (an1 ob8) ob9) ?_;refine tN ?_;refine AWp.cond (b:=(((decide ((lZ x1)<(2:Int)))||((((x1.getD 1 0).toNat:Nat):Int)==(0:Int)))||(decide ((((x1.getD 1 0).toNat:Nat):Int)≥(128:Int))))) (by kernel_rfl) (fun hc3=> ?_) (fun hc3=> ?_)
    ·
     replace h:=aF hc3 h;refine aN [] [] ⟨40,(f112z0),[],[],0⟩ trivial ?_;have hret:=Option.some.inj h;subst hret;refine AWp.ret (tR (aQ ?_));exact bR _ rfl ⟨rfl,rfl⟩ rfl
    ·
     replace h:=aG hc3 h;refine AWp.skip (tN ?_);obtain⟨ob10,ob11p,h⟩:=ck2 h;have ob11:0≤(1:Int)∧(1:Int)<((x1.length:Nat):Int):=⟨by omega,ob11p⟩;obtain⟨ob12p,h⟩:=aB h;have ob12: -9223372036854775808≤(((x1.getD 1 0).toNat:Nat):Int)∧(((x1.getD 1 0).toNat:Nat):Int)≤9223372036854775807:=⟨by omega,ob12p⟩;obtain⟨ob13,ob14,h⟩:=ck2 h;refine aX [] [] ⟨40,[(1,.i x2),(6,.i (((((x1.getD 0 0).toNat:Nat):Int)-(128:Int))+(((128 *(x1.getD 1 0).toNat):Nat):Int))),(7,.i (2:Int))],[],[],0⟩ (an5 ob10 ob11 ob12 ob13 ob14) ?_;exact jN ((((((x1.getD 0 0).toNat:Nat):Int)-(128:Int))+(((128 *(x1.getD 1 0).toNat):Nat):Int)),2) LR h
   ·
    replace h:=aG hc2 h;refine AWp.skip ?_;exact jN ((((x1.getD 0 0).toNat:Nat):Int),1) LR h
  ·
   rintro⟨i3,n4⟩ h;replace h:=(congrFun hK1 _).symm.trans h;refine AWp.seq ?_;refine bF [] [] [6,7,37] [] trivial ?_;refine AWp.cond (b:=(decide (i3>x2))) (by kernel_rfl) (fun hc4=> ?_) (fun hc4=> ?_)
   ·
    replace h:=aF hc4 h;refine aN [] [] ⟨40,(f112z0),[],[],0⟩ trivial ?_;have hret:=Option.some.inj h;subst hret;refine AWp.ret (tR ?_);exact bR _ rfl ⟨rfl,rfl⟩ rfl
   ·
    replace h:=aG hc4 h;refine AWp.skip (tN ?_);refine aN [] [] ⟨40,[(4,.i i3),(5,.i (n4:Int))],[],[],0⟩ trivial ?_;have hret:=Option.some.inj h;subst hret;refine AWp.ret ?_;exact bR _ rfl ⟨rfl,rfl⟩ rfl
def iI (x1:List UInt8) (r2:Tq1) (K1:(Int×List Ty1)→Option (Bool×List Ty1)):Nat→(Int×Nat×List Ty1)→Option (Bool×List Ty1)
 |0,_=>none
 |k+1,(i3,n4,l5)=>
  if(decide ((n4:Int)<r2.1))then(
  (aBT (x1.drop ((i3).toNat)) (200:Int)).bind fun(r6:Tq1)=>
  chk (0≤i3∧i3≤((x1.length:Nat):Int))<|
  chk (((r6.2==(0:Int))==false)=true→ -9223372036854775808≤(i3+r6.2)∧(i3+r6.2)≤9223372036854775807)<|
  chk (((r6.2==(0:Int))==false)=true→ -9223372036854775808≤((i3+r6.2)+r6.1)∧((i3+r6.2)+r6.1)≤9223372036854775807)<|
  if((r6.2==(0:Int))||(decide (((i3+r6.2)+r6.1)>((x1.length:Nat):Int))))then(
  some (false,[])
  )else(
  chk (-9223372036854775808≤(i3+r6.2)∧(i3+r6.2)≤9223372036854775807)<|
  chk (-9223372036854775808≤(i3+r6.2)∧(i3+r6.2)≤9223372036854775807)<|
  chk (-9223372036854775808≤((i3+r6.2)+r6.1)∧((i3+r6.2)+r6.1)≤9223372036854775807)<|
  chk (0≤(i3+r6.2)∧(i3+r6.2)≤((i3+r6.2)+r6.1)∧((i3+r6.2)+r6.1)≤((x1.length:Nat):Int))<|
  chk (((l5).length+1) *16≤140737488355328)<|
  chk (-9223372036854775808≤(i3+r6.2)∧(i3+r6.2)≤9223372036854775807)<|
  chk (-9223372036854775808≤((i3+r6.2)+r6.1)∧((i3+r6.2)+r6.1)≤9223372036854775807)<|
  chk (((n4:Int)+(1:Int))≤9223372036854775807)<|
  (iI x1 r2 K1 k) (((i3+r6.2)+r6.1),(n4+1),(l5++[((x1.take ((((i3+r6.2)+r6.1)).toNat)).drop (((i3+r6.2)).toNat))]))
  )
  )else(
  K1 (i3,l5)
  )
abbrev vF (r6:Tq1):=((r6.2==(0:Int))==false)
abbrev f81z1 (l5:List Ty1) (x1:List UInt8) (i3:Int) (r6:Tq1):aK:=[(5006,bL 9 1 eS [] (l5++[((x1.take ((((i3+r6.2)+r6.1)).toNat)).drop (((i3+r6.2)).toNat))]))]
abbrev f81z2 (x1:List UInt8) (r2:Tq1) (i3:Int) (n4:Nat) (r6:Tq1):List (Nat×V):=[(0,.str x1),(4,.int .i64 r2.1),(5,.int .i64 i3),(6,.own 5006),(7,.int .i64 (n4:Int)),(8,.int .i64 r6.1),(9,.int .i64 r6.2)]
abbrev f81z3 :List (Nat×V):=[(2,.own 3000),(3,.bool false)]
def f81 (x1:List UInt8):Option (Bool×List Ty1):=
 (aBT x1 (25:Int)).bind fun(r2:Tq1)=>
 if(r2.2==(0:Int))then(
 some (false,[])
 )else(
 jn (fun((i7,l8):Int×List Ty1)=>
 some ((i7==((x1.length:Nat):Int)),l8)
 ) fun(K1:(Int×List Ty1)→Option (Bool×List Ty1))=>
 iI x1 r2 K1 bB (r2.2,0,[])
 )
theorem f81_ok (x1:List UInt8) (r:Bool×List Ty1) (h:f81 x1=some r):aE Tryz.prog 81 [] [] [] [.str x1] (.tup [.own 3000,.bool r.1]) [(3000,bL 9 1 eS [] r.2)]:=by
 unfold f81 at h;refine aE.body 0 _ _ Tryz.func81 rfl Tryz.ntmps81 rfl rfl ?_;refine bF [] [] [0] [] trivial ?_;refine AWp.seq ?_;obtain⟨r2,hr2,h⟩:=bind_ok h;refine bS [] [(1,⟨[.str x1,.i (25:Int)],[],[],[],.tup [.i r2.1,.i r2.2],[],[],[]⟩)] [0,4,5] [] (an1 (cpT (f112_ok _ _ _ hr2))) ?_;refine tN (AWp.seq ?_);refine bF [] [] [0,4,5,16] [] trivial ?_;refine AWp.cond (b:=(r2.2==(0:Int))) (by kernel_rfl) (fun hc1=> ?_) (fun hc1=> ?_)
 ·
  replace h:=aF hc1 h;refine aN [] [] ⟨64,[(2,.nils),(3,.bool false)],[],[],0⟩ trivial ?_;refine AWp.le (Le.trans (Le.nilOwn 2 3000 9 1 (cB eS [] []) rfl rfl (Nat.le_of_ble_eq_true rfl)) (LR (s':=⟨64,(f81z3),[(3000,aM [])],[],0⟩))) ?_;have hret:=Option.some.inj h;subst hret;refine AWp.le (LR (s':=⟨64,(f81z3),[(3000,aM [])],[],0⟩)) ?_;refine AWp.ret (tR ?_);exact bR _ rfl ⟨rfl,rfl⟩ rfl
 ·
  replace h:=aG hc1 h;refine AWp.skip (tN ?_);refine aN [] [] ⟨64,[(0,.str x1),(4,.i r2.1),(5,.i r2.2),(6,.nils)],[],[],0⟩ trivial ?_;obtain⟨K1,hK1,h⟩:=aR h;refine AWp.join (fun(x:Int×List Ty1)=>match x with|(i7,l8)=>⟨64,[(0,.str x1),(5,.i i7),(6,.own 5006)],[(5006,aM l8)],[],0⟩) (fun x=>K1 x=some r) ?_ ?_
  ·
   refine aN [] [] ⟨64,[(0,.str x1),(4,.i r2.1),(5,.i r2.2),(6,.nils),(7,.i (0:Int))],[],[],0⟩ trivial ?_;refine AWp.block ?_;refine AWp.loopL (α:=Nat×(Int×Nat×List Ty1)) (fun x=>match x with|(_,i3,n4,l5)=>⟨64,[(0,.str x1),(4,.i r2.1),(5,.i i3),(6,.own 5006),(7,.i (n4:Int))],[(5006,aM l5)],[],0⟩) (fun x=>iI x1 r2 K1 x.1 x.2=some r) (fun x=>x.1) (bB,r2.2,0,[]) (Le.trans (Le.trans (Le.nilOwn 6 5006 9 1 (cB eS [] []) rfl rfl (Nat.le_of_ble_eq_true rfl)) (LR (s':=⟨64,[(0,.str x1),(4,.i r2.1),(5,.i r2.2),(6,.own 5006),(7,.i (0:Int))],[(5006,aM [])],[],0⟩))) (LR (s':=⟨64,[(0,.str x1),(4,.i r2.1),(5,.i r2.2),(6,.own 5006),(7,.i (0:Int))],[(5006,aM [])],[],0⟩))) h ?_
   rintro⟨k0,i3,n4,l5⟩ h
   cases k0 with
   |zero=>exact nomatch (show none=some r from h)
   |succ k0=>
   obtain⟨C0,hC0⟩:∃C,C=iI x1 r2 K1 k0:=⟨_,rfl⟩;replace h:=(iI.eq_2 ..).symm.trans h
   try rw[←hC0]at h
   refine AWp.seq ?_;refine aN [] [] ⟨64,[(0,.str x1),(4,.i r2.1),(5,.i i3),(6,.own 5006),(7,.i (n4:Int)),(19,.bool (decide ((n4:Int)<r2.1)))],[(5006,aM l5)],[],0⟩ trivial ?_;refine AWp.cond (b:=(decide ((n4:Int)<r2.1))) (by kernel_rfl) (fun hc2=> ?_) (fun hc2=> ?_)
   ·
    replace h:=aF hc2 h;refine AWp.skip (tN (AWp.seq (AWp.block (AWp.seq ?_))));obtain⟨r6,hr6,h⟩:=bind_ok h;obtain⟨ob0,h⟩:=aB h;refine bS [] [(3,⟨[.str (x1.drop ((i3).toNat)),.i (200:Int)],[],[],[],.tup [.i r6.1,.i r6.2],[],[],[]⟩)] [0,4,5,6,7,8,9] [5006] (an2 ob0 (cpT (f112_ok _ _ _ hr6))) ?_;refine tN (AWp.seq (AWp.seq ?_));obtain⟨ob1,h⟩:=aB h;have ob2:=idA ((vF r6)=true);have ob3:=idA ((vF r6)=true);obtain⟨ob4,h⟩:=aB h;have ob5:=idA ((vF r6)=true);have ob6:=idA ((vF r6)=true);have ob7:=idA ((vF r6)=true);have ob8:=idA ((vF r6)=true);have ob9:=idA ((vF r6)=true);have ob10:true=true→(r6.2==(0:Int))=false→(vF r6)=true:=fun _ h=>beq_iff_eq.2 h;refine bS [] [] [0,4,5,6,7,8,9,40] [5006] (an5 (And.intro ob1 (an2 ob2 ob3)) (And.intro ob4 (an2 ob5 ob6)) (an1 ob7) (an2 ob8 ob9) ob10) ?_;refine tN ?_;refine AWp.cond (b:=((r6.2==(0:Int))||(decide (((i3+r6.2)+r6.1)>(lZ x1))))) (by kernel_rfl) (fun hc3=> ?_) (fun hc3=> ?_)
    ·
     replace h:=aF hc3 h;refine aN [] [] ⟨64,[(2,.nils),(3,.bool false)],[],[],0⟩ trivial ?_;refine AWp.le (Le.trans (Le.nilOwn 2 3000 9 1 (cB eS [] []) rfl rfl (Nat.le_of_ble_eq_true rfl)) (LR (s':=⟨64,(f81z3),[(3000,aM [])],[],0⟩))) ?_;have hret:=Option.some.inj h;subst hret;refine AWp.le (LR (s':=⟨64,(f81z3),[(3000,aM [])],[],0⟩)) ?_;refine AWp.ret (tR (kR (tR (tR (kR (aQ ?_))))));exact bR _ rfl ⟨rfl,rfl⟩ rfl
    ·
     replace h:=aG hc3 h;refine AWp.skip (tN (AWp.seq ?_));obtain⟨ob11,ob12,ob13,ob14,ob15,h⟩:=ck5 h;refine aX [] [] ⟨64,(f81z2 x1 r2 i3 n4 r6),[(5006,.rows 9 1 ((l5).length+1) (gZ (l5).length (cB eS [] l5) (dR 1 [.str ((x1.take ((((i3+r6.2)+r6.1)).toNat)).drop (((i3+r6.2)).toNat))])))],[],0⟩ (an5 ob11 ob12 ob13 ob14 ob15) ?_;refine tN ?_;refine AWp.le (Le.mk (s':=⟨64,(f81z2 x1 r2 i3 n4 r6),(f81z1 l5 x1 i3 r6),[],0⟩) rfl rfl ⟨.refl _,.refl _,.refl _,.refl _,.refl _,.refl _,.refl _,trivial⟩ ⟨⟨_,rfl,(BLe.of (RL.app (RL.self _) (RL.lst (enc:=eS) [((x1.take ((((i3+r6.2)+r6.1)).toNat)).drop (((i3+r6.2)).toNat))] rfl rfl (fun _=>rfl))))⟩,trivial⟩) ?_;obtain⟨ob16,ob17,h⟩:=ck2 h;refine aX [] [] ⟨64,[(0,.str x1),(4,.i r2.1),(5,.i ((i3+r6.2)+r6.1)),(6,.own 5006),(7,.i (n4:Int))],(f81z1 l5 x1 i3 r6),[],0⟩ (an2 ob16 ob17) ?_;refine kN (tN ?_);obtain⟨ob18p,h⟩:=aB h;have ob18: -9223372036854775808≤((n4:Int)+(1:Int))∧((n4:Int)+(1:Int))≤9223372036854775807:=⟨by omega,ob18p⟩;refine aX [] [] ⟨64,[(0,.str x1),(4,.i r2.1),(5,.i ((i3+r6.2)+r6.1)),(6,.own 5006),(7,.i (((n4+1):Nat):Int))],(f81z1 l5 x1 i3 r6),[],0⟩ (an1 ob18) ?_;rw[hC0]at h;exact lN (_,((i3+r6.2)+r6.1),(n4+1),(l5++[((x1.take ((((i3+r6.2)+r6.1)).toNat)).drop (((i3+r6.2)).toNat))])) LR h (Nat.lt_succ_self _)
   ·
    replace h:=aG hc2 h;refine AWp.exit (tE (tE (kS ?_)));exact jN (i3,l5) LR h
  ·
   rintro⟨i7,l8⟩ h;replace h:=(congrFun hK1 _).symm.trans h;refine aN [] [] ⟨64,[(2,.own 5006),(3,.bool (i7==(lZ x1)))],[(5006,aM l8)],[],0⟩ trivial ?_;refine AWp.le (Le.trans (Le.ren (aU 5006 3000) (aD 5006 3000) rfl) (LR (s':=⟨64,[(2,.own 3000),(3,.bool (i7==(lZ x1)))],[(3000,aM l8)],[],0⟩))) ?_;have hret:=Option.some.inj h;subst hret;refine AWp.le (LR (s':=⟨64,[(2,.own 3000),(3,.bool (i7==(lZ x1)))],[(3000,aM l8)],[],0⟩)) ?_;refine AWp.ret ?_;exact bR _ rfl ⟨rfl,rfl⟩ rfl
def f88 :Nat→Int→Option Ty1
 |0,_=>none
 |k+1,x1=>
  if(decide (x1<(10:Int)))then(
  chk (-9223372036854775808≤((48:Int)+x1)∧((48:Int)+x1)≤9223372036854775807)<|
  chk (0≤((48:Int)+x1)∧((48:Int)+x1)≤255)<|
  some [UInt8.ofNat ((((48:Int)+x1)).toNat)]
  )else(
  ((f88 k) (x1/(10:Int))).bind fun(r2:List UInt8)=>
  chk (0≤x1∧1≤(10:Int)∧ -9223372036854775808≤(x1/(10:Int))∧(x1/(10:Int))≤9223372036854775807)<|
  chk (0≤x1∧1≤(10:Int))<|
  chk (-9223372036854775808≤((48:Int)+(x1%(10:Int)))∧((48:Int)+(x1%(10:Int)))≤9223372036854775807)<|
  chk (0≤((48:Int)+(x1%(10:Int)))∧((48:Int)+(x1%(10:Int)))≤255)<|
  chk (r2.length+[UInt8.ofNat ((((48:Int)+(x1%(10:Int)))).toNat)].length≤9223372036854775807)<|
  some (r2++[UInt8.ofNat ((((48:Int)+(x1%(10:Int)))).toNat)])
  )
theorem aAr :∀(k:Nat) (x1:Int) (r:List UInt8),f88 k x1=some r→aE Tryz.prog 88 [] [] [] [.int .i64 x1] (.str r) []:=by
 intro k
 induction k with
 |zero=>intro x1 r h;exact nomatch (show none=some r from h)
 |succ k ih=>
 intro x1 r h;obtain⟨Frec,hFrec⟩:∃C,C=f88 k:=⟨_,rfl⟩;rw[f88.eq_2]at h;rw[←hFrec]at h ih;refine aE.body 0 _ _ Tryz.func88 rfl Tryz.ntmps88 rfl rfl ?_;refine bF [] [] [0] [] trivial ?_;refine AWp.seq ?_;refine bF [] [] [0,4] [] trivial ?_;refine AWp.cond (b:=(decide (x1<(10:Int)))) (by kernel_rfl) (fun hc1=> ?_) (fun hc1=> ?_)
 ·
  replace h:=aF hc1 h;refine AWp.seq ?_;obtain⟨ob0,ob1,h⟩:=ck2 h;have ob2:∀i,i<1→isByte ((dR 1 [.int .u8 ((48:Int)+x1)]) i 0):=fun i hi=>match i,hi with|0,_=>trivial
  refine aX [] [] ⟨20,[(2,.str [UInt8.ofNat ((((48:Int)+x1)).toNat)])],[],[],0⟩ (an3 ob0 ob1 ob2) ?_;refine tN ?_;have hret:=Option.some.inj h;subst hret;refine AWp.ret (tR ?_);exact bR _ rfl ⟨rfl,rfl⟩ rfl
 ·
  replace h:=aG hc1 h;refine AWp.skip (tN (AWp.seq ?_));obtain⟨r2,hr2,h⟩:=bind_ok h;obtain⟨ob3,ob4,ob5,ob6,h⟩:=ck4 h;have ob7:∀i,i<1→isByte ((dR 1 [.int .u8 ((48:Int)+(x1%(10:Int)))]) i 0):=fun i hi=>match i,hi with|0,_=>trivial
  obtain⟨ob8,h⟩:=aB h;refine aX [] [(2,⟨[.i (x1/(10:Int))],[],[],[],.str r2,[],[],[]⟩)] ⟨20,[(2,.str (r2++[UInt8.ofNat ((((48:Int)+(x1%(10:Int)))).toNat)]))],[],[],0⟩ (ac6 ob3 (cpT (ih _ _ hr2)) ob4 ob5 ob6 ob7 (an1 ob8)) ?_;refine tN ?_;have hret:=Option.some.inj h;subst hret;refine AWp.ret ?_;exact bR _ rfl ⟨rfl,rfl⟩ rfl
def fI (x1:List UInt8) (K1:Int→Option Int):Nat→(Int×Nat)→Option Int
 |0,_=>none
 |k+1,(i2,n3)=>
  if(decide ((n3:Int)<((x1.length:Nat):Int)))then(
  chk ((n3:Int)<((x1.length:Nat):Int))<|
  chk (((decide ((((x1.getD n3 0).toNat:Nat):Int)<(48:Int)))==false)=true→0≤(n3:Int)∧(n3:Int)<((x1.length:Nat):Int))<|
  if(((decide ((((x1.getD n3 0).toNat:Nat):Int)<(48:Int)))||(decide ((((x1.getD n3 0).toNat:Nat):Int)>(57:Int))))||(decide ((n3:Int)>(6:Int))))then(
  some (-1:Int)
  )else(
  chk (-9223372036854775808≤((10:Int) *i2)∧((10:Int) *i2)≤9223372036854775807)<|
  chk ((n3:Int)<((x1.length:Nat):Int))<|
  chk (0≤((((x1.getD n3 0).toNat:Nat):Int)-(48:Int))∧((((x1.getD n3 0).toNat:Nat):Int)-(48:Int))≤255)<|
  chk (-9223372036854775808≤((((x1.getD n3 0).toNat:Nat):Int)-(48:Int))∧((((x1.getD n3 0).toNat:Nat):Int)-(48:Int))≤9223372036854775807)<|
  chk (-9223372036854775808≤(((10:Int) *i2)+((((x1.getD n3 0).toNat:Nat):Int)-(48:Int)))∧(((10:Int) *i2)+((((x1.getD n3 0).toNat:Nat):Int)-(48:Int)))≤9223372036854775807)<|
  chk (((n3:Int)+(1:Int))≤9223372036854775807)<|
  (fI x1 K1 k) ((((10:Int) *i2)+((((x1.getD n3 0).toNat:Nat):Int)-(48:Int))),(n3+1))
  )
  )else(
  K1 i2
  )
def f82 (x1:List UInt8):Option Int:=
 jn (fun(i4:Int)=>
 fS ((x1==[])==false) (f88 bB i4) fun(r5:List UInt8)=>
 if((x1==[])||(!(r5==x1)))then(
 some (-1:Int)
 )else(
 some i4
 )
 ) fun(K1:Int→Option Int)=>
 fI x1 K1 bB ((0:Int),0)
theorem f82_ok (x1:List UInt8) (r:Int) (h:f82 x1=some r):aE Tryz.prog 82 [] [] [] [.str x1] (.int .i64 r) []:=by
 unfold f82 at h;refine aE.body 0 _ _ Tryz.func82 rfl Tryz.ntmps82 rfl rfl ?_;refine bF [] [] [0] [] trivial ?_;refine aN [] [] ⟨42,[(0,.str x1),(3,.i (0:Int))],[],[],0⟩ trivial ?_;obtain⟨K1,hK1,h⟩:=aR h;refine AWp.join (α:=Int) (fun(i4:Int)=>⟨42,[(0,.str x1),(3,.i i4)],[],[],0⟩) (fun x=>K1 x=some r) ?_ ?_
 ·
  refine aN [] [] ⟨42,[(0,.str x1),(3,.i (0:Int)),(4,.i (0:Int))],[],[],0⟩ trivial ?_;refine AWp.block ?_;refine AWp.loopL (α:=Nat×(Int×Nat)) (fun x=>match x with|(_,i2,n3)=>⟨42,[(0,.str x1),(3,.i i2),(4,.i (n3:Int))],[],[],0⟩) (fun x=>fI x1 K1 x.1 x.2=some r) (fun x=>x.1) (bB,(0:Int),0) (LR (s':=⟨42,[(0,.str x1),(3,.i (0:Int)),(4,.i (0:Int))],[],[],0⟩)) h ?_
  rintro⟨k0,i2,n3⟩ h
  cases k0 with
  |zero=>exact nomatch (show none=some r from h)
  |succ k0=>
  obtain⟨C0,hC0⟩:∃C,C=fI x1 K1 k0:=⟨_,rfl⟩;replace h:=(fI.eq_2 ..).symm.trans h
  try rw[←hC0]at h
  refine AWp.seq ?_;refine aN [] [] ⟨42,[(0,.str x1),(3,.i i2),(4,.i (n3:Int)),(8,.bool (decide ((n3:Int)<(lZ x1))))],[],[],0⟩ trivial ?_;refine AWp.cond (b:=(decide ((n3:Int)<(lZ x1)))) (by kernel_rfl) (fun hc1=> ?_) (fun hc1=> ?_)
  ·
   replace h:=aF hc1 h;refine AWp.skip (tN (AWp.seq (AWp.block (AWp.seq (AWp.seq ?_)))));obtain⟨ob0p,h⟩:=aB h;have ob0:0≤(n3:Int)∧(n3:Int)<((x1.length:Nat):Int):=⟨by omega,ob0p⟩;obtain⟨ob1,h⟩:=aB h;have ob2:=idA (((decide ((((x1.getD n3 0).toNat:Nat):Int)<(48:Int)))==false)=true);have ob3:=idA (((decide ((((x1.getD n3 0).toNat:Nat):Int)<(48:Int)))==false)=true);have ob4:=idA (((decide ((((x1.getD n3 0).toNat:Nat):Int)<(48:Int)))==false)=true);have ob5:=bqA (decide ((((x1.getD n3 0).toNat:Nat):Int)<(48:Int))) false;have ob6:=idA ((((decide ((((x1.getD n3 0).toNat:Nat):Int)<(48:Int)))||(decide ((((x1.getD n3 0).toNat:Nat):Int)>(57:Int))))==false)=true);have ob7:=bqA ((decide ((((x1.getD n3 0).toNat:Nat):Int)<(48:Int)))||(decide ((((x1.getD n3 0).toNat:Nat):Int)>(57:Int)))) false;refine bS [] [] [0,3,4,24] [] (an6 ob0 (And.intro ob1 (an2 ob2 ob3)) (an1 ob4) ob5 (an1 ob6) ob7) ?_;refine tN ?_;refine AWp.cond (b:=(((decide ((((x1.getD n3 0).toNat:Nat):Int)<(48:Int)))||(decide ((((x1.getD n3 0).toNat:Nat):Int)>(57:Int))))||(decide ((n3:Int)>(6:Int))))) (by kernel_rfl) (fun hc2=> ?_) (fun hc2=> ?_)
   ·
    replace h:=aF hc2 h;refine aN [] [] ⟨42,[(2,.i (-1:Int))],[],[],0⟩ trivial ?_;have hret:=Option.some.inj h;subst hret;refine AWp.ret (tR (kR (tR (tR (kR (aQ ?_))))));exact bR _ rfl ⟨rfl,rfl⟩ rfl
   ·
    replace h:=aG hc2 h;refine AWp.skip (tN ?_);obtain⟨ob8,ob9p,h⟩:=ck2 h;have ob9:0≤(n3:Int)∧(n3:Int)<((x1.length:Nat):Int):=⟨by omega,ob9p⟩;obtain⟨ob10,ob11,ob12,h⟩:=ck3 h;refine aX [] [] ⟨42,[(0,.str x1),(3,.i (((10:Int) *i2)+((((x1.getD n3 0).toNat:Nat):Int)-(48:Int)))),(4,.i (n3:Int))],[],[],0⟩ (an5 ob8 ob9 ob10 ob11 ob12) ?_;refine kN (tN ?_);obtain⟨ob13p,h⟩:=aB h;have ob13: -9223372036854775808≤((n3:Int)+(1:Int))∧((n3:Int)+(1:Int))≤9223372036854775807:=⟨by omega,ob13p⟩;refine aX [] [] ⟨42,[(0,.str x1),(3,.i (((10:Int) *i2)+((((x1.getD n3 0).toNat:Nat):Int)-(48:Int)))),(4,.i (((n3+1):Nat):Int))],[],[],0⟩ (an1 ob13) ?_;rw[hC0]at h;exact lN (_,(((10:Int) *i2)+((((x1.getD n3 0).toNat:Nat):Int)-(48:Int))),(n3+1)) LR h (Nat.lt_succ_self _)
  ·
   replace h:=aG hc1 h;refine AWp.exit (tE (tE (kS ?_)));exact jN (i2) LR h
 ·
  rintro i4 h;replace h:=(congrFun hK1 _).symm.trans h;refine AWp.seq (AWp.seq ?_);obtain⟨r5,hr5,h⟩:=bZ h;have ob14:=idA (((x1==[])==false)=true);have ob15:=idA (((x1==[])==false)=true);have ob16:=idA (((x1==[])==false)=true);have ob17:=bqA (x1==[]) false;refine bS [] [(4,⟨[.i i4],[],[],[],.str r5,[],[],[]⟩)] [3,40] [] (an3 (And.intro (cpC fun hc=>(aAr bB _ _ (hr5 hc))) (an1 ob14)) (an2 ob15 ob16) ob17) ?_;refine tN ?_;refine AWp.cond (b:=((x1==[])||(!(r5==x1)))) (by kernel_rfl) (fun hc3=> ?_) (fun hc3=> ?_)
  ·
   replace h:=aF hc3 h;refine aN [] [] ⟨42,[(2,.i (-1:Int))],[],[],0⟩ trivial ?_;have hret:=Option.some.inj h;subst hret;refine AWp.ret (tR ?_);exact bR _ rfl ⟨rfl,rfl⟩ rfl
  ·
   replace h:=aG hc3 h;refine AWp.skip (tN ?_);refine aN [] [] ⟨42,[(2,.i i4)],[],[],0⟩ trivial ?_;have hret:=Option.some.inj h;subst hret;refine AWp.ret ?_;exact bR _ rfl ⟨rfl,rfl⟩ rfl
abbrev aAP (x1:Int):=((decide (x1<(0:Int)))||(decide (x1≥(6:Int))))
abbrev aAO (x1 x2:Int):=((aAP x1)||(decide (x2<(1:Int))))
abbrev f119z2 (x1:Int):=((decide (x1<(0:Int)))==false)
def f119 (x1 x2:Int) (x3:List UInt8):Option Int:=
 if((((decide (x1<(0:Int)))||(decide (x1≥(6:Int))))||(decide (x2<(1:Int))))||(decide (x2>(1000000:Int))))then(
 some (7:Int)
 )else(
 if(x3==[])then(
 some (9:Int)
 )else(
 if(decide (((x3.length:Nat):Int)>(200:Int)))then(
 some (3:Int)
 )else(
 some (0:Int)
 )
 )
 )
theorem f119_ok (x1 x2:Int) (x3:List UInt8) (r:Int) (h:f119 x1 x2 x3=some r):aE Tryz.prog 119 [] [] [] [.agg [.int .i64 x1,.int .i64 x2,.str x3]] (.int .i64 r) []:=by
 unfold f119 at h;refine aE.body 0 _ _ Tryz.func119 rfl Tryz.ntmps119 rfl rfl ?_;refine bF [] [] [1] [1] trivial ?_;refine AWp.seq (AWp.seq ?_);have ob0:=idA ((f119z2 x1)=true);have ob1:=idA ((f119z2 x1)=true);have ob2:true=true→(decide (x1<(0:Int)))=false→(f119z2 x1)=true:=fun _ h=>beq_iff_eq.2 h;have ob3:=idA (((aAP x1)==false)=true);have ob4:=idA (((aAP x1)==false)=true);have ob5:=bqA (aAP x1) false;have ob6:=idA (((aAO x1 x2)==false)=true);have ob7:=idA (((aAO x1 x2)==false)=true);have ob8:=bqA (aAO x1 x2) false;refine bS [] [] [1,20] [1] (ac6 (an1 ob0) (an1 ob1) ob2 (an1 ob3) (an1 ob4) ob5 (an3 (an1 ob6) (an1 ob7) ob8)) ?_;refine tN ?_;refine AWp.cond (b:=((aAO x1 x2)||(decide (x2>(1000000:Int))))) (by kernel_rfl) (fun hc1=> ?_) (fun hc1=> ?_)
 ·
  replace h:=aF hc1 h;refine aN [] [] ⟨28,[(2,.i (7:Int))],[],[],0⟩ trivial ?_;have hret:=Option.some.inj h;subst hret;refine AWp.ret (tR ?_);exact bR _ rfl ⟨rfl,rfl⟩ rfl
 ·
  replace h:=aG hc1 h;refine AWp.skip (tN (AWp.seq ?_));refine bF [] [] [1,23] [1] trivial ?_;refine AWp.cond (b:=(x3==[])) (by kernel_rfl) (fun hc2=> ?_) (fun hc2=> ?_)
  ·
   replace h:=aF hc2 h;refine aN [] [] ⟨28,[(2,.i (9:Int))],[],[],0⟩ trivial ?_;have hret:=Option.some.inj h;subst hret;refine AWp.ret (tR ?_);exact bR _ rfl ⟨rfl,rfl⟩ rfl
  ·
   replace h:=aG hc2 h;refine AWp.skip (tN (AWp.seq ?_));refine bF [] [] [27] [] trivial ?_;refine AWp.cond (b:=(decide ((lZ x3)>(200:Int)))) (by kernel_rfl) (fun hc3=> ?_) (fun hc3=> ?_)
   ·
    replace h:=aF hc3 h;refine aN [] [] ⟨28,[(2,.i (3:Int))],[],[],0⟩ trivial ?_;have hret:=Option.some.inj h;subst hret;refine AWp.ret (tR ?_);exact bR _ rfl ⟨rfl,rfl⟩ rfl
   ·
    replace h:=aG hc3 h;refine AWp.skip (tN ?_);refine aN [] [] ⟨28,[(2,.i (0:Int))],[],[],0⟩ trivial ?_;have hret:=Option.some.inj h;subst hret;refine AWp.ret ?_;exact bR _ rfl ⟨rfl,rfl⟩ rfl
def f149 (x1 x2:Int) (x3:List UInt8) (x4 x5:Int) (x6:List UInt8):Option Bool:=
 some ((x1==x4)&&(x2==x5))
theorem f149_ok (x1 x2:Int) (x3:List UInt8) (x4 x5:Int) (x6:List UInt8) (r:Bool) (h:f149 x1 x2 x3 x4 x5 x6=some r):aE Tryz.prog 149 [] [] [] [.agg [.int .i64 x1,.int .i64 x2,.str x3],.agg [.int .i64 x4,.int .i64 x5,.str x6]] (.bool r) []:=by
 unfold f149 at h;refine aE.body 0 _ _ Tryz.func149 rfl Tryz.ntmps149 rfl rfl ?_;refine bF [] [] [2,3] [2,3] trivial ?_;refine AWp.seq ?_;have ob0:=idA (((x1==x4)==true)=true);have ob1:=idA (((x1==x4)==true)=true);have ob2:=idA (((x1==x4)==true)=true);have ob3:=idA (((x1==x4)==true)=true);have ob4:=bqA (x1==x4) true;refine aX [] [] ⟨17,[(4,.bool ((x1==x4)&&(x2==x5)))],[],[],0⟩ (an4 (an1 ob0) (an1 ob1) (an2 ob2 ob3) ob4) ?_;refine tN ?_;have hret:=Option.some.inj h;subst hret;refine AWp.ret ?_;exact bR _ rfl ⟨rfl,rfl⟩ rfl
def gK (x1:List Tq0) (x2 x3:Int) (x4:List UInt8) (K1:Unit→Option Bool):Nat→Nat→Option Bool
 |0,_=>none
 |k+1,n5=>
  if(decide ((n5:Int)<(((x1).length:Nat):Int)))then(
  (f149 ((x1.getD n5 (default:Tq0)).1) ((x1.getD n5 (default:Tq0)).2.1) ((x1.getD n5 (default:Tq0)).2.2) x2 x3 x4).bind fun(r6:Bool)=>
  chk ((n5:Int)<(((x1).length:Nat):Int))<|
  if r6 then(
  some true
  )else(
  chk (((n5:Int)+(1:Int))≤9223372036854775807)<|
  (gK x1 x2 x3 x4 K1 k) (n5+1)
  )
  )else(
  K1 ()
  )
abbrev pK (x2 x3:Int) (x4:List UInt8):aK:=[(3,.cells 88 [.int .i64 x2,.int .i64 x3,.str x4])]
def f120 (x1:List Tq0) (x2 x3:Int) (x4:List UInt8):Option Bool:=
 jn (fun(_:Unit)=>
 some false
 ) fun(K1:Unit→Option Bool)=>
 gK x1 x2 x3 x4 K1 bB 0
theorem f120_ok (x1:List Tq0) (x2 x3:Int) (x4:List UInt8) (r:Bool) (h:f120 x1 x2 x3 x4=some r):aE Tryz.prog 120 [] [] [] [vL 3 bU (default:Tq0) x1,.agg [.int .i64 x2,.int .i64 x3,.str x4]] (.bool r) []:=by
 unfold f120 at h;refine aE.body 0 _ _ Tryz.func120 rfl Tryz.ntmps120 rfl rfl ?_;refine aN [] [] ⟨18,[(0,aT x1),(3,.ptr 3 0)],(pK x2 x3 x4),[],0⟩ trivial ?_;obtain⟨K1,hK1,h⟩:=aR h;refine AWp.join (fun(x:Unit)=>match x with|()=>⟨18,[],[],[],0⟩) (fun x=>K1 x=some r) ?_ ?_
 ·
  refine aN [] [] ⟨18,[(0,aT x1),(3,.ptr 3 0),(5,.i (0:Int))],(pK x2 x3 x4),[],0⟩ trivial ?_;refine AWp.block ?_;refine AWp.loopL (α:=Nat×Nat) (fun x=>match x with|(_,n5)=>⟨18,[(0,aT x1),(3,.ptr 3 0),(5,.i (n5:Int))],(pK x2 x3 x4),[],0⟩) (fun x=>gK x1 x2 x3 x4 K1 x.1 x.2=some r) (fun x=>x.1) (bB,0) (LR (s':=⟨18,[(0,aT x1),(3,.ptr 3 0),(5,.i (0:Int))],(pK x2 x3 x4),[],0⟩)) h ?_
  rintro⟨k0,n5⟩ h
  cases k0 with
  |zero=>exact nomatch (show none=some r from h)
  |succ k0=>
  obtain⟨C0,hC0⟩:∃C,C=gK x1 x2 x3 x4 K1 k0:=⟨_,rfl⟩;replace h:=(gK.eq_2 ..).symm.trans h
  try rw[←hC0]at h
  refine AWp.seq ?_;refine aN [] [] ⟨18,[(0,aT x1),(3,.ptr 3 0),(5,.i (n5:Int)),(9,.bool (decide ((n5:Int)<(lZ x1))))],(pK x2 x3 x4),[],0⟩ trivial ?_;refine AWp.cond (b:=(decide ((n5:Int)<(lZ x1)))) (by kernel_rfl) (fun hc1=> ?_) (fun hc1=> ?_)
  ·
   replace h:=aF hc1 h;refine AWp.skip (tN (AWp.seq (AWp.block (AWp.seq ?_))));obtain⟨r6,hr6,h⟩:=bind_ok h;obtain⟨ob0p,h⟩:=aB h;have ob0:0≤(n5:Int)∧(n5:Int)<(((x1).length:Nat):Int):=⟨by omega,ob0p⟩;refine aX [] [(5,⟨[.agg [.i (x1.getD n5 bA).1,.i (x1.getD n5 bA).2.1,.str (x1.getD n5 bA).2.2],.agg [.i x2,.i x3,.str x4]],[],[],[],.bool r6,[],[],[]⟩)] ⟨18,[(0,aT x1),(3,.ptr 3 0),(5,.i (n5:Int)),(17,.bool r6)],(pK x2 x3 x4),[],0⟩ (an2 ob0 (cpT (f149_ok _ _ _ _ _ _ _ hr6))) ?_;refine tN ?_;refine AWp.cond (b:=r6) (by kernel_rfl) (fun hc2=> ?_) (fun hc2=> ?_)
   ·
    replace h:=aF hc2 h;refine aN [] [] ⟨18,[(4,.bool true)],[],[],0⟩ trivial ?_;have hret:=Option.some.inj h;subst hret;refine AWp.ret (kR (tR (tR (kR (aQ ?_)))));exact bR _ rfl ⟨rfl,rfl⟩ rfl
   ·
    replace h:=aG hc2 h;refine AWp.skip (kN (tN ?_));obtain⟨ob1p,h⟩:=aB h;have ob1: -9223372036854775808≤((n5:Int)+(1:Int))∧((n5:Int)+(1:Int))≤9223372036854775807:=⟨by omega,ob1p⟩;refine aX [] [] ⟨18,[(0,aT x1),(3,.ptr 3 0),(5,.i (((n5+1):Nat):Int))],(pK x2 x3 x4),[],0⟩ (an1 ob1) ?_;rw[hC0]at h;exact lN (_,(n5+1)) LR h (Nat.lt_succ_self _)
  ·
   replace h:=aG hc1 h;refine AWp.exit (tE (tE (kS ?_)));exact jN () LR h
 ·
  rintro⟨⟩ h;replace h:=(congrFun hK1 _).symm.trans h;refine aN [] [] ⟨18,[(4,.bool false)],[],[],0⟩ trivial ?_;have hret:=Option.some.inj h;subst hret;refine AWp.ret ?_;exact bR _ rfl ⟨rfl,rfl⟩ rfl
def jL (x1:List Tq0) (K1:Unit→Option Int):Nat→Nat→Option Int
 |0,_=>none
 |k+1,n2=>
  if(decide ((n2:Int)<(((x1).length:Nat):Int)))then(
  (f119 ((x1.getD n2 (default:Tq0)).1) ((x1.getD n2 (default:Tq0)).2.1) ((x1.getD n2 (default:Tq0)).2.2)).bind fun(r3:Int)=>
  chk ((n2:Int)<(((x1).length:Nat):Int))<|
  if(r3 !=(0:Int))then(
  some r3
  )else(
  (f120 (x1.take n2) ((x1.getD n2 (default:Tq0)).1) ((x1.getD n2 (default:Tq0)).2.1) ((x1.getD n2 (default:Tq0)).2.2)).bind fun(r4:Bool)=>
  chk ((n2:Int)≤(((x1).length:Nat):Int))<|
  chk ((n2:Int)<(((x1).length:Nat):Int))<|
  if r4 then(
  some (5:Int)
  )else(
  chk (((n2:Int)+(1:Int))≤9223372036854775807)<|
  (jL x1 K1 k) (n2+1)
  )
  )
  )else(
  K1 ()
  )
abbrev f86z0 (x1:List Tq0) (n2:Nat):List V:=[.int .i64 (x1.getD n2 (default:Tq0)).1,.int .i64 (x1.getD n2 (default:Tq0)).2.1,.str (x1.getD n2 (default:Tq0)).2.2]
def f86 (x1:List Tq0):Option Int:=
 jn (fun(_:Unit)=>
 some (0:Int)
 ) fun(K1:Unit→Option Int)=>
 jL x1 K1 bB 0
theorem f86_ok (x1:List Tq0) (r:Int) (h:f86 x1=some r):aE Tryz.prog 86 [] [] [] [vL 3 bU (default:Tq0) x1] (.int .i64 r) []:=by
 unfold f86 at h;refine aE.body 0 _ _ Tryz.func86 rfl Tryz.ntmps86 rfl rfl ?_;refine aN [] [] ⟨27,[(0,aT x1)],[],[],0⟩ trivial ?_;obtain⟨K1,hK1,h⟩:=aR h;refine AWp.join (fun(x:Unit)=>match x with|()=>⟨27,[],[],[],0⟩) (fun x=>K1 x=some r) ?_ ?_
 ·
  refine aN [] [] ⟨27,[(0,aT x1),(3,.i (0:Int))],[],[],0⟩ trivial ?_;refine AWp.block ?_;refine AWp.loopL (α:=Nat×Nat) (fun x=>match x with|(_,n2)=>⟨27,[(0,aT x1),(3,.i (n2:Int))],[],[],0⟩) (fun x=>jL x1 K1 x.1 x.2=some r) (fun x=>x.1) (bB,0) (LR (s':=⟨27,[(0,aT x1),(3,.i (0:Int))],[],[],0⟩)) h ?_
  rintro⟨k0,n2⟩ h
  cases k0 with
  |zero=>exact nomatch (show none=some r from h)
  |succ k0=>
  obtain⟨C0,hC0⟩:∃C,C=jL x1 K1 k0:=⟨_,rfl⟩;replace h:=(jL.eq_2 ..).symm.trans h
  try rw[←hC0]at h
  refine AWp.seq ?_;refine aN [] [] ⟨27,[(0,aT x1),(3,.i (n2:Int)),(8,.bool (decide ((n2:Int)<(lZ x1))))],[],[],0⟩ trivial ?_;refine AWp.cond (b:=(decide ((n2:Int)<(lZ x1)))) (by kernel_rfl) (fun hc1=> ?_) (fun hc1=> ?_)
  ·
   replace h:=aF hc1 h;refine AWp.skip (tN (AWp.seq (AWp.block (AWp.seq (AWp.seq ?_)))));obtain⟨r3,hr3,h⟩:=bind_ok h;obtain⟨ob0p,h⟩:=aB h;have ob0:0≤(n2:Int)∧(n2:Int)<(((x1).length:Nat):Int):=⟨by omega,ob0p⟩;refine bS [] [(4,⟨[.agg (f86z0 x1 n2)],[],[],[],.i r3,[],[],[]⟩)] [0,3,4] [] (an2 ob0 (cpT (f119_ok _ _ _ _ hr3))) ?_;refine tN ?_;refine bF [] [] [0,3,4,17] [] trivial ?_;refine AWp.cond (b:=(r3 !=(0:Int))) (by kernel_rfl) (fun hc2=> ?_) (fun hc2=> ?_)
   ·
    replace h:=aF hc2 h;refine aN [] [] ⟨27,[(2,.i r3)],[],[],0⟩ trivial ?_;have hret:=Option.some.inj h;subst hret;refine AWp.ret (tR (kR (tR (tR (kR (aQ ?_))))));exact bR _ rfl ⟨rfl,rfl⟩ rfl
   ·
    replace h:=aG hc2 h;refine AWp.skip (tN (AWp.seq ?_));obtain⟨r4,hr4,h⟩:=bind_ok h;obtain⟨ob1p,h⟩:=aB h;have ob1:0≤(n2:Int)∧(n2:Int)≤(((x1).length:Nat):Int):=⟨by omega,ob1p⟩;obtain⟨ob2p,h⟩:=aB h;have ob2:0≤(n2:Int)∧(n2:Int)<(((x1).length:Nat):Int):=⟨by omega,ob2p⟩;refine aX [] [(7,⟨[aT (x1.take n2),.agg (f86z0 x1 n2)],[],[],[],.bool r4,[],[],[]⟩)] ⟨27,[(0,aT x1),(3,.i (n2:Int)),(26,.bool r4)],[],[],0⟩ (an3 ob1 ob2 (cpL (c:=true) [] [] [.arr 3 n2 (cB bU bA x1),.agg (f86z0 x1 n2)] (fun _=>(f120_ok _ _ _ _ _ hr4)) (fun _=>⟨(VLe.takeL (by first|omega|(simp only[List.length_append,List.length_cons,List.length_nil,List.length_take,List.length_drop]at *;omega)|(simp;done)|(simp_all;done)|(simp_all;omega)|rfl)),.refl _,trivial⟩) (.inl rfl))) ?_;refine tN ?_;refine AWp.cond (b:=r4) (by kernel_rfl) (fun hc3=> ?_) (fun hc3=> ?_)
    ·
     replace h:=aF hc3 h;refine aN [] [] ⟨27,[(2,.i (5:Int))],[],[],0⟩ trivial ?_;have hret:=Option.some.inj h;subst hret;refine AWp.ret (kR (tR (tR (kR (aQ ?_)))));exact bR _ rfl ⟨rfl,rfl⟩ rfl
    ·
     replace h:=aG hc3 h;refine AWp.skip (kN (tN ?_));obtain⟨ob3p,h⟩:=aB h;have ob3: -9223372036854775808≤((n2:Int)+(1:Int))∧((n2:Int)+(1:Int))≤9223372036854775807:=⟨by omega,ob3p⟩;refine aX [] [] ⟨27,[(0,aT x1),(3,.i (((n2+1):Nat):Int))],[],[],0⟩ (an1 ob3) ?_;rw[hC0]at h;exact lN (_,(n2+1)) LR h (Nat.lt_succ_self _)
  ·
   replace h:=aG hc1 h;refine AWp.exit (tE (tE (kS ?_)));exact jN () LR h
 ·
  rintro⟨⟩ h;replace h:=(congrFun hK1 _).symm.trans h;refine aN [] [] ⟨27,[(2,.i (0:Int))],[],[],0⟩ trivial ?_;have hret:=Option.some.inj h;subst hret;refine AWp.ret ?_;exact bR _ rfl ⟨rfl,rfl⟩ rfl
def aBS :Nat→Int→Option Ty1
 |0,_=>none
 |k+1,x1=>
  if(decide (x1<(128:Int)))then(
  chk (0≤x1∧x1≤255)<|
  some [UInt8.ofNat ((x1).toNat)]
  )else(
  ((aBS k) (x1/(128:Int))).bind fun(r2:List UInt8)=>
  chk (0≤x1∧1≤(128:Int))<|
  chk (-9223372036854775808≤((x1%(128:Int))+(128:Int))∧((x1%(128:Int))+(128:Int))≤9223372036854775807)<|
  chk (0≤((x1%(128:Int))+(128:Int))∧((x1%(128:Int))+(128:Int))≤255)<|
  chk (0≤x1∧1≤(128:Int)∧ -9223372036854775808≤(x1/(128:Int))∧(x1/(128:Int))≤9223372036854775807)<|
  chk ([UInt8.ofNat ((((x1%(128:Int))+(128:Int))).toNat)].length+r2.length≤9223372036854775807)<|
  some ([UInt8.ofNat ((((x1%(128:Int))+(128:Int))).toNat)]++r2)
  )
theorem f121_ok :∀(k:Nat) (x1:Int) (r:List UInt8),aBS k x1=some r→aE Tryz.prog 121 [] [] [] [.int .i64 x1] (.str r) []:=by
 intro k
 induction k with
 |zero=>intro x1 r h;exact nomatch (show none=some r from h)
 |succ k ih=>
 intro x1 r h;obtain⟨Frec,hFrec⟩:∃C,C=aBS k:=⟨_,rfl⟩;rw[aBS.eq_2]at h;rw[←hFrec]at h ih;refine aE.body 0 _ _ Tryz.func121 rfl Tryz.ntmps121 rfl rfl ?_;refine bF [] [] [0] [] trivial ?_;refine AWp.seq ?_;refine bF [] [] [0,4] [] trivial ?_;refine AWp.cond (b:=(decide (x1<(128:Int)))) (by kernel_rfl) (fun hc1=> ?_) (fun hc1=> ?_)
 ·
  replace h:=aF hc1 h;refine AWp.seq ?_;obtain⟨ob0,h⟩:=aB h;have ob1:∀i,i<1→isByte ((dR 1 [.int .u8 x1]) i 0):=fun i hi=>match i,hi with|0,_=>trivial
  refine aX [] [] ⟨19,[(2,.str [UInt8.ofNat ((x1).toNat)])],[],[],0⟩ (an2 ob0 ob1) ?_;refine tN ?_;have hret:=Option.some.inj h;subst hret;refine AWp.ret (tR ?_);exact bR _ rfl ⟨rfl,rfl⟩ rfl
 ·
  replace h:=aG hc1 h;refine AWp.skip (tN (AWp.seq ?_));obtain⟨r2,hr2,h⟩:=bind_ok h;obtain⟨ob2,ob3,ob4,h⟩:=ck3 h;have ob5:∀i,i<1→isByte ((dR 1 [.int .u8 ((x1%(128:Int))+(128:Int))]) i 0):=fun i hi=>match i,hi with|0,_=>trivial
  obtain⟨ob6,ob7,h⟩:=ck2 h;refine aX [] [(8,⟨[.i (x1/(128:Int))],[],[],[],.str r2,[],[],[]⟩)] ⟨19,[(2,.str ([UInt8.ofNat ((((x1%(128:Int))+(128:Int))).toNat)]++r2))],[],[],0⟩ (ac6 ob2 ob3 ob4 ob5 ob6 (cpT (ih _ _ hr2)) (an1 ob7)) ?_;refine tN ?_;have hret:=Option.some.inj h;subst hret;refine AWp.ret ?_;exact bR _ rfl ⟨rfl,rfl⟩ rfl
def iH (x1:List Ty1) (K1:Ty1→Option Ty1):Nat→(List UInt8×Nat)→Option Ty1
 |0,_=>none
 |k+1,(s3,n4)=>
  if(decide ((n4:Int)<(((x1).length:Nat):Int)))then(
  (aBS bB (((x1.getD n4 []).length:Nat):Int)).bind fun(r5:List UInt8)=>
  chk ((n4:Int)<(((x1).length:Nat):Int))<|
  chk (s3.length+r5.length≤9223372036854775807)<|
  chk ((n4:Int)<(((x1).length:Nat):Int))<|
  chk ((s3++r5).length+(x1.getD n4 []).length≤9223372036854775807)<|
  chk (((n4:Int)+(1:Int))≤9223372036854775807)<|
  (iH x1 K1 k) (((s3++r5)++(x1.getD n4 [])),(n4+1))
  )else(
  K1 s3
  )
def f87 (x1:List Ty1):Option Ty1:=
 (aBS bB (((x1).length:Nat):Int)).bind fun(r2:List UInt8)=>
 jn (fun(s6:List UInt8)=>
 some s6
 ) fun(K1:Ty1→Option Ty1)=>
 iH x1 K1 bB (r2,0)
theorem f87_ok (x1:List Ty1) (r:List UInt8) (h:f87 x1=some r):aE Tryz.prog 87 [] [] [] [vL 1 eS [] x1] (.str r) []:=by
 unfold f87 at h;refine aE.body 0 _ _ Tryz.func87 rfl Tryz.ntmps87 rfl rfl ?_;refine bF [] [] [0] [] trivial ?_;refine AWp.seq ?_;obtain⟨r2,hr2,h⟩:=bind_ok h;refine aX [] [(2,⟨[.i (lZ x1)],[],[],[],.str r2,[],[],[]⟩)] ⟨28,[(0,cW x1),(3,.str r2)],[],[],0⟩ (an1 (cpT (f121_ok bB _ _ hr2))) ?_;refine tN ?_;obtain⟨K1,hK1,h⟩:=aR h;refine AWp.join (α:=List UInt8) (fun(s6:List UInt8)=>⟨28,[(3,.str s6)],[],[],0⟩) (fun x=>K1 x=some r) ?_ ?_
 ·
  refine aN [] [] ⟨28,[(0,cW x1),(3,.str r2),(4,.i (0:Int))],[],[],0⟩ trivial ?_;refine AWp.block ?_;refine AWp.loopL (α:=Nat×(List UInt8×Nat)) (fun x=>match x with|(_,s3,n4)=>⟨28,[(0,cW x1),(3,.str s3),(4,.i (n4:Int))],[],[],0⟩) (fun x=>iH x1 K1 x.1 x.2=some r) (fun x=>x.1) (bB,r2,0) (LR (s':=⟨28,[(0,cW x1),(3,.str r2),(4,.i (0:Int))],[],[],0⟩)) h ?_
  rintro⟨k0,s3,n4⟩ h
  cases k0 with
  |zero=>exact nomatch (show none=some r from h)
  |succ k0=>
  obtain⟨C0,hC0⟩:∃C,C=iH x1 K1 k0:=⟨_,rfl⟩;replace h:=(iH.eq_2 ..).symm.trans h
  try rw[←hC0]at h
  refine AWp.seq ?_;refine aN [] [] ⟨28,[(0,cW x1),(3,.str s3),(4,.i (n4:Int)),(11,.bool (decide ((n4:Int)<(lZ x1))))],[],[],0⟩ trivial ?_;refine AWp.cond (b:=(decide ((n4:Int)<(lZ x1)))) (by kernel_rfl) (fun hc1=> ?_) (fun hc1=> ?_)
  ·
   replace h:=aF hc1 h;refine AWp.skip (tN (AWp.seq (AWp.block ?_)));obtain⟨r5,hr5,h⟩:=bind_ok h;obtain⟨ob0p,h⟩:=aB h;have ob0:0≤(n4:Int)∧(n4:Int)<(((x1).length:Nat):Int):=⟨by omega,ob0p⟩;obtain⟨ob1,ob2p,h⟩:=ck2 h;have ob2:0≤(n4:Int)∧(n4:Int)<(((x1).length:Nat):Int):=⟨by omega,ob2p⟩;obtain⟨ob3,h⟩:=aB h;refine aX [] [(6,⟨[.i (((x1.getD n4 []).length:Nat):Int)],[],[],[],.str r5,[],[],[]⟩)] ⟨28,[(0,cW x1),(3,.str ((s3++r5)++(x1.getD n4 []))),(4,.i (n4:Int))],[],[],0⟩ (an5 ob0 (cpT (f121_ok bB _ _ hr5)) ob1 ob2 ob3) ?_;refine kN (tN ?_);obtain⟨ob4p,h⟩:=aB h;have ob4: -9223372036854775808≤((n4:Int)+(1:Int))∧((n4:Int)+(1:Int))≤9223372036854775807:=⟨by omega,ob4p⟩;refine aX [] [] ⟨28,[(0,cW x1),(3,.str ((s3++r5)++(x1.getD n4 []))),(4,.i (((n4+1):Nat):Int))],[],[],0⟩ (an1 ob4) ?_;rw[hC0]at h;exact lN (_,((s3++r5)++(x1.getD n4 [])),(n4+1)) LR h (Nat.lt_succ_self _)
  ·
   replace h:=aG hc1 h;refine AWp.exit (tE (tE (kS ?_)));exact jN (s3) LR h
 ·
  rintro s6 h;replace h:=(congrFun hK1 _).symm.trans h;refine aN [] [] ⟨28,[(2,.str s6)],[],[],0⟩ trivial ?_;have hret:=Option.some.inj h;subst hret;refine AWp.ret ?_;exact bR _ rfl ⟨rfl,rfl⟩ rfl
def iK (x3:List Tq0) (K1:(List Ty1)→Option Ty1):Nat→(Nat×List Ty1)→Option Ty1
 |0,_=>none
 |k+1,(n7,l8)=>
  if(decide ((n7:Int)<(((x3).length:Nat):Int)))then(
  chk ((n7:Int)<(((x3).length:Nat):Int))<|
  (f88 bB ((x3.getD n7 (default:Tq0)).1)).bind fun(r9:List UInt8)=>
  (f88 bB ((x3.getD n7 (default:Tq0)).2.1)).bind fun(r10:List UInt8)=>
  chk (((l8).length+3) *16≤140737488355328)<|
  chk (((n7:Int)+(1:Int))≤9223372036854775807)<|
  (iK x3 K1 k) ((n7+1),(l8++[r9,r10,(x3.getD n7 (default:Tq0)).2.2]))
  )else(
  K1 l8
  )
abbrev qC (x1 x2:Int) (x3:List Tq0):List V:=[.int .i64 x1,.int .i64 x2,vL 3 bU (default:Tq0) x3]
abbrev yP (x3:List Tq0) (n7:Nat):=(x3.getD n7 (default:Tq0))
abbrev f65z2 (n7:Nat):List (Nat×V):=[(1,.ptr 1 0),(3,.own 19),(4,.int .i64 (n7:Int))]
def f65 (x1 x2:Int) (x3:List Tq0):Option Ty1:=
 if(x1==(2:Int))then(
 (f88 bB x2).bind fun(r4:List UInt8)=>
 (f87 ([([106,111,105,110]:List UInt8),r4])).bind fun(r5:List UInt8)=>
 some r5
 )else(
 if(x1==(3:Int))then(
 (f87 [cs1]).bind fun(r6:List UInt8)=>
 some r6
 )else(
 jn (fun(l11:List Ty1)=>
 (f87 l11).bind fun(r12:List UInt8)=>
 some r12
 ) fun(K1:(List Ty1)→Option Ty1)=>
 iK x3 K1 bB (0,[cs2])
 )
 )
theorem f65_ok (x1 x2:Int) (x3:List Tq0) (r:List UInt8) (h:f65 x1 x2 x3=some r):aE Tryz.prog 65 [] [] [] [.agg [.int .i64 x1,.int .i64 x2,vL 3 bU (default:Tq0) x3]] (.str r) []:=by
 unfold f65 at h;refine aE.body 0 _ _ Tryz.func65 rfl Tryz.ntmps65 rfl rfl ?_;refine bF [] [] [1] [1] trivial ?_;refine AWp.seq ?_;refine bF [] [] [1,7] [1] trivial ?_;refine AWp.block ?_;refine bF [] [] [1,7,8] [1] trivial ?_;refine AWp.cond (b:=(x1==(2:Int))) (by kernel_rfl) (fun hc1=> ?_) (fun hc1=> ?_)
 ·
  replace h:=aF hc1 h;refine AWp.seq ?_;obtain⟨r4,hr4,h⟩:=bind_ok h;obtain⟨r5,hr5,h⟩:=bind_ok h;refine aX [] [(2,⟨[.i x2],[],[],[],.str r4,[],[],[]⟩),(4,⟨[cW [([106,111,105,110]:List UInt8),r4]],[],[],[],.str r5,[],[13],[]⟩)] ⟨45,[(2,.str r5)],[],[],0⟩ (an2 (cpT (aAr bB _ _ hr4)) (cpL (c:=true) [(13,.rows 9 1 2 (dR 1 [.str ([106,111,105,110]:List UInt8),.str r4]))] [13] [.own 13] (fun _=>(f87_ok _ _ hr5)) (fun _=>⟨(VLe.of (RL.lst (enc:=eS) [([106,111,105,110]:List UInt8),r4] rfl rfl (fun _=>rfl))),trivial⟩) (.inr ⟨rfl,trivial⟩))) ?_;refine tN ?_;have hret:=Option.some.inj h;subst hret;refine AWp.ret (kR (tR ?_));exact bR _ rfl ⟨rfl,rfl⟩ rfl
 ·
  replace h:=aG hc1 h;refine aN [] [] ⟨45,[(1,.ptr 1 0),(15,.bool (x1==(3:Int)))],[(1,.cells 100 (qC x1 x2 x3))],[],0⟩ trivial ?_;refine AWp.cond (b:=(x1==(3:Int))) (by kernel_rfl) (fun hc2=> ?_) (fun hc2=> ?_)
  ·
   replace h:=aF hc2 h;refine AWp.seq ?_;obtain⟨r6,hr6,h⟩:=bind_ok h;refine aX [] [(1,⟨[cW [cs1]],[],[],[],.str r6,[],[17],[]⟩)] ⟨45,[(2,.str r6)],[],[],0⟩ (an1 (cpL (c:=true) [(17,.rows 9 1 1 (dR 1 [.str cs1]))] [17] [.own 17] (fun _=>(f87_ok _ _ hr6)) (fun _=>⟨(VLe.of (RL.lst (enc:=eS) [cs1] rfl rfl (fun _=>rfl))),trivial⟩) (.inr ⟨rfl,trivial⟩))) ?_;refine tN ?_;have hret:=Option.some.inj h;subst hret;refine AWp.ret (kR (tR ?_));exact bR _ rfl ⟨rfl,rfl⟩ rfl
  ·
   replace h:=aG hc2 h;refine AWp.skip (kN (tN ?_));refine aN [] [] ⟨45,[(1,.ptr 1 0),(3,.own 19)],[(1,.cells 100 (qC x1 x2 x3)),(19,.rows 9 1 1 (dR 1 [.str cs2]))],[],0⟩ trivial ?_;refine AWp.le (Le.mk (s':=⟨45,[(1,.ptr 1 0),(3,.own 19)],[(1,.cells 100 (qC x1 x2 x3)),(19,aM [cs2])],[],0⟩) rfl rfl ⟨.refl _,.refl _,trivial⟩ ⟨⟨_,rfl,.refl _⟩,⟨_,rfl,(BLe.of (RL.lst (enc:=eS) [cs2] rfl rfl (fun _=>rfl)))⟩,trivial⟩) ?_;obtain⟨K1,hK1,h⟩:=aR h;refine AWp.join (α:=List Ty1) (fun(l11:List Ty1)=>⟨45,[(3,.own 19)],[(19,aM l11)],[],0⟩) (fun x=>K1 x=some r) ?_ ?_
   ·
    refine aN [] [] ⟨45,[(1,.ptr 1 0),(3,.own 19),(4,.i (0:Int))],[(1,.cells 100 (qC x1 x2 x3)),(19,aM [cs2])],[],0⟩ trivial ?_;refine AWp.block ?_;refine AWp.loopL (α:=Nat×(Nat×List Ty1)) (fun x=>match x with|(_,n7,l8)=>⟨45,(f65z2 n7),[(1,.cells 100 (qC x1 x2 x3)),(19,aM l8)],[],0⟩) (fun x=>iK x3 K1 x.1 x.2=some r) (fun x=>x.1) (bB,0,[cs2]) (LR (s':=⟨45,[(1,.ptr 1 0),(3,.own 19),(4,.i (0:Int))],[(1,.cells 100 (qC x1 x2 x3)),(19,aM [cs2])],[],0⟩)) h ?_
    rintro⟨k0,n7,l8⟩ h
    cases k0 with
    |zero=>exact nomatch (show none=some r from h)
    |succ k0=>
    obtain⟨C0,hC0⟩:∃C,C=iK x3 K1 k0:=⟨_,rfl⟩;replace h:=(iK.eq_2 ..).symm.trans h
    try rw[←hC0]at h
    refine AWp.seq ?_;refine aN [] [] ⟨45,[(1,.ptr 1 0),(3,.own 19),(4,.i (n7:Int)),(24,.bool (decide ((n7:Int)<(lZ x3))))],[(1,.cells 100 (qC x1 x2 x3)),(19,aM l8)],[],0⟩ trivial ?_;refine AWp.cond (b:=(decide ((n7:Int)<(lZ x3)))) (by kernel_rfl) (fun hc3=> ?_) (fun hc3=> ?_)
    ·
     replace h:=aF hc3 h;refine AWp.skip (tN (AWp.seq (AWp.block (AWp.seq ?_))));obtain⟨ob0p,h⟩:=aB h;have ob0:0≤(n7:Int)∧(n7:Int)<(((x3).length:Nat):Int):=⟨by omega,ob0p⟩;refine bS [] [] [1,3,4,5] [1,5,19] (an2 ob0 trivial) ?_;refine tN ?_;obtain⟨r9,hr9,h⟩:=bind_ok h;obtain⟨r10,hr10,h⟩:=bind_ok h;obtain⟨ob1,h⟩:=aB h;refine aX [] [(3,⟨[.i (yP x3 n7).1],[],[],[],.str r9,[],[],[]⟩),(6,⟨[.i (yP x3 n7).2.1],[],[],[],.str r10,[],[],[]⟩)] ⟨45,(f65z2 n7),[(1,.cells 100 (qC x1 x2 x3)),(19,.rows 9 1 ((l8).length+3) (gZ (l8).length (cB eS [] l8) (dR 1 [.str r9,.str r10,.str (yP x3 n7).2.2])))],[],0⟩ (an3 (cpT (aAr bB _ _ hr9)) (cpT (aAr bB _ _ hr10)) ob1) ?_;refine kN (tN ?_);refine AWp.le (Le.mk (s':=⟨45,(f65z2 n7),[(1,.cells 100 (qC x1 x2 x3)),(19,aM (l8++[r9,r10,(yP x3 n7).2.2]))],[],0⟩) rfl rfl ⟨.refl _,.refl _,.refl _,trivial⟩ ⟨⟨_,rfl,.refl _⟩,⟨_,rfl,(BLe.of (RL.app (RL.self _) (RL.lst (enc:=eS) [r9,r10,(yP x3 n7).2.2] rfl rfl (fun _=>rfl))))⟩,trivial⟩) ?_;obtain⟨ob2p,h⟩:=aB h;have ob2: -9223372036854775808≤((n7:Int)+(1:Int))∧((n7:Int)+(1:Int))≤9223372036854775807:=⟨by omega,ob2p⟩;refine aX [] [] ⟨45,[(1,.ptr 1 0),(3,.own 19),(4,.i (((n7+1):Nat):Int))],[(1,.cells 100 (qC x1 x2 x3)),(19,aM (l8++[r9,r10,(yP x3 n7).2.2]))],[],0⟩ (an1 ob2) ?_;rw[hC0]at h;exact lN (_,(n7+1),(l8++[r9,r10,(yP x3 n7).2.2])) LR h (Nat.lt_succ_self _)
    ·
     replace h:=aG hc3 h;refine AWp.exit (tE (tE (kS ?_)));exact jN (l8) LR h
   ·
    rintro l11 h;replace h:=(congrFun hK1 _).symm.trans h;refine AWp.seq ?_;obtain⟨r12,hr12,h⟩:=bind_ok h;refine aX [] [(1,⟨[cW l11],[],[],[],.str r12,[],[19],[]⟩)] ⟨45,[(2,.str r12)],[],[],0⟩ (an1 (cpL (c:=true) [(19,aM l11)] [19] [.own 19] (fun _=>(f87_ok _ _ hr12)) (fun _=>⟨.refl _,trivial⟩) (.inr ⟨rfl,trivial⟩))) ?_;refine tN ?_;have hret:=Option.some.inj h;subst hret;refine AWp.ret ?_;exact bR _ rfl ⟨rfl,rfl⟩ rfl
abbrev aBx (x1 x2:Int):=(((((!(x1==(1:Int)))&&(!(x1==(2:Int))))&&(x1 !=(3:Int)))||((!(x1==(2:Int)))&&(x2 !=(0:Int))))||(decide (x2<(0:Int))))
abbrev aBw (x1:Int):=(((!(x1==(1:Int)))&&(!(x1==(2:Int))))&&(x1 !=(3:Int)))
abbrev f64z2 (x1 x2:Int):=(((aBx x1 x2)||(decide (x2≥(6:Int))))==false)
abbrev f64z4 (x1 x2:Int):=((aBw x1)||((!(x1==(2:Int)))&&(x2 !=(0:Int))))
abbrev f64z5 (x1:Int):=(((!(x1==(1:Int)))&&(!(x1==(2:Int))))==true)
abbrev f64z6 (x1 x2:Int):=((f64z2 x1 x2)&&((!(x1==(1:Int)))==true))
abbrev f64z7 (x1:Int):=(((aBw x1)==false)&&((!(x1==(2:Int)))==true))
def f64 (x1 x2:Int) (x3:List Tq0):Option Int:=
 chk (((((!(x1==(1:Int)))&&(!(x1==(2:Int))))&&(x1 !=(3:Int)))==false)=true→((((!(x1==(1:Int)))&&(!(x1==(2:Int))))&&(x1 !=(3:Int)))==false)=true→(!(x1==(2:Int)))=true→(((((!(x1==(1:Int)))&&(!(x1==(2:Int))))&&(x1 !=(3:Int)))==false)&&((!(x1==(2:Int)))==true))=true)<|
 chk ((((((((!(x1==(1:Int)))&&(!(x1==(2:Int))))&&(x1 !=(3:Int)))||((!(x1==(2:Int)))&&(x2 !=(0:Int))))||(decide (x2<(0:Int))))||(decide (x2≥(6:Int))))==false)=true→(((((((!(x1==(1:Int)))&&(!(x1==(2:Int))))&&(x1 !=(3:Int)))||((!(x1==(2:Int)))&&(x2 !=(0:Int))))||(decide (x2<(0:Int))))||(decide (x2≥(6:Int))))==false)=true→(!(x1==(1:Int)))=true→((((((((!(x1==(1:Int)))&&(!(x1==(2:Int))))&&(x1 !=(3:Int)))||((!(x1==(2:Int)))&&(x2 !=(0:Int))))||(decide (x2<(0:Int))))||(decide (x2≥(6:Int))))==false)&&((!(x1==(1:Int)))==true))=true)<|
 if(((((((!(x1==(1:Int)))&&(!(x1==(2:Int))))&&(x1 !=(3:Int)))||((!(x1==(2:Int)))&&(x2 !=(0:Int))))||(decide (x2<(0:Int))))||(decide (x2≥(6:Int))))||((!(x1==(1:Int)))&&(decide ((((x3).length:Nat):Int)>(0:Int)))))then(
 some (1:Int)
 )else(
 if(decide ((((x3).length:Nat):Int)>(8:Int)))then(
 some (3:Int)
 )else(
 (f86 x3).bind fun(r4:Int)=>
 if(r4 !=(0:Int))then(
 some r4
 )else(
 (f65 x1 x2 x3).bind fun(r5:List UInt8)=>
 if(decide (((r5.length:Nat):Int)>(2000:Int)))then(
 some (3:Int)
 )else(
 some (0:Int)
 )
 )
 )
 )
theorem f64_ok (x1 x2:Int) (x3:List Tq0) (r:Int) (h:f64 x1 x2 x3=some r):aE Tryz.prog 64 [] [] [] [.agg [.int .i64 x1,.int .i64 x2,vL 3 bU (default:Tq0) x3]] (.int .i64 r) []:=by
 unfold f64 at h;refine aE.body 0 _ _ Tryz.func64 rfl Tryz.ntmps64 rfl rfl ?_;refine bF [] [] [1] [1] trivial ?_;refine bF [] [] [1,3] [1] trivial ?_;refine bF [] [] [1,3,4] [1] trivial ?_;refine AWp.seq (AWp.seq ?_);have ob0:=idA (((!(x1==(1:Int)))==true)=true);have ob1:=bqA (!(x1==(1:Int))) true;have ob2:=idA ((f64z5 x1)=true);have ob3:=idA ((f64z5 x1)=true);have ob4:true=true→((!(x1==(1:Int)))&&(!(x1==(2:Int))))=true→(f64z5 x1)=true:=fun _ h=>beq_iff_eq.2 h;have ob5:=idA (((aBw x1)==false)=true);have ob6:=idA (((aBw x1)==false)=true);have ob7:=idA ((f64z7 x1)=true);have ob8:=idA ((f64z7 x1)=true);obtain⟨ob9,h⟩:=aB h;have ob10:=idA (((aBw x1)==false)=true);have ob11:=bqA (aBw x1) false;have ob12:=idA (((f64z4 x1 x2)==false)=true);have ob13:=idA (((f64z4 x1 x2)==false)=true);have ob14:=bqA (f64z4 x1 x2) false;have ob15:=idA (((aBx x1 x2)==false)=true);have ob16:=idA (((aBx x1 x2)==false)=true);have ob17:=bqA (aBx x1 x2) false;have ob18:=idA ((f64z2 x1 x2)=true);have ob19:=idA ((f64z2 x1 x2)=true);have ob20:=idA ((f64z6 x1 x2)=true);have ob21:=idA ((f64z6 x1 x2)=true);have ob22:=idA ((f64z6 x1 x2)=true);obtain⟨ob23,h⟩:=aB h;have ob24:=idA ((f64z2 x1 x2)=true);have ob25:true=true→((aBx x1 x2)||(decide (x2≥(6:Int))))=false→(f64z2 x1 x2)=true:=fun _ h=>beq_iff_eq.2 h;refine bS [] [] [1,51] [1] (ac6 (an1 ob0) ob1 (an1 ob2) (an1 ob3) ob4 (an1 ob5) (ac6 (an1 ob6) (an1 ob7) (an1 ob8) (And.intro ob9 (an1 ob10)) ob11 (an1 ob12) (ac6 (an1 ob13) ob14 (an1 ob15) (an1 ob16) ob17 (an1 ob18) (an6 (an1 ob19) (an1 ob20) (an1 ob21) (an1 ob22) (And.intro ob23 (an1 ob24)) ob25)))) ?_;refine tN ?_;refine AWp.cond (b:=(((aBx x1 x2)||(decide (x2≥(6:Int))))||((!(x1==(1:Int)))&&(decide ((lZ x3)>(0:Int)))))) (by kernel_rfl) (fun hc1=> ?_) (fun hc1=> ?_)
 ·
  replace h:=aF hc1 h;refine aN [] [] ⟨66,[(2,.i (1:Int))],[],[],0⟩ trivial ?_;have hret:=Option.some.inj h;subst hret;refine AWp.ret (tR ?_);exact bR _ rfl ⟨rfl,rfl⟩ rfl
 ·
  replace h:=aG hc1 h;refine AWp.skip (tN (AWp.seq ?_));refine bF [] [] [1,55] [1] trivial ?_;refine AWp.cond (b:=(decide ((lZ x3)>(8:Int)))) (by kernel_rfl) (fun hc2=> ?_) (fun hc2=> ?_)
  ·
   replace h:=aF hc2 h;refine aN [] [] ⟨66,[(2,.i (3:Int))],[],[],0⟩ trivial ?_;have hret:=Option.some.inj h;subst hret;refine AWp.ret (tR ?_);exact bR _ rfl ⟨rfl,rfl⟩ rfl
  ·
   replace h:=aG hc2 h;refine AWp.skip (tN (AWp.seq (AWp.seq ?_)));obtain⟨r4,hr4,h⟩:=bind_ok h;refine bS [] [(2,⟨[aT x3],[],[],[],.i r4,[],[],[]⟩)] [1,5] [1] (an1 (cpT (f86_ok _ _ hr4))) ?_;refine tN ?_;refine bF [] [] [1,5,60] [1] trivial ?_;refine AWp.cond (b:=(r4 !=(0:Int))) (by kernel_rfl) (fun hc3=> ?_) (fun hc3=> ?_)
   ·
    replace h:=aF hc3 h;refine aN [] [] ⟨66,[(2,.i r4)],[],[],0⟩ trivial ?_;have hret:=Option.some.inj h;subst hret;refine AWp.ret (tR ?_);exact bR _ rfl ⟨rfl,rfl⟩ rfl
   ·
    replace h:=aG hc3 h;refine AWp.skip (tN (AWp.seq (AWp.seq ?_)));obtain⟨r5,hr5,h⟩:=bind_ok h;refine bS [] [(1,⟨[.agg [.i x1,.i x2,aT x3]],[],[],[],.str r5,[],[],[]⟩)] [65] [] (an1 (cpT (f65_ok _ _ _ _ hr5))) ?_;refine tN ?_;refine AWp.cond (b:=(decide ((lZ r5)>(2000:Int)))) (by kernel_rfl) (fun hc4=> ?_) (fun hc4=> ?_)
    ·
     replace h:=aF hc4 h;refine aN [] [] ⟨66,[(2,.i (3:Int))],[],[],0⟩ trivial ?_;have hret:=Option.some.inj h;subst hret;refine AWp.ret (tR ?_);exact bR _ rfl ⟨rfl,rfl⟩ rfl
    ·
     replace h:=aG hc4 h;refine AWp.skip (tN ?_);refine aN [] [] ⟨66,[(2,.i (0:Int))],[],[],0⟩ trivial ?_;have hret:=Option.some.inj h;subst hret;refine AWp.ret ?_;exact bR _ rfl ⟨rfl,rfl⟩ rfl
def iO (r2:Bool×List Ty1) (K1:(Nat×Int×Ty4)→Option (Int×Int×Ty4×Int)):Nat→(Nat×Ty4)→Option (Int×Int×Ty4×Int)
 |0,_=>none
 |k+1,(n7,l8)=>
  if(decide ((n7:Int)<(((r2.2).length:Nat):Int)))then(
  (f82 (r2.2.getD n7 [])).bind fun(r9:Int)=>
  (f82 (r2.2.getD (n7+1) [])).bind fun(r10:Int)=>
  chk ((n7:Int)<(((r2.2).length:Nat):Int))<|
  chk (n7<(r2.2).length)<|
  chk (((n7:Int)+(1:Int))≤9223372036854775807)<|
  chk ((((n7+1):Nat):Int)<(((r2.2).length:Nat):Int))<|
  chk ((n7+1)<(r2.2).length)<|
  chk (((n7:Int)+(2:Int))≤9223372036854775807)<|
  chk ((((n7+2):Nat):Int)<(((r2.2).length:Nat):Int))<|
  chk ((n7+2)<(r2.2).length)<|
  chk (((l8).length+1) *32≤140737488355328)<|
  chk (((n7:Int)+(3:Int))≤9223372036854775807)<|
  (iO r2 K1 k) ((n7+3),(l8++[(r9,r10,(r2.2.getD (n7+2) []))]))
  )else(
  K1 (1,(0:Int),l8)
  )
abbrev iN :List V:=[.int .i64 (0:Int),.int .i64 (0:Int),.nils]
abbrev aBy :List V:=[.int .i64 (1:Int),.int .i64 (0:Int),.own 6102]
abbrev f61z2 (x1:List UInt8):List (Nat×V):=[(0,.str x1),(2,.ptr 2 0),(6,.ptr 6 0)]
abbrev f61z3 (r2:Bool×List Ty1):aK:=[(2,.cells 100 (iN)),(6,.cells 100 (iN)),(6001,bL 9 1 eS [] r2.2)]
abbrev f61z4 (x1:List UInt8) (r2:Bool×List Ty1):List (Nat×V):=[(0,.str x1),(2,.ptr 2 0),(4,.own 6001),(6,.ptr 6 0),(43,.bool (((r2.2.getD 0 [])==cs2)&&(((((r2.2).length%3):Nat):Int)==(1:Int))))]
abbrev f61z5 (x1:List UInt8):List (Nat×V):=[(0,.str x1),(2,.ptr 2 0),(4,.own 6001),(6,.ptr 6 0),(7,.int .i64 (1:Int))]
abbrev f61z6 :=([106,111,105,110]:List UInt8)
abbrev f61z7 (r2:Bool×List Ty1) (l8:List Tq0) (r9 r10:Int) (n7:Nat):aK:=[(2,.cells 100 (iN)),(6,.cells 100 (aBy)),(6001,bL 9 1 eS [] r2.2),(6102,bL 88 3 bU (default:Tq0) (l8++[(r9,r10,(r2.2.getD (n7+2) []))]))]
abbrev f61z8 (r2:Bool×List Ty1):aK:=[(2,.cells 100 (iN)),(6,.cells 100 [.int .i64 (1:Int),.int .i64 (0:Int),.nils]),(6001,bL 9 1 eS [] r2.2)]
abbrev f61z9 (n3:Nat) (i4:Int):List V:=[.int .i64 (n3:Int),.int .i64 i4,.own 6102]
abbrev aAz (n3:Nat) (i4:Int) (l5:List Tq0):List V:=[.int .i64 (n3:Int),.int .i64 i4,vL 3 bU (default:Tq0) l5]
abbrev f61z11 (x1:List UInt8) (n7:Nat):List (Nat×V):=[(0,.str x1),(2,.ptr 2 0),(4,.own 6001),(6,.ptr 6 0),(7,.int .i64 (n7:Int))]
abbrev aAy :List (Nat×V):=[(2,.ptr 2 0),(3,.int .i64 (2:Int))]
abbrev f61z13 :List (Nat×V):=[(2,.ptr 2 0),(3,.int .i64 (0:Int))]
abbrev aAx (r11:Int):=((r11 !=(0:Int))==false)
def f61 (x1:List UInt8):Option (Int×Int×Ty4×Int):=
 (f81 x1).bind fun(r2:Bool×List Ty1)=>
 if((!r2.1)||((((r2.2).length:Nat):Int)==(0:Int)))then(
 some ((0:Int),(0:Int),[],(2:Int))
 )else(
 jn (fun((n3,i4,l5):Nat×Int×Ty4)=>
 (f64 (n3:Int) i4 l5).bind fun(r11:Int)=>
 fS ((r11 !=(0:Int))==false) (f65 (n3:Int) i4 l5) fun(r12:List UInt8)=>
 if((r11 !=(0:Int))||(!(r12==x1)))then(
 some ((0:Int),(0:Int),[],(2:Int))
 )else(
 some ((n3:Int),i4,l5,(0:Int))
 )
 ) fun(K1:(Nat×Int×Ty4)→Option (Int×Int×Ty4×Int))=>
 chk ((0:Int)<(((r2.2).length:Nat):Int))<|
 chk (0<(r2.2).length)<|
 if((r2.2.getD 0 [])==cs1)then(
 K1 (3,(0:Int),[])
 )else(
 chk ((0:Int)<(((r2.2).length:Nat):Int))<|
 chk (0<(r2.2).length)<|
 if(((r2.2.getD 0 [])==([106,111,105,110]:List UInt8))&&((((r2.2).length:Nat):Int)==(2:Int)))then(
 (f82 (r2.2.getD 1 [])).bind fun(r6:Int)=>
 chk ((1:Int)<(((r2.2).length:Nat):Int))<|
 chk (1<(r2.2).length)<|
 K1 (2,r6,[])
 )else(
 chk ((0:Int)<(((r2.2).length:Nat):Int))<|
 chk (0<(r2.2).length)<|
 chk ((((r2.2.getD 0 [])==cs2)==true)=true→0≤(((r2.2).length:Nat):Int)∧1≤(3:Int))<|
 if(((r2.2.getD 0 [])==cs2)&&(((((r2.2).length%3):Nat):Int)==(1:Int)))then(
 iO r2 K1 bB (1,[])
 )else(
 K1 (0,(0:Int),[])
 )
 )
 )
 )
theorem f61_ok (x1:List UInt8) (r:Int×Int×Ty4×Int) (h:f61 x1=some r):aE Tryz.prog 61 [] [] [] [.str x1] (.tup [.agg [.int .i64 r.1,.int .i64 r.2.1,vL 3 bU (default:Tq0) r.2.2.1],.int .i64 r.2.2.2]) []:=by
 unfold f61 at h;refine aE.bodyD [2] 0 _ _ Tryz.func61 rfl Tryz.ntmps61 rfl rfl ?_;refine bF [] [] [0,2] [2] trivial ?_;refine AWp.seq ?_;obtain⟨r2,hr2,h⟩:=bind_ok h;refine bS [] [(1,⟨[.str x1],[],[],[(6001,aM r2.2)],.tup [.own 6001,.bool r2.1],[6001],[],[]⟩)] [0,2,4,5] [2,6001] (an1 (cpT (aE.ren (aU 3000 6001) (aD 3000 6001) rfl (f81_ok _ _ hr2)))) ?_;refine tN (AWp.seq (AWp.seq ?_));have ob0:=idA (((!r2.1)==false)=true);have ob1:=idA (((!r2.1)==false)=true);have ob2:=bqA (!r2.1) false;refine bS [] [] [0,2,4,19] [2,6001] (an3 (an1 ob0) (an1 ob1) ob2) ?_;refine tN ?_;refine AWp.cond (b:=((!r2.1)||((lZ r2.2)==(0:Int)))) (by kernel_rfl) (fun hc1=> ?_) (fun hc1=> ?_)
 ·
  replace h:=aF hc1 h;refine aN [] [] ⟨94,(aAy),[(2,.cells 100 (iN))],[],0⟩ (an1 trivial) ?_;have hret:=Option.some.inj h;subst hret;refine AWp.le (Le.mk (s':=⟨94,(aAy),[(2,.cells 100 [.i (0:Int),.i (0:Int),aT []])],[],0⟩) rfl rfl ⟨.refl _,.refl _,trivial⟩ ⟨⟨_,rfl,(.cellsL ⟨.refl _,.refl _,.nilL,trivial⟩)⟩,trivial⟩) ?_;refine AWp.ret (tR ?_);exact bR _ rfl ⟨rfl,rfl⟩ rfl
 ·
  replace h:=aG hc1 h;refine AWp.skip (tN ?_);refine aN [] [] ⟨94,[(0,.str x1),(2,.ptr 2 0),(4,.own 6001),(6,.ptr 6 0)],(f61z3 r2),[],0⟩ trivial ?_;obtain⟨K1,hK1,h⟩:=aR h;refine AWp.join (fun(x:Nat×Int×Ty4)=>match x with|(n3,i4,l5)=>⟨94,(f61z2 x1),[(2,.cells 100 (iN)),(6,.cells 100 (f61z9 n3 i4)),(6102,bY l5)],[],0⟩) (fun x=>K1 x=some r) ?_ ?_
  ·
   refine AWp.block (AWp.seq ?_);obtain⟨ob3p,h⟩:=aB h;have ob3:0≤(0:Int)∧(0:Int)<(((r2.2).length:Nat):Int):=⟨by omega,ob3p⟩;obtain⟨ob4,h⟩:=aB h;refine bS [] [] [0,2,4,6,21] [2,6,6001] (an2 ob3 ob4) ?_;refine tN ?_;refine AWp.cond (b:=((r2.2.getD 0 [])==cs1)) (by kernel_rfl) (fun hc2=> ?_) (fun hc2=> ?_)
   ·
    replace h:=aF hc2 h;refine aX [] [] ⟨94,(f61z2 x1),[(2,.cells 100 (iN)),(6,.cells 100 [.i (3:Int),.i (0:Int),.nils])],[],0⟩ (an1 trivial) ?_;refine kN ?_;exact jN (3,(0:Int),[]) (Le.trans (Le.trans (Le.nilOwnC 6 2 6102 88 3 (cB bU bA []) rfl rfl rfl) (LR (s':=⟨94,(f61z2 x1),[(2,.cells 100 (iN)),(6,.cells 100 [.i (3:Int),.i (0:Int),.own 6102]),(6102,bY [])],[],0⟩))) LR) h
   ·
    replace h:=aG hc2 h;refine AWp.seq ?_;obtain⟨ob5p,h⟩:=aB h;have ob5:0≤(0:Int)∧(0:Int)<(((r2.2).length:Nat):Int):=⟨by omega,ob5p⟩;obtain⟨ob6,h⟩:=aB h;have ob7:=idA ((((r2.2.getD 0 [])==(f61z6))==true)=true);have ob8:=idA ((((r2.2.getD 0 [])==(f61z6))==true)=true);have ob9:=bqA ((r2.2.getD 0 [])==(f61z6)) true;refine bS [] [] [0,2,4,6,27] [2,6,6001] (an5 ob5 ob6 (an1 ob7) (an1 ob8) ob9) ?_;refine tN ?_;refine AWp.cond (b:=(((r2.2.getD 0 [])==(f61z6))&&((lZ r2.2)==(2:Int)))) (by kernel_rfl) (fun hc3=> ?_) (fun hc3=> ?_)
    ·
     replace h:=aF hc3 h;obtain⟨r6,hr6,h⟩:=bind_ok h;obtain⟨ob10p,h⟩:=aB h;have ob10:0≤(1:Int)∧(1:Int)<(((r2.2).length:Nat):Int):=⟨by omega,ob10p⟩;obtain⟨ob11,h⟩:=aB h;refine aX [] [(3,⟨[.str (r2.2.getD 1 [])],[],[],[],.i r6,[],[],[]⟩)] ⟨94,(f61z2 x1),[(2,.cells 100 (iN)),(6,.cells 100 [.i (2:Int),.i r6,.nils])],[],0⟩ (an5 ob10 ob11 (cpT (f82_ok _ _ hr6)) trivial trivial) ?_;refine kN ?_;exact jN (2,r6,[]) (Le.trans (Le.trans (Le.nilOwnC 6 2 6102 88 3 (cB bU bA []) rfl rfl rfl) (LR (s':=⟨94,(f61z2 x1),[(2,.cells 100 (iN)),(6,.cells 100 [.i (2:Int),.i r6,.own 6102]),(6102,bY [])],[],0⟩))) LR) h
    ·
     replace h:=aG hc3 h;refine AWp.seq ?_;obtain⟨ob12p,h⟩:=aB h;have ob12:0≤(0:Int)∧(0:Int)<(((r2.2).length:Nat):Int):=⟨by omega,ob12p⟩;obtain⟨ob13,h⟩:=aB h;have ob14:=idA ((((r2.2.getD 0 [])==cs2)==true)=true);obtain⟨ob15,h⟩:=aB h;have ob16:=idA ((((r2.2.getD 0 [])==cs2)==true)=true);have ob17:=idA ((((r2.2.getD 0 [])==cs2)==true)=true);have ob18:=bqA ((r2.2.getD 0 [])==cs2) true;refine aX [] [] ⟨94,(f61z4 x1 r2),(f61z3 r2),[],0⟩ (an6 ob12 ob13 (an1 ob14) (And.intro ob15 (an1 ob16)) (an1 ob17) ob18) ?_;refine tN ?_;refine AWp.cond (b:=(((r2.2.getD 0 [])==cs2)&&(((((r2.2).length%3):Nat):Int)==(1:Int)))) (by kernel_rfl) (fun hc4=> ?_) (fun hc4=> ?_)
     ·
      replace h:=aF hc4 h;refine bF [] [] [0,2,4,6] [2,6,6001] (an1 trivial) ?_;refine aN [] [] ⟨94,(f61z5 x1),(f61z8 r2),[],0⟩ trivial ?_;refine AWp.block ?_;refine AWp.loopL (α:=Nat×(Nat×Ty4)) (fun x=>match x with|(_,n7,l8)=>⟨94,(f61z11 x1 n7),[(2,.cells 100 (iN)),(6,.cells 100 (aBy)),(6001,aM r2.2),(6102,bY l8)],[],0⟩) (fun x=>iO r2 K1 x.1 x.2=some r) (fun x=>x.1) (bB,1,[]) (Le.trans (Le.trans (Le.nilOwnC 6 2 6102 88 3 (cB bU bA []) rfl rfl rfl) (LR (s':=⟨94,(f61z5 x1),[(2,.cells 100 (iN)),(6,.cells 100 (aBy)),(6001,aM r2.2),(6102,bY [])],[],0⟩))) (LR (s':=⟨94,(f61z5 x1),[(2,.cells 100 (iN)),(6,.cells 100 (aBy)),(6001,aM r2.2),(6102,bY [])],[],0⟩))) h ?_
      rintro⟨k0,n7,l8⟩ h
      cases k0 with
      |zero=>exact nomatch (show none=some r from h)
      |succ k0=>
      obtain⟨C0,hC0⟩:∃C,C=iO r2 K1 k0:=⟨_,rfl⟩;replace h:=(iO.eq_2 ..).symm.trans h
      try rw[←hC0]at h
      refine AWp.seq ?_;refine aN [] [] ⟨94,[(0,.str x1),(2,.ptr 2 0),(4,.own 6001),(6,.ptr 6 0),(7,.i (n7:Int)),(58,.bool (decide ((n7:Int)<(lZ r2.2))))],[(2,.cells 100 (iN)),(6,.cells 100 (aBy)),(6001,aM r2.2),(6102,bY l8)],[],0⟩ trivial ?_;refine AWp.cond (b:=(decide ((n7:Int)<(lZ r2.2)))) (by kernel_rfl) (fun hc5=> ?_) (fun hc5=> ?_)
      ·
       replace h:=aF hc5 h;refine AWp.skip (tN (AWp.seq (AWp.block ?_)));obtain⟨r9,hr9,h⟩:=bind_ok h;obtain⟨r10,hr10,h⟩:=bind_ok h;obtain⟨ob19p,h⟩:=aB h;have ob19:0≤(n7:Int)∧(n7:Int)<(((r2.2).length:Nat):Int):=⟨by omega,ob19p⟩;obtain⟨ob20,ob21p,h⟩:=ck2 h;have ob21: -9223372036854775808≤((n7:Int)+(1:Int))∧((n7:Int)+(1:Int))≤9223372036854775807:=⟨by omega,ob21p⟩;obtain⟨ob22p,h⟩:=aB h;have ob22:0≤(((n7+1):Nat):Int)∧(((n7+1):Nat):Int)<(((r2.2).length:Nat):Int):=⟨by omega,ob22p⟩;obtain⟨ob23,ob24p,h⟩:=ck2 h;have ob24: -9223372036854775808≤((n7:Int)+(2:Int))∧((n7:Int)+(2:Int))≤9223372036854775807:=⟨by omega,ob24p⟩;obtain⟨ob25p,h⟩:=aB h;have ob25:0≤(((n7+2):Nat):Int)∧(((n7+2):Nat):Int)<(((r2.2).length:Nat):Int):=⟨by omega,ob25p⟩;obtain⟨ob26,ob27,h⟩:=ck2 h;refine aX [] [(6,⟨[.str (r2.2.getD n7 [])],[],[],[],.i r9,[],[],[]⟩),(12,⟨[.str (r2.2.getD (n7+1) [])],[],[],[],.i r10,[],[],[]⟩)] ⟨94,(f61z11 x1 n7),[(2,.cells 100 (iN)),(6,.cells 100 (aBy)),(6001,aM r2.2),(6102,.rows 88 3 ((l8).length+1) (gZ (l8).length (cB bU bA l8) (dR 3 [.i r9,.i r10,.str (r2.2.getD (n7+2) [])])))],[],0⟩ (ac6 ob19 ob20 (cpT (f82_ok _ _ hr9)) ob21 ob22 ob23 (an6 (cpT (f82_ok _ _ hr10)) ob24 ob25 ob26 ob27 trivial)) ?_;refine kN (tN ?_);refine AWp.le (Le.mk (s':=⟨94,(f61z11 x1 n7),(f61z7 r2 l8 r9 r10 n7),[],0⟩) rfl rfl ⟨.refl _,.refl _,.refl _,.refl _,.refl _,trivial⟩ ⟨⟨_,rfl,.refl _⟩,⟨_,rfl,.refl _⟩,⟨_,rfl,.refl _⟩,⟨_,rfl,(BLe.of (RL.app (RL.self _) (RL.lst (enc:=bU) [(r9,r10,(r2.2.getD (n7+2) []))] rfl rfl (fun _=>rfl))))⟩,trivial⟩) ?_;obtain⟨ob28p,h⟩:=aB h;have ob28: -9223372036854775808≤((n7:Int)+(3:Int))∧((n7:Int)+(3:Int))≤9223372036854775807:=⟨by omega,ob28p⟩;refine aX [] [] ⟨94,[(0,.str x1),(2,.ptr 2 0),(4,.own 6001),(6,.ptr 6 0),(7,.i (((n7+3):Nat):Int))],(f61z7 r2 l8 r9 r10 n7),[],0⟩ (an1 ob28) ?_;rw[hC0]at h;exact lN (_,(n7+3),(l8++[(r9,r10,(r2.2.getD (n7+2) []))])) LR h (Nat.lt_succ_self _)
      ·
       replace h:=aG hc5 h;refine AWp.exit (tE (tE (kS (kN ?_))));exact jN (1,(0:Int),l8) LR h
     ·
      replace h:=aG hc4 h;refine AWp.skip (kN ?_);exact jN (0,(0:Int),[]) (Le.trans (Le.trans (Le.nilOwnC 6 2 6102 88 3 (cB bU bA []) rfl rfl rfl) (LR (s':=⟨94,(f61z4 x1 r2),[(2,.cells 100 (iN)),(6,.cells 100 [.i (0:Int),.i (0:Int),.own 6102]),(6001,aM r2.2),(6102,bY [])],[],0⟩))) LR) h
  ·
   rintro⟨n3,i4,l5⟩ h;replace h:=(congrFun hK1 _).symm.trans h;refine AWp.seq (AWp.seq ?_);obtain⟨r11,hr11,h⟩:=bind_ok h;obtain⟨r12,hr12,h⟩:=bZ h;have ob29:=idA ((aAx r11)=true);have ob30:=idA ((aAx r11)=true);have ob31:=idA ((aAx r11)=true);have ob32:true=true→(r11 !=(0:Int))=false→(aAx r11)=true:=fun _ h=>beq_iff_eq.2 h;refine bS [] [(1,⟨[.agg (aAz n3 i4 l5)],[],[],[],.i r11,[],[6102],[]⟩),(5,⟨[.agg (aAz n3 i4 l5)],[],[],[],.str r12,[],[6102],[]⟩)] [2,6,91] [2,6,6102] (an4 (cpL (c:=true) [(6102,bY l5)] [6102] [.agg (f61z9 n3 i4)] (fun _=>(f64_ok _ _ _ _ hr11)) (fun _=>⟨.refl _,trivial⟩) (.inr ⟨rfl,trivial⟩)) (And.intro (cpL [(6102,bY l5)] [6102] [.agg (f61z9 n3 i4)] (fun hc=>(f65_ok _ _ _ _ (hr12 hc))) (fun _=>⟨.refl _,trivial⟩) (.inr ⟨rfl,trivial⟩)) (an1 ob29)) (an2 ob30 ob31) ob32) ?_;refine tN ?_;refine AWp.cond (b:=((r11 !=(0:Int))||(!(r12==x1)))) (by kernel_rfl) (fun hc6=> ?_) (fun hc6=> ?_)
   ·
    replace h:=aF hc6 h;refine aN [] [] ⟨94,(aAy),[(2,.cells 100 (iN))],[],0⟩ (an1 trivial) ?_;have hret:=Option.some.inj h;subst hret;refine AWp.le (Le.mk (s':=⟨94,(aAy),[(2,.cells 100 [.i (0:Int),.i (0:Int),aT []])],[],0⟩) rfl rfl ⟨.refl _,.refl _,trivial⟩ ⟨⟨_,rfl,(.cellsL ⟨.refl _,.refl _,.nilL,trivial⟩)⟩,trivial⟩) ?_;refine AWp.ret (tR ?_);exact bR _ rfl ⟨rfl,rfl⟩ rfl
   ·
    replace h:=aG hc6 h;refine AWp.skip (tN ?_);refine aN [] [] ⟨94,(f61z13),[(2,.cells 100 (f61z9 n3 i4)),(6102,bY l5)],[],0⟩ (an1 trivial) ?_;refine AWp.le (Le.trans (Le.freeze 6102 rfl rfl) (LR (s':=⟨94,(f61z13),[(2,.cells 100 (aAz n3 i4 l5))],[],0⟩))) ?_;have hret:=Option.some.inj h;subst hret;refine AWp.le (LR (s':=⟨94,(f61z13),[(2,.cells 100 (aAz n3 i4 l5))],[],0⟩)) ?_;refine AWp.ret ?_;exact bR _ rfl ⟨rfl,rfl⟩ rfl
def eZ (x2:List Tq0) (x3:Int) (K1:Unit→Option (Int×Int×List UInt8×Bool)):Nat→Nat→Option (Int×Int×List UInt8×Bool)
 |0,_=>none
 |k+1,n4=>
  if(decide ((n4:Int)<(((x2).length:Nat):Int)))then(
  chk ((n4:Int)<(((x2).length:Nat):Int))<|
  if((x2.getD n4 (default:Tq0)).1==x3)then(
  chk ((n4:Int)<(((x2).length:Nat):Int))<|
  some ((x2.getD n4 (default:Tq0)).1,(x2.getD n4 (default:Tq0)).2.1,(x2.getD n4 (default:Tq0)).2.2,true)
  )else(
  chk (((n4:Int)+(1:Int))≤9223372036854775807)<|
  (eZ x2 x3 K1 k) (n4+1)
  )
  )else(
  K1 ()
  )
abbrev yI (x1:List Tq2) (x2:List Tq0):aK:=[(2,.cells 92 [vL 3 cD (default:Tq2) x1,vL 3 bU (default:Tq0) x2]),(4,.cells 160 [.int .i64 (0:Int),.int .i64 (0:Int),.str []])]
abbrev f83z1 :aK:=[(4,.cells 160 [.int .i64 (0:Int),.int .i64 (0:Int),.str []])]
abbrev f83z2 (x2:List Tq0) (n4:Nat):=(x2.getD n4 (default:Tq0))
def f83 (x1:List Tq2) (x2:List Tq0) (x3:Int):Option (Int×Int×List UInt8×Bool):=
 jn (fun(_:Unit)=>
 some ((0:Int),(0:Int),[],false)
 ) fun(K1:Unit→Option (Int×Int×List UInt8×Bool))=>
 eZ x2 x3 K1 bB 0
theorem f83_ok (x1:List Tq2) (x2:List Tq0) (x3:Int) (r:Int×Int×List UInt8×Bool) (h:f83 x1 x2 x3=some r):aE Tryz.prog 83 [] [] [] [.agg [vL 3 cD (default:Tq2) x1,vL 3 bU (default:Tq0) x2],.int .i64 x3] (.tup [.agg [.int .i64 r.1,.int .i64 r.2.1,.str r.2.2.1],.bool r.2.2.2]) []:=by
 unfold f83 at h;refine aE.bodyD [4] 0 _ _ Tryz.func83 rfl Tryz.ntmps83 rfl rfl ?_;refine aN [] [] ⟨28,[(1,.i x3),(2,.ptr 2 0),(4,.ptr 4 0)],(yI x1 x2),[],0⟩ trivial ?_;obtain⟨K1,hK1,h⟩:=aR h;refine AWp.join (fun(x:Unit)=>match x with|()=>⟨28,[(4,.ptr 4 0)],(f83z1),[],0⟩) (fun x=>K1 x=some r) ?_ ?_
 ·
  refine aN [] [] ⟨28,[(1,.i x3),(2,.ptr 2 0),(4,.ptr 4 0),(6,.i (0:Int))],(yI x1 x2),[],0⟩ trivial ?_;refine AWp.block ?_;refine AWp.loopL (α:=Nat×Nat) (fun x=>match x with|(_,n4)=>⟨28,[(1,.i x3),(2,.ptr 2 0),(4,.ptr 4 0),(6,.i (n4:Int))],(yI x1 x2),[],0⟩) (fun x=>eZ x2 x3 K1 x.1 x.2=some r) (fun x=>x.1) (bB,0) (LR (s':=⟨28,[(1,.i x3),(2,.ptr 2 0),(4,.ptr 4 0),(6,.i (0:Int))],(yI x1 x2),[],0⟩)) h ?_
  rintro⟨k0,n4⟩ h
  cases k0 with
  |zero=>exact nomatch (show none=some r from h)
  |succ k0=>
  obtain⟨C0,hC0⟩:∃C,C=eZ x2 x3 K1 k0:=⟨_,rfl⟩;replace h:=(eZ.eq_2 ..).symm.trans h
  try rw[←hC0]at h
  refine AWp.seq ?_;refine aN [] [] ⟨28,[(1,.i x3),(2,.ptr 2 0),(4,.ptr 4 0),(6,.i (n4:Int)),(11,.bool (decide ((n4:Int)<(lZ x2))))],(yI x1 x2),[],0⟩ trivial ?_;refine AWp.cond (b:=(decide ((n4:Int)<(lZ x2)))) (by kernel_rfl) (fun hc1=> ?_) (fun hc1=> ?_)
  ·
   replace h:=aF hc1 h;refine AWp.skip (tN (AWp.seq (AWp.block (AWp.seq ?_))));obtain⟨ob0p,h⟩:=aB h;have ob0:0≤(n4:Int)∧(n4:Int)<(((x2).length:Nat):Int):=⟨by omega,ob0p⟩;refine aX [] [] ⟨28,[(1,.i x3),(2,.ptr 2 0),(4,.ptr 4 0),(6,.i (n4:Int)),(21,.bool ((f83z2 x2 n4).1==x3))],(yI x1 x2),[],0⟩ (an1 ob0) ?_;refine tN ?_;refine AWp.cond (b:=((f83z2 x2 n4).1==x3)) (by kernel_rfl) (fun hc2=> ?_) (fun hc2=> ?_)
   ·
    replace h:=aF hc2 h;refine AWp.seq ?_;obtain⟨ob1p,h⟩:=aB h;have ob1:0≤(n4:Int)∧(n4:Int)<(((x2).length:Nat):Int):=⟨by omega,ob1p⟩;refine aX [] [] ⟨28,[(4,.ptr 4 0),(5,.bool true)],[(4,.cells 160 [.i (f83z2 x2 n4).1,.i (f83z2 x2 n4).2.1,.str (f83z2 x2 n4).2.2])],[],0⟩ (an2 ob1 trivial) ?_;refine tN ?_;have hret:=Option.some.inj h;subst hret;refine AWp.ret (kR (tR (tR (kR (aQ ?_)))));exact bR _ rfl ⟨rfl,rfl⟩ rfl
   ·
    replace h:=aG hc2 h;refine AWp.skip (kN (tN ?_));obtain⟨ob2p,h⟩:=aB h;have ob2: -9223372036854775808≤((n4:Int)+(1:Int))∧((n4:Int)+(1:Int))≤9223372036854775807:=⟨by omega,ob2p⟩;refine aX [] [] ⟨28,[(1,.i x3),(2,.ptr 2 0),(4,.ptr 4 0),(6,.i (((n4+1):Nat):Int))],(yI x1 x2),[],0⟩ (an1 ob2) ?_;rw[hC0]at h;exact lN (_,(n4+1)) LR h (Nat.lt_succ_self _)
  ·
   replace h:=aG hc1 h;refine AWp.exit (tE (tE (kS ?_)));exact jN () LR h
 ·
  rintro⟨⟩ h;replace h:=(congrFun hK1 _).symm.trans h;refine aN [] [] ⟨28,[(4,.ptr 4 0),(5,.bool false)],(f83z1),[],0⟩ (an1 trivial) ?_;have hret:=Option.some.inj h;subst hret;refine AWp.ret ?_;exact bR _ rfl ⟨rfl,rfl⟩ rfl
def gL (x1:List UInt8) (K1:(List Ty1)→Option (List Ty1)):Nat→(Nat×Nat×List Ty1)→Option (List Ty1)
 |0,_=>none
 |k+1,(n2,n3,l4)=>
  if(decide ((n3:Int)≤((x1.length:Nat):Int)))then(
  jn (fun((n5,l6):Nat×List Ty1)=>
  chk (((n3:Int)+(1:Int))≤9223372036854775807)<|
  (gL x1 K1 k) (n5,(n3+1),l6)
  ) fun(K2:(Nat×List Ty1)→Option (List Ty1))=>
  chk ((((n3:Int)==((x1.length:Nat):Int))==false)=true→0≤(n3:Int)∧(n3:Int)<((x1.length:Nat):Int))<|
  if(((n3:Int)==((x1.length:Nat):Int))||((((x1.getD n3 0).toNat:Nat):Int)==(32:Int)))then(
  chk ((n2:Int)≤(n3:Int)∧(n3:Int)≤((x1.length:Nat):Int))<|
  chk (((l4).length+1) *16≤140737488355328)<|
  chk (((n3:Int)+(1:Int))≤9223372036854775807)<|
  K2 ((n3+1),(l4++[((x1.take n3).drop n2)]))
  )else(
  K2 (n2,l4)
  )
  )else(
  K1 l4
  )
def f113 (x1:List UInt8):Option (List Ty1):=
 jn (fun(l7:List Ty1)=>
 some l7
 ) fun(K1:(List Ty1)→Option (List Ty1))=>
 gL x1 K1 bB (0,0,[])
theorem f113_ok (x1:List UInt8) (r:List Ty1) (h:f113 x1=some r):aE Tryz.prog 113 [] [] [] [.str x1] (.own 3000) [(3000,bL 9 1 eS [] r)]:=by
 unfold f113 at h;refine aE.body 0 _ _ Tryz.func113 rfl Tryz.ntmps113 rfl rfl ?_;refine bF [] [] [0] [] trivial ?_;refine bF [] [] [0,3] [] trivial ?_;refine aN [] [] ⟨32,[(0,.str x1),(3,.nils),(4,.i (0:Int))],[],[],0⟩ trivial ?_;obtain⟨K1,hK1,h⟩:=aR h;refine AWp.join (α:=List Ty1) (fun(l7:List Ty1)=>⟨32,[(3,.own 5003)],[(5003,aM l7)],[],0⟩) (fun x=>K1 x=some r) ?_ ?_
 ·
  refine aN [] [] ⟨32,[(0,.str x1),(3,.nils),(4,.i (0:Int)),(5,.i (0:Int))],[],[],0⟩ trivial ?_;refine AWp.block ?_;refine AWp.loopL (α:=Nat×(Nat×Nat×List Ty1)) (fun x=>match x with|(_,n2,n3,l4)=>⟨32,[(0,.str x1),(3,.own 5003),(4,.i (n2:Int)),(5,.i (n3:Int))],[(5003,aM l4)],[],0⟩) (fun x=>gL x1 K1 x.1 x.2=some r) (fun x=>x.1) (bB,0,0,[]) (Le.trans (Le.trans (Le.nilOwn 3 5003 9 1 (cB eS [] []) rfl rfl (Nat.le_of_ble_eq_true rfl)) (LR (s':=⟨32,[(0,.str x1),(3,.own 5003),(4,.i (0:Int)),(5,.i (0:Int))],[(5003,aM [])],[],0⟩))) (LR (s':=⟨32,[(0,.str x1),(3,.own 5003),(4,.i (0:Int)),(5,.i (0:Int))],[(5003,aM [])],[],0⟩))) h ?_
  rintro⟨k0,n2,n3,l4⟩ h
  cases k0 with
  |zero=>exact nomatch (show none=some r from h)
  |succ k0=>
  obtain⟨C0,hC0⟩:∃C,C=gL x1 K1 k0:=⟨_,rfl⟩;replace h:=(gL.eq_2 ..).symm.trans h
  try rw[←hC0]at h
  refine AWp.seq ?_;refine aN [] [] ⟨32,[(0,.str x1),(3,.own 5003),(4,.i (n2:Int)),(5,.i (n3:Int)),(9,.bool (decide ((n3:Int)≤(lZ x1))))],[(5003,aM l4)],[],0⟩ trivial ?_;refine AWp.cond (b:=(decide ((n3:Int)≤(lZ x1)))) (by kernel_rfl) (fun hc1=> ?_) (fun hc1=> ?_)
  ·
   replace h:=aF hc1 h;refine AWp.skip (tN ?_);obtain⟨K2,hK2,h⟩:=aR h;refine AWp.join (fun(x:Nat×List Ty1)=>match x with|(n5,l6)=>⟨32,[(0,.str x1),(3,.own 28),(4,.i (n5:Int)),(5,.i (n3:Int))],[(28,aM l6)],[],0⟩) (fun x=>K2 x=some r) ?_ ?_
   ·
    refine AWp.block (AWp.seq ?_);obtain⟨ob0,h⟩:=aB h;have ob1:=idA ((((n3:Int)==(lZ x1))==false)=true);have ob2:=idA ((((n3:Int)==(lZ x1))==false)=true);have ob3:=idA ((((n3:Int)==(lZ x1))==false)=true);have ob4:=bqA ((n3:Int)==(lZ x1)) false;refine aX [] [] ⟨32,[(0,.str x1),(3,.own 5003),(4,.i (n2:Int)),(5,.i (n3:Int)),(21,.bool (((n3:Int)==(lZ x1))||((((x1.getD n3 0).toNat:Nat):Int)==(32:Int))))],[(5003,aM l4)],[],0⟩ (an3 (And.intro ob0 (an2 ob1 ob2)) (an1 ob3) ob4) ?_;refine tN ?_;refine AWp.cond (b:=(((n3:Int)==(lZ x1))||((((x1.getD n3 0).toNat:Nat):Int)==(32:Int)))) (by kernel_rfl) (fun hc2=> ?_) (fun hc2=> ?_)
    ·
     replace h:=aF hc2 h;refine AWp.seq ?_;obtain⟨ob5p,h⟩:=aB h;have ob5:0≤(n2:Int)∧(n2:Int)≤(n3:Int)∧(n3:Int)≤((x1.length:Nat):Int):=⟨by omega,ob5p.1,ob5p.2⟩;obtain⟨ob6,h⟩:=aB h;refine aX [] [] ⟨32,[(0,.str x1),(3,.own 5003),(5,.i (n3:Int))],[(5003,.rows 9 1 ((l4).length+1) (gZ (l4).length (cB eS [] l4) (dR 1 [.str ((x1.take n3).drop n2)])))],[],0⟩ (an2 ob5 ob6) ?_;refine tN ?_;refine AWp.le (Le.mk (s':=⟨32,[(0,.str x1),(3,.own 5003),(5,.i (n3:Int))],[(5003,aM (l4++[((x1.take n3).drop n2)]))],[],0⟩) rfl rfl ⟨.refl _,.refl _,.refl _,trivial⟩ ⟨⟨_,rfl,(BLe.of (RL.app (RL.self _) (RL.lst (enc:=eS) [((x1.take n3).drop n2)] rfl rfl (fun _=>rfl))))⟩,trivial⟩) ?_;obtain⟨ob7p,h⟩:=aB h;have ob7: -9223372036854775808≤((n3:Int)+(1:Int))∧((n3:Int)+(1:Int))≤9223372036854775807:=⟨by omega,ob7p⟩;refine aX [] [] ⟨32,[(0,.str x1),(3,.own 5003),(4,.i (((n3+1):Nat):Int)),(5,.i (n3:Int))],[(5003,aM (l4++[((x1.take n3).drop n2)]))],[],0⟩ (an1 ob7) ?_;refine kN ?_;exact jN ((n3+1),(l4++[((x1.take n3).drop n2)])) (Le.trans (Le.trans (Le.ren (aU 5003 28) (aD 5003 28) rfl) (LR (s':=⟨32,[(0,.str x1),(3,.own 28),(4,.i (((n3+1):Nat):Int)),(5,.i (n3:Int))],[(28,aM (l4++[((x1.take n3).drop n2)]))],[],0⟩))) LR) h
    ·
     replace h:=aG hc2 h;refine AWp.skip (kN ?_);exact jN (n2,l4) (Le.trans (Le.trans (Le.ren (aU 5003 28) (aD 5003 28) rfl) (LR (s':=⟨32,[(0,.str x1),(3,.own 28),(4,.i (n2:Int)),(5,.i (n3:Int)),(21,.bool (((n3:Int)==(lZ x1))||((((x1.getD n3 0).toNat:Nat):Int)==(32:Int))))],[(28,aM l4)],[],0⟩))) LR) h
   ·
    rintro⟨n5,l6⟩ h;replace h:=(congrFun hK2 _).symm.trans h;obtain⟨ob8p,h⟩:=aB h;have ob8: -9223372036854775808≤((n3:Int)+(1:Int))∧((n3:Int)+(1:Int))≤9223372036854775807:=⟨by omega,ob8p⟩;refine aX [] [] ⟨32,[(0,.str x1),(3,.own 28),(4,.i (n5:Int)),(5,.i (((n3+1):Nat):Int))],[(28,aM l6)],[],0⟩ (an1 ob8) ?_;rw[hC0]at h;exact lN (_,n5,(n3+1),l6) (Le.trans (Le.trans (Le.ren (aU 28 5003) (aD 28 5003) rfl) (LR (s':=⟨32,[(0,.str x1),(3,.own 5003),(4,.i (n5:Int)),(5,.i (((n3+1):Nat):Int))],[(5003,aM l6)],[],0⟩))) LR) h (Nat.lt_succ_self _)
  ·
   replace h:=aG hc1 h;refine AWp.exit (tE (tE (kS ?_)));exact jN (l4) LR h
 ·
  rintro l7 h;replace h:=(congrFun hK1 _).symm.trans h;refine aN [] [] ⟨32,[(2,.own 5003)],[(5003,aM l7)],[],0⟩ trivial ?_;refine AWp.le (Le.trans (Le.ren (aU 5003 3000) (aD 5003 3000) rfl) (LR (s':=⟨32,[(2,.own 3000)],[(3000,aM l7)],[],0⟩))) ?_;have hret:=Option.some.inj h;subst hret;refine AWp.le (LR (s':=⟨32,[(2,.own 3000)],[(3000,aM l7)],[],0⟩)) ?_;refine AWp.ret ?_;exact bR _ rfl ⟨rfl,rfl⟩ rfl
abbrev wS :=([112,117,116]:List UInt8)
abbrev wR :=([103,101,116]:List UInt8)
abbrev wQ :=([99,97,115]:List UInt8)
def f114 (x1:Int):Option Ty1:=
 if((decide (x1<(1:Int)))||(decide (x1>(6:Int))))then(
 some []
 )else(
 chk (-9223372036854775808≤(x1-(1:Int))∧(x1-(1:Int))≤9223372036854775807)<|
 chk (0≤(x1-(1:Int))∧(x1-(1:Int))<(6:Int))<|
 chk ((((x1-(1:Int))).toNat)<6)<|
 some (([([112,117,116]:List UInt8),([103,101,116]:List UInt8),cs6,cs7,([99,97,115]:List UInt8),cs8]:List Ty1).getD (((x1-(1:Int))).toNat) [])
 )
theorem zJ (x1:Int) (r:List UInt8) (h:f114 x1=some r):aE Tryz.prog 114 [] [] [] [.int .i64 x1] (.str r) []:=by
 unfold f114 at h;refine aE.body 0 _ _ Tryz.func114 rfl Tryz.ntmps114 rfl rfl ?_;refine bF [] [] [0] [] trivial ?_;refine AWp.seq (AWp.seq ?_);have ob0:=idA (((decide (x1<(1:Int)))==false)=true);have ob1:=bqA (decide (x1<(1:Int))) false;refine bS [] [] [0,8] [] (an2 (an1 ob0) ob1) ?_;refine tN ?_;refine AWp.cond (b:=((decide (x1<(1:Int)))||(decide (x1>(6:Int))))) (by kernel_rfl) (fun hc1=> ?_) (fun hc1=> ?_)
 ·
  replace h:=aF hc1 h;refine aN [] [] ⟨14,[(2,.str [])],[],[],0⟩ trivial ?_;have hret:=Option.some.inj h;subst hret;refine AWp.ret (tR ?_);exact bR _ rfl ⟨rfl,rfl⟩ rfl
 ·
  replace h:=aG hc1 h;refine AWp.skip (tN (AWp.seq ?_));obtain⟨ob2,ob3,ob4,h⟩:=ck3 h;refine aX [] [(4,⟨[],[],[],[],.str (([(wS),(wR),cs6,cs7,(wQ),cs8]:List Ty1).getD (((x1-(1:Int))).toNat) []),[],[0],[]⟩)] ⟨14,[(2,.str (([(wS),(wR),cs6,cs7,(wQ),cs8]:List Ty1).getD (((x1-(1:Int))).toNat) []))],[],[],0⟩ (an3 ob2 ob3 (And.intro ob4 (show((dR 1 [.str (wS),.str (wR),.str cs6,.str cs7,.str (wQ),.str cs8]) (((x1-(1:Int))).toNat) 0:V)= .str (([(wS),(wR),cs6,cs7,(wQ),cs8]:List Ty1).getD (((x1-(1:Int))).toNat) [])from(lst_at eS [] 1 ([(wS),(wR),cs6,cs7,(wQ),cs8]:List Ty1) (fun _=>rfl) (show(((x1-(1:Int))).toNat)<6 from by assumption) (j:=0) (by decide))))) ?_;refine tN ?_;have hret:=Option.some.inj h;subst hret;refine AWp.ret ?_;exact bR _ rfl ⟨rfl,rfl⟩ rfl
def fD (x1:List UInt8) (K1:Unit→Option Bool):Nat→Nat→Option Bool
 |0,_=>none
 |k+1,n3=>
  if(decide ((n3:Int)<((x1.length:Nat):Int)))then(
  chk ((n3:Int)<((x1.length:Nat):Int))<|
  chk (((decide ((((x1.getD n3 0).toNat:Nat):Int)<(33:Int)))==false)=true→0≤(n3:Int)∧(n3:Int)<((x1.length:Nat):Int))<|
  if((decide ((((x1.getD n3 0).toNat:Nat):Int)<(33:Int)))||(decide ((((x1.getD n3 0).toNat:Nat):Int)>(126:Int))))then(
  some false
  )else(
  chk (((n3:Int)+(1:Int))≤9223372036854775807)<|
  (fD x1 K1 k) (n3+1)
  )
  )else(
  K1 ()
  )
theorem aBC (x1:List UInt8) (K1:Unit→Option Bool) (k n3:Nat):fD x1 K1 (k+1) n3=
  if(decide ((n3:Int)<((x1.length:Nat):Int)))then(
  chk ((n3:Int)<((x1.length:Nat):Int))<|
  chk (((decide ((((x1.getD n3 0).toNat:Nat):Int)<(33:Int)))==false)=true→0≤(n3:Int)∧(n3:Int)<((x1.length:Nat):Int))<|
  if((decide ((((x1.getD n3 0).toNat:Nat):Int)<(33:Int)))||(decide ((((x1.getD n3 0).toNat:Nat):Int)>(126:Int))))then(
  some false
  )else(
  chk (((n3:Int)+(1:Int))≤9223372036854775807)<|
  (fD x1 K1 k) (n3+1)
  )
  )else(
  K1 ()
  ):=rfl
def f178 (x1:List UInt8) (x2:Int):Option Bool:=
 jn (fun(_:Unit)=>
 some ((decide (((x1.length:Nat):Int)≥(1:Int)))&&(decide (((x1.length:Nat):Int)≤x2)))
 ) fun(K1:Unit→Option Bool)=>
 fD x1 K1 bB 0
theorem f178_ok (x1:List UInt8) (x2:Int) (r:Bool) (h:f178 x1 x2=some r):aE Tryz.prog 178 [] [] [] [.str x1,.int .i64 x2] (.bool r) []:=by
 unfold f178 at h;refine aE.body 0 _ _ Tryz.func178 rfl Tryz.ntmps178 rfl rfl ?_;refine aN [] [] ⟨31,[(0,.str x1),(1,.i x2)],[],[],0⟩ trivial ?_;obtain⟨K1,hK1,h⟩:=aR h;refine AWp.join (fun(x:Unit)=>match x with|()=>⟨31,[(0,.str x1),(1,.i x2)],[],[],0⟩) (fun x=>K1 x=some r) ?_ ?_
 ·
  refine aN [] [] ⟨31,[(0,.str x1),(1,.i x2),(5,.i (0:Int))],[],[],0⟩ trivial ?_;refine AWp.block ?_;refine AWp.loopL (α:=Nat×Nat) (fun x=>match x with|(_,n3)=>⟨31,[(0,.str x1),(1,.i x2),(5,.i (n3:Int))],[],[],0⟩) (fun x=>fD x1 K1 x.1 x.2=some r) (fun x=>x.1) (bB,0) (LR (s':=⟨31,[(0,.str x1),(1,.i x2),(5,.i (0:Int))],[],[],0⟩)) h ?_
  rintro⟨k0,n3⟩ h
  cases k0 with
  |zero=>exact nomatch (show none=some r from h)
  |succ k0=>
  obtain⟨C0,hC0⟩:∃C,C=fD x1 K1 k0:=⟨_,rfl⟩;replace h:=(aBC ..).symm.trans h
  try rw[←hC0]at h
  refine AWp.seq ?_;refine aN [] [] ⟨31,[(0,.str x1),(1,.i x2),(5,.i (n3:Int)),(9,.bool (decide ((n3:Int)<(lZ x1))))],[],[],0⟩ trivial ?_;refine AWp.cond (b:=(decide ((n3:Int)<(lZ x1)))) (by kernel_rfl) (fun hc1=> ?_) (fun hc1=> ?_)
  ·
   replace h:=aF hc1 h;refine AWp.skip (tN (AWp.seq (AWp.block (AWp.seq ?_))));obtain⟨ob0p,h⟩:=aB h;have ob0:0≤(n3:Int)∧(n3:Int)<((x1.length:Nat):Int):=⟨by omega,ob0p⟩;obtain⟨ob1,h⟩:=aB h;have ob2:=idA (((decide ((((x1.getD n3 0).toNat:Nat):Int)<(33:Int)))==false)=true);have ob3:=idA (((decide ((((x1.getD n3 0).toNat:Nat):Int)<(33:Int)))==false)=true);have ob4:=idA (((decide ((((x1.getD n3 0).toNat:Nat):Int)<(33:Int)))==false)=true);have ob5:=bqA (decide ((((x1.getD n3 0).toNat:Nat):Int)<(33:Int))) false;refine aX [] [] ⟨31,[(0,.str x1),(1,.i x2),(5,.i (n3:Int)),(21,.bool ((decide ((((x1.getD n3 0).toNat:Nat):Int)<(33:Int)))||(decide ((((x1.getD n3 0).toNat:Nat):Int)>(126:Int)))))],[],[],0⟩ (an4 ob0 (And.intro ob1 (an2 ob2 ob3)) (an1 ob4) ob5) ?_;refine tN ?_;refine AWp.cond (b:=((decide ((((x1.getD n3 0).toNat:Nat):Int)<(33:Int)))||(decide ((((x1.getD n3 0).toNat:Nat):Int)>(126:Int))))) (by kernel_rfl) (fun hc2=> ?_) (fun hc2=> ?_)
   ·
    replace h:=aF hc2 h;refine aN [] [] ⟨31,[(4,.bool false)],[],[],0⟩ trivial ?_;have hret:=Option.some.inj h;subst hret;refine AWp.ret (kR (tR (tR (kR (aQ ?_)))));exact bR _ rfl ⟨rfl,rfl⟩ rfl
   ·
    replace h:=aG hc2 h;refine AWp.skip (kN (tN ?_));obtain⟨ob6p,h⟩:=aB h;have ob6: -9223372036854775808≤((n3:Int)+(1:Int))∧((n3:Int)+(1:Int))≤9223372036854775807:=⟨by omega,ob6p⟩;refine aX [] [] ⟨31,[(0,.str x1),(1,.i x2),(5,.i (((n3+1):Nat):Int))],[],[],0⟩ (an1 ob6) ?_;rw[hC0]at h;exact lN (_,(n3+1)) LR h (Nat.lt_succ_self _)
  ·
   replace h:=aG hc1 h;refine AWp.exit (tE (tE (kS ?_)));exact jN () LR h
 ·
  rintro⟨⟩ h;replace h:=(congrFun hK1 _).symm.trans h;refine AWp.seq ?_;have ob7:=idA (((decide ((lZ x1)≥(1:Int)))==true)=true);have ob8:=idA (((decide ((lZ x1)≥(1:Int)))==true)=true);have ob9:=idA (((decide ((lZ x1)≥(1:Int)))==true)=true);have ob10:=bqA (decide ((lZ x1)≥(1:Int))) true;refine aX [] [] ⟨31,[(4,.bool ((decide ((lZ x1)≥(1:Int)))&&(decide ((lZ x1)≤x2))))],[],[],0⟩ (an3 (an1 ob7) (an2 ob8 ob9) ob10) ?_;refine tN ?_;have hret:=Option.some.inj h;subst hret;refine AWp.ret ?_;exact bR _ rfl ⟨rfl,rfl⟩ rfl
def f148 (x1:List UInt8):Option Bool:=
 (f178 x1 (64:Int)).bind fun(r2:Bool)=>
 some r2
theorem zC (x1:List UInt8) (r:Bool) (h:f148 x1=some r):aE Tryz.prog 148 [] [] [] [.str x1] (.bool r) []:=by
 unfold f148 at h;refine aE.body 0 _ _ Tryz.func148 rfl Tryz.ntmps148 rfl rfl ?_;refine bF [] [] [0] [] trivial ?_;refine AWp.seq ?_;obtain⟨r2,hr2,h⟩:=bind_ok h;refine aX [] [(1,⟨[.str x1,.i (64:Int)],[],[],[],.bool r2,[],[],[]⟩)] ⟨5,[(2,.bool r2)],[],[],0⟩ (an1 (cpT (f178_ok _ _ _ hr2))) ?_;refine tN ?_;have hret:=Option.some.inj h;subst hret;refine AWp.ret ?_;exact bR _ rfl ⟨rfl,rfl⟩ rfl
abbrev dV (x1:Int):=(((x1==(1:Int))||(x1==(4:Int)))||(x1==(5:Int)))
abbrev cL (x1:Int) (r6:Bool):=(!((x1 !=(6:Int))==r6))
abbrev nA (x1:Int) (x2 x3 x4:List UInt8):aK:=[(1,.cells 164 [.int .i64 x1,.str x2,.str x3,.str x4])]
abbrev eA (x1:Int) (r7:Bool):=(!((x1==(5:Int))==r7))
abbrev cZ (x1:Int):=(!(x1 !=(6:Int)))
abbrev fJ (x1:Int):=(!(x1==(5:Int)))
abbrev f115z6 (x1:Int):=(((x1==(1:Int))||(x1==(4:Int)))==false)
def f115 (x1:Int) (x2 x3 x4:List UInt8):Option (List UInt8×Int):=
 (f114 x1).bind fun(r5:List UInt8)=>
 fS ((r5==[])==false) (f148 x2) fun(r6:Bool)=>
 fS ((((r5==[])||(!((x1 !=(6:Int))==r6)))||((!(x1 !=(6:Int)))&&(!(x2==[]))))==false) (f148 x3) fun(r7:Bool)=>
 fS ((((((r5==[])||(!((x1 !=(6:Int))==r6)))||((!(x1 !=(6:Int)))&&(!(x2==[]))))||(!((x1==(5:Int))==r7)))||((!(x1==(5:Int)))&&(!(x3==[]))))==false) (f148 x4) fun(r8:Bool)=>
 chk ((((r5==[])||(!((x1 !=(6:Int))==r6)))==false)=true→(((r5==[])||(!((x1 !=(6:Int))==r6)))==false)=true→(!(x1 !=(6:Int)))=true→((((r5==[])||(!((x1 !=(6:Int))==r6)))==false)&&((!(x1 !=(6:Int)))==true))=true)<|
 chk ((((((r5==[])||(!((x1 !=(6:Int))==r6)))||((!(x1 !=(6:Int)))&&(!(x2==[]))))||(!((x1==(5:Int))==r7)))==false)=true→(((((r5==[])||(!((x1 !=(6:Int))==r6)))||((!(x1 !=(6:Int)))&&(!(x2==[]))))||(!((x1==(5:Int))==r7)))==false)=true→(!(x1==(5:Int)))=true→((((((r5==[])||(!((x1 !=(6:Int))==r6)))||((!(x1 !=(6:Int)))&&(!(x2==[]))))||(!((x1==(5:Int))==r7)))==false)&&((!(x1==(5:Int)))==true))=true)<|
 chk ((((((((r5==[])||(!((x1 !=(6:Int))==r6)))||((!(x1 !=(6:Int)))&&(!(x2==[]))))||(!((x1==(5:Int))==r7)))||((!(x1==(5:Int)))&&(!(x3==[]))))||(!((((x1==(1:Int))||(x1==(4:Int)))||(x1==(5:Int)))==r8)))==false)=true→(((((((r5==[])||(!((x1 !=(6:Int))==r6)))||((!(x1 !=(6:Int)))&&(!(x2==[]))))||(!((x1==(5:Int))==r7)))||((!(x1==(5:Int)))&&(!(x3==[]))))||(!((((x1==(1:Int))||(x1==(4:Int)))||(x1==(5:Int)))==r8)))==false)=true→(!(((x1==(1:Int))||(x1==(4:Int)))||(x1==(5:Int))))=true→((((((((r5==[])||(!((x1 !=(6:Int))==r6)))||((!(x1 !=(6:Int)))&&(!(x2==[]))))||(!((x1==(5:Int))==r7)))||((!(x1==(5:Int)))&&(!(x3==[]))))||(!((((x1==(1:Int))||(x1==(4:Int)))||(x1==(5:Int)))==r8)))==false)&&((!(((x1==(1:Int))||(x1==(4:Int)))||(x1==(5:Int))))==true))=true)<|
 if(((((((r5==[])||(!((x1 !=(6:Int))==r6)))||((!(x1 !=(6:Int)))&&(!(x2==[]))))||(!((x1==(5:Int))==r7)))||((!(x1==(5:Int)))&&(!(x3==[]))))||(!((((x1==(1:Int))||(x1==(4:Int)))||(x1==(5:Int)))==r8)))||((!(((x1==(1:Int))||(x1==(4:Int)))||(x1==(5:Int))))&&(!(x4==[]))))then(
 some ([],(1:Int))
 )else(
 (f114 x1).bind fun(r9:List UInt8)=>
 jn (fun(s10:List UInt8)=>
 jn (fun(s11:List UInt8)=>
 jn (fun(s12:List UInt8)=>
 some (s12,(0:Int))
 ) fun(K3:Ty1→Option (List UInt8×Int))=>
 if(((x1==(1:Int))||(x1==(4:Int)))||(x1==(5:Int)))then(
 chk (s11.length+([32]:List UInt8).length≤9223372036854775807)<|
 chk ((s11++([32]:List UInt8)).length+x4.length≤9223372036854775807)<|
 K3 ((s11++([32]:List UInt8))++x4)
 )else(
 K3 s11
 )
 ) fun(K2:Ty1→Option (List UInt8×Int))=>
 if(x1==(5:Int))then(
 chk (s10.length+([32]:List UInt8).length≤9223372036854775807)<|
 chk ((s10++([32]:List UInt8)).length+x3.length≤9223372036854775807)<|
 K2 ((s10++([32]:List UInt8))++x3)
 )else(
 K2 s10
 )
 ) fun(K1:Ty1→Option (List UInt8×Int))=>
 if(x1 !=(6:Int))then(
 chk (r9.length+([32]:List UInt8).length≤9223372036854775807)<|
 chk ((r9++([32]:List UInt8)).length+x2.length≤9223372036854775807)<|
 K1 ((r9++([32]:List UInt8))++x2)
 )else(
 K1 r9
 )
 )
theorem f115_ok (x1:Int) (x2 x3 x4:List UInt8) (r:List UInt8×Int) (h:f115 x1 x2 x3 x4=some r):aE Tryz.prog 115 [] [] [] [.agg [.int .i64 x1,.str x2,.str x3,.str x4]] (.tup [.str r.1,.int .i64 r.2]) []:=by
 unfold f115 at h;refine aE.body 0 _ _ Tryz.func115 rfl Tryz.ntmps115 rfl rfl ?_;refine bF [] [] [1] [1] trivial ?_;refine bF [] [] [1,4] [1] trivial ?_;refine bF [] [] [1,4,5] [1] trivial ?_;refine AWp.seq ?_;have ob0:=idA (((x1==(1:Int))==false)=true);have ob1:=idA (((x1==(1:Int))==false)=true);have ob2:=bqA (x1==(1:Int)) false;have ob3:=idA ((f115z6 x1)=true);have ob4:=idA ((f115z6 x1)=true);have ob5:true=true→((x1==(1:Int))||(x1==(4:Int)))=false→(f115z6 x1)=true:=fun _ h=>beq_iff_eq.2 h;refine bS [] [] [1,4,5,6] [1] (an6 (an1 ob0) (an1 ob1) ob2 (an1 ob3) (an1 ob4) ob5) ?_;refine tN (AWp.seq (AWp.seq ?_));obtain⟨r5,hr5,h⟩:=bind_ok h;obtain⟨r6,hr6,h⟩:=bZ h;obtain⟨r7,hr7,h⟩:=bZ h;obtain⟨r8,hr8,h⟩:=bZ h;have ob6:=idA (((r5==[])==false)=true);have ob7:=idA (((r5==[])==false)=true);have ob8:=idA (((r5==[])==false)=true);have ob9:=idA (((r5==[])==false)=true);have ob10:=bqA (r5==[]) false;have ob11:=idA ((((r5==[])||(cL x1 r6))==false)=true);have ob12:=idA ((((r5==[])||(cL x1 r6))==false)=true);have ob13:=idA (((((r5==[])||(cL x1 r6))==false)&&((cZ x1)==true))=true);have ob14:=idA (((((r5==[])||(cL x1 r6))==false)&&((cZ x1)==true))=true);obtain⟨ob15,h⟩:=aB h;have ob16:=idA ((((r5==[])||(cL x1 r6))==false)=true);have ob17:=bqA ((r5==[])||(cL x1 r6)) false;have ob18:=idA (((((r5==[])||(cL x1 r6))||((cZ x1)&&(!(x2==[]))))==false)=true);have ob19:=idA (((((r5==[])||(cL x1 r6))||((cZ x1)&&(!(x2==[]))))==false)=true);have ob20:=idA (((((r5==[])||(cL x1 r6))||((cZ x1)&&(!(x2==[]))))==false)=true);have ob21:=idA (((((r5==[])||(cL x1 r6))||((cZ x1)&&(!(x2==[]))))==false)=true);have ob22:=bqA (((r5==[])||(cL x1 r6))||((cZ x1)&&(!(x2==[])))) false;have ob23:=idA ((((((r5==[])||(cL x1 r6))||((cZ x1)&&(!(x2==[]))))||(eA x1 r7))==false)=true);have ob24:=idA ((((((r5==[])||(cL x1 r6))||((cZ x1)&&(!(x2==[]))))||(eA x1 r7))==false)=true);have ob25:=idA (((((((r5==[])||(cL x1 r6))||((cZ x1)&&(!(x2==[]))))||(eA x1 r7))==false)&&((fJ x1)==true))=true);have ob26:=idA (((((((r5==[])||(cL x1 r6))||((cZ x1)&&(!(x2==[]))))||(eA x1 r7))==false)&&((fJ x1)==true))=true);obtain⟨ob27,h⟩:=aB h;have ob28:=idA ((((((r5==[])||(cL x1 r6))||((cZ x1)&&(!(x2==[]))))||(eA x1 r7))==false)=true);have ob29:=bqA ((((r5==[])||(cL x1 r6))||((cZ x1)&&(!(x2==[]))))||(eA x1 r7)) false;have ob30:=idA (((((((r5==[])||(cL x1 r6))||((cZ x1)&&(!(x2==[]))))||(eA x1 r7))||((fJ x1)&&(!(x3==[]))))==false)=true);have ob31:=idA (((((((r5==[])||(cL x1 r6))||((cZ x1)&&(!(x2==[]))))||(eA x1 r7))||((fJ x1)&&(!(x3==[]))))==false)=true);have ob32:=idA (((((((r5==[])||(cL x1 r6))||((cZ x1)&&(!(x2==[]))))||(eA x1 r7))||((fJ x1)&&(!(x3==[]))))==false)=true);have ob33:=idA (((((((r5==[])||(cL x1 r6))||((cZ x1)&&(!(x2==[]))))||(eA x1 r7))||((fJ x1)&&(!(x3==[]))))==false)=true);have ob34:=bqA (((((r5==[])||(cL x1 r6))||((cZ x1)&&(!(x2==[]))))||(eA x1 r7))||((fJ x1)&&(!(x3==[])))) false;have ob35:=idA ((((((((r5==[])||(cL x1 r6))||((cZ x1)&&(!(x2==[]))))||(eA x1 r7))||((fJ x1)&&(!(x3==[]))))||(!((dV x1)==r8)))==false)=true);have ob36:=idA ((((((((r5==[])||(cL x1 r6))||((cZ x1)&&(!(x2==[]))))||(eA x1 r7))||((fJ x1)&&(!(x3==[]))))||(!((dV x1)==r8)))==false)=true);have ob37:=idA (((((((((r5==[])||(cL x1 r6))||((cZ x1)&&(!(x2==[]))))||(eA x1 r7))||((fJ x1)&&(!(x3==[]))))||(!((dV x1)==r8)))==false)&&((!(dV x1))==true))=true);have ob38:=idA (((((((((r5==[])||(cL x1 r6))||((cZ x1)&&(!(x2==[]))))||(eA x1 r7))||((fJ x1)&&(!(x3==[]))))||(!((dV x1)==r8)))==false)&&((!(dV x1))==true))=true);obtain⟨ob39,h⟩:=aB h;have ob40:=idA ((((((((r5==[])||(cL x1 r6))||((cZ x1)&&(!(x2==[]))))||(eA x1 r7))||((fJ x1)&&(!(x3==[]))))||(!((dV x1)==r8)))==false)=true);have ob41:=bqA ((((((r5==[])||(cL x1 r6))||((cZ x1)&&(!(x2==[]))))||(eA x1 r7))||((fJ x1)&&(!(x3==[]))))||(!((dV x1)==r8))) false;refine bS [] [(2,⟨[.i x1],[],[],[],.str r5,[],[],[]⟩),(8,⟨[.str x2],[],[],[],.bool r6,[],[],[]⟩),(24,⟨[.str x3],[],[],[],.bool r7,[],[],[]⟩),(40,⟨[.str x4],[],[],[],.bool r8,[],[],[]⟩)] [1,4,5,6,78] [1] (ac6 (cpT (zJ _ _ hr5)) (an1 ob6) (And.intro (cpC fun hc=>(zC _ _ (hr6 hc))) (an1 ob7)) (an2 ob8 ob9) ob10 (an1 ob11) (ac6 (an1 ob12) (an1 ob13) (an1 ob14) (And.intro ob15 (an1 ob16)) ob17 (an1 ob18) (ac6 (And.intro (cpC fun hc=>(zC _ _ (hr7 hc))) (an1 ob19)) (an2 ob20 ob21) ob22 (an1 ob23) (an1 ob24) (an1 ob25) (ac6 (an1 ob26) (And.intro ob27 (an1 ob28)) ob29 (an1 ob30) (And.intro (cpC fun hc=>(zC _ _ (hr8 hc))) (an1 ob31)) (an2 ob32 ob33) (ac6 ob34 (an1 ob35) (an1 ob36) (an1 ob37) (an1 ob38) (And.intro ob39 (an1 ob40)) (an1 ob41)))))) ?_;refine tN ?_;refine AWp.cond (b:=(((((((r5==[])||(cL x1 r6))||((cZ x1)&&(!(x2==[]))))||(eA x1 r7))||((fJ x1)&&(!(x3==[]))))||(!((dV x1)==r8)))||((!(dV x1))&&(!(x4==[]))))) (by kernel_rfl) (fun hc1=> ?_) (fun hc1=> ?_)
 ·
  replace h:=aF hc1 h;refine aN [] [] ⟨101,[(2,.str []),(3,.i (1:Int))],[],[],0⟩ trivial ?_;have hret:=Option.some.inj h;subst hret;refine AWp.ret (tR ?_);exact bR _ rfl ⟨rfl,rfl⟩ rfl
 ·
  replace h:=aG hc1 h;refine AWp.skip (tN (AWp.seq ?_));obtain⟨r9,hr9,h⟩:=bind_ok h;refine aX [] [(2,⟨[.i x1],[],[],[],.str r9,[],[],[]⟩)] ⟨101,[(1,.ptr 1 0),(4,.bool (x1 !=(6:Int))),(5,.bool (x1==(5:Int))),(6,.bool (dV x1)),(7,.str r9)],(nA x1 x2 x3 x4),[],0⟩ (an1 (cpT (zJ _ _ hr9))) ?_;refine tN ?_;obtain⟨K1,hK1,h⟩:=aR h;refine AWp.join (α:=List UInt8) (fun(s10:List UInt8)=>⟨101,[(1,.ptr 1 0),(5,.bool (x1==(5:Int))),(6,.bool (dV x1)),(7,.str s10)],(nA x1 x2 x3 x4),[],0⟩) (fun x=>K1 x=some r) ?_ ?_
  ·
   refine aN [] [] ⟨101,[(1,.ptr 1 0),(5,.bool (x1==(5:Int))),(6,.bool (dV x1)),(7,.str r9),(82,.bool (x1 !=(6:Int)))],(nA x1 x2 x3 x4),[],0⟩ trivial ?_;refine AWp.cond (b:=(x1 !=(6:Int))) (by kernel_rfl) (fun hc2=> ?_) (fun hc2=> ?_)
   ·
    replace h:=aF hc2 h;obtain⟨ob42,ob43,h⟩:=ck2 h;refine aX [] [] ⟨101,[(1,.ptr 1 0),(5,.bool (x1==(5:Int))),(6,.bool (dV x1)),(7,.str ((r9++([32]:List UInt8))++x2))],(nA x1 x2 x3 x4),[],0⟩ (an2 ob42 ob43) ?_;exact jN (((r9++([32]:List UInt8))++x2)) LR h
   ·
    replace h:=aG hc2 h;refine AWp.skip ?_;exact jN (r9) LR h
  ·
   rintro s10 h;replace h:=(congrFun hK1 _).symm.trans h;obtain⟨K2,hK2,h⟩:=aR h;refine AWp.join (α:=List UInt8) (fun(s11:List UInt8)=>⟨101,[(1,.ptr 1 0),(6,.bool (dV x1)),(7,.str s11)],(nA x1 x2 x3 x4),[],0⟩) (fun x=>K2 x=some r) ?_ ?_
   ·
    refine aN [] [] ⟨101,[(1,.ptr 1 0),(6,.bool (dV x1)),(7,.str s10),(88,.bool (x1==(5:Int)))],(nA x1 x2 x3 x4),[],0⟩ trivial ?_;refine AWp.cond (b:=(x1==(5:Int))) (by kernel_rfl) (fun hc3=> ?_) (fun hc3=> ?_)
    ·
     replace h:=aF hc3 h;obtain⟨ob44,ob45,h⟩:=ck2 h;refine aX [] [] ⟨101,[(1,.ptr 1 0),(6,.bool (dV x1)),(7,.str ((s10++([32]:List UInt8))++x3))],(nA x1 x2 x3 x4),[],0⟩ (an2 ob44 ob45) ?_;exact jN (((s10++([32]:List UInt8))++x3)) LR h
    ·
     replace h:=aG hc3 h;refine AWp.skip ?_;exact jN (s10) LR h
   ·
    rintro s11 h;replace h:=(congrFun hK2 _).symm.trans h;obtain⟨K3,hK3,h⟩:=aR h;refine AWp.join (α:=List UInt8) (fun(s12:List UInt8)=>⟨101,[(7,.str s12)],[],[],0⟩) (fun x=>K3 x=some r) ?_ ?_
    ·
     refine aN [] [] ⟨101,[(1,.ptr 1 0),(7,.str s11),(94,.bool (dV x1))],(nA x1 x2 x3 x4),[],0⟩ trivial ?_;refine AWp.cond (b:=(dV x1)) (by kernel_rfl) (fun hc4=> ?_) (fun hc4=> ?_)
     ·
      replace h:=aF hc4 h;obtain⟨ob46,ob47,h⟩:=ck2 h;refine aX [] [] ⟨101,[(7,.str ((s11++([32]:List UInt8))++x4))],[],[],0⟩ (an2 ob46 ob47) ?_;exact jN (((s11++([32]:List UInt8))++x4)) LR h
     ·
      replace h:=aG hc4 h;refine AWp.skip ?_;exact jN (s11) LR h
    ·
     rintro s12 h;replace h:=(congrFun hK3 _).symm.trans h;refine aN [] [] ⟨101,[(2,.str s12),(3,.i (0:Int))],[],[],0⟩ trivial ?_;have hret:=Option.some.inj h;subst hret;refine AWp.ret ?_;exact bR _ rfl ⟨rfl,rfl⟩ rfl
def fY (x1:List UInt8) (r2:List Ty1) (K1:Unit→Option Tq8):Nat→Nat→Option Tq8
 |0,_=>none
 |k+1,n3=>
  if(decide ((n3:Int)≤(6:Int)))then(
  jn (fun(_:Unit)=>
  chk (((n3:Int)+(1:Int))≤9223372036854775807)<|
  (fY x1 r2 K1 k) (n3+1)
  ) fun(K2:Unit→Option Tq8)=>
  (f114 (n3:Int)).bind fun(r4:List UInt8)=>
  chk ((0:Int)<(((r2).length:Nat):Int))<|
  chk (0<(r2).length)<|
  if(!((r2.getD 0 [])==r4))then(
  K2 ()
  )else(
  jn (fun(s5:List UInt8)=>
  jn (fun(s6:List UInt8)=>
  jn (fun(s7:List UInt8)=>
  jn (fun(s8:List UInt8)=>
  (f115 (n3:Int) s5 s6 s8).bind fun(r9:List UInt8×Int)=>
  if((r9.2==(0:Int))&&(r9.1==x1))then(
  some ((n3:Int),s5,s6,s8,(0:Int))
  )else(
  K2 ()
  )
  ) fun(K6:Ty1→Option Tq8)=>
  if(((n3:Int)==(5:Int))&&(decide ((((r2).length:Nat):Int)>(3:Int))))then(
  chk ((3:Int)<(((r2).length:Nat):Int))<|
  chk (3<(r2).length)<|
  K6 (r2.getD 3 [])
  )else(
  K6 s7
  )
  ) fun(K5:Ty1→Option Tq8)=>
  if(((n3:Int) !=(5:Int))&&(decide ((((r2).length:Nat):Int)>(2:Int))))then(
  chk ((2:Int)<(((r2).length:Nat):Int))<|
  chk (2<(r2).length)<|
  K5 (r2.getD 2 [])
  )else(
  K5 []
  )
  ) fun(K4:Ty1→Option Tq8)=>
  if(((n3:Int)==(5:Int))&&(decide ((((r2).length:Nat):Int)>(2:Int))))then(
  chk ((2:Int)<(((r2).length:Nat):Int))<|
  chk (2<(r2).length)<|
  K4 (r2.getD 2 [])
  )else(
  K4 []
  )
  ) fun(K3:Ty1→Option Tq8)=>
  if(decide ((((r2).length:Nat):Int)>(1:Int)))then(
  chk ((1:Int)<(((r2).length:Nat):Int))<|
  chk (1<(r2).length)<|
  K3 (r2.getD 1 [])
  )else(
  K3 []
  )
  )
  )else(
  K1 ()
  )
abbrev lS :List V:=[.int .i64 (0:Int),.str [],.str [],.str []]
abbrev sG (x1:List UInt8) (n3:Nat):List (Nat×V):=[(0,.str x1),(2,.ptr 2 0),(4,.own 6001),(5,.int .i64 (n3:Int)),(6,.ptr 6 0)]
abbrev vE (r2:List Ty1):aK:=[(2,.cells 164 (lS)),(6001,bL 9 1 eS [] r2)]
abbrev qB (n3:Nat):=((n3:Int)==(5:Int))
abbrev f84z4 (n3:Nat) (r2:List Ty1):aK:=[(2,.cells 164 (lS)),(6,.cells 164 [.int .i64 (n3:Int),.str [],.str [],.str []]),(6001,bL 9 1 eS [] r2)]
abbrev f84z5 (x1:List UInt8) (n3:Nat):List (Nat×V):=[(0,.str x1),(2,.ptr 2 0),(4,.own 6001),(5,.int .i64 (n3:Int))]
abbrev f84z6 (n3:Nat) (s5:List UInt8) (r2:List Ty1):aK:=[(2,.cells 164 (lS)),(6,.cells 164 [.int .i64 (n3:Int),.str s5,.str [],.str []]),(6001,bL 9 1 eS [] r2)]
abbrev f84z7 (n3:Nat):=((n3:Int) !=(5:Int))
abbrev f84z8 (n3:Nat) (s5 s6:List UInt8) (r2:List Ty1):aK:=[(2,.cells 164 (lS)),(6,.cells 164 [.int .i64 (n3:Int),.str s5,.str s6,.str []]),(6001,bL 9 1 eS [] r2)]
abbrev f84z9 (n3:Nat) (s5 s6 s8:List UInt8):List V:=[.int .i64 (n3:Int),.str s5,.str s6,.str s8]
abbrev f84z10 (n3:Nat) (s5 s6 s7:List UInt8) (r2:List Ty1):aK:=[(2,.cells 164 (lS)),(6,.cells 164 [.int .i64 (n3:Int),.str s5,.str s6,.str s7]),(6001,bL 9 1 eS [] r2)]
def f84 (x1:List UInt8):Option Tq8:=
 (f113 x1).bind fun(r2:List Ty1)=>
 jn (fun(_:Unit)=>
 some ((0:Int),[],[],[],(2:Int))
 ) fun(K1:Unit→Option Tq8)=>
 fY x1 r2 K1 bB 1
theorem f84_ok (x1:List UInt8) (r:Tq8) (h:f84 x1=some r):aE Tryz.prog 84 [] [] [] [.str x1] (.tup [.agg [.int .i64 r.1,.str r.2.1,.str r.2.2.1,.str r.2.2.2.1],.int .i64 r.2.2.2.2]) []:=by
 unfold f84 at h;refine aE.bodyD [2] 0 _ _ Tryz.func84 rfl Tryz.ntmps84 rfl rfl ?_;refine bF [] [] [0,2] [2] trivial ?_;refine AWp.seq ?_;obtain⟨r2,hr2,h⟩:=bind_ok h;refine aX [] [(1,⟨[.str x1],[],[],[(6001,aM r2)],.own 6001,[6001],[],[]⟩)] ⟨77,[(0,.str x1),(2,.ptr 2 0),(4,.own 6001)],(vE r2),[],0⟩ (an1 (cpT (aE.ren (aU 3000 6001) (aD 3000 6001) rfl (f113_ok _ _ hr2)))) ?_;refine tN ?_;obtain⟨K1,hK1,h⟩:=aR h;refine AWp.join (fun(x:Unit)=>match x with|()=>⟨77,[(2,.ptr 2 0)],[(2,.cells 164 (lS))],[],0⟩) (fun x=>K1 x=some r) ?_ ?_
 ·
  refine aN [] [] ⟨77,[(0,.str x1),(2,.ptr 2 0),(4,.own 6001),(5,.i (1:Int))],(vE r2),[],0⟩ trivial ?_;refine AWp.block ?_;refine AWp.loopL (α:=Nat×Nat) (fun x=>match x with|(_,n3)=>⟨77,(f84z5 x1 n3),(vE r2),[],0⟩) (fun x=>fY x1 r2 K1 x.1 x.2=some r) (fun x=>x.1) (bB,1) (LR (s':=⟨77,[(0,.str x1),(2,.ptr 2 0),(4,.own 6001),(5,.i (1:Int))],(vE r2),[],0⟩)) h ?_
  rintro⟨k0,n3⟩ h
  cases k0 with
  |zero=>exact nomatch (show none=some r from h)
  |succ k0=>
  obtain⟨C0,hC0⟩:∃C,C=fY x1 r2 K1 k0:=⟨_,rfl⟩;replace h:=(fY.eq_2 ..).symm.trans h
  try rw[←hC0]at h
  refine AWp.seq ?_;refine aN [] [] ⟨77,[(0,.str x1),(2,.ptr 2 0),(4,.own 6001),(5,.i (n3:Int)),(12,.bool (decide ((n3:Int)≤(6:Int))))],(vE r2),[],0⟩ trivial ?_;refine AWp.cond (b:=(decide ((n3:Int)≤(6:Int)))) (by kernel_rfl) (fun hc1=> ?_) (fun hc1=> ?_)
  ·
   replace h:=aF hc1 h;refine AWp.skip (tN ?_);obtain⟨K2,hK2,h⟩:=aR h;refine AWp.join (fun(x:Unit)=>match x with|()=>⟨77,(f84z5 x1 n3),(vE r2),[],0⟩) (fun x=>K2 x=some r) ?_ ?_
   ·
    refine AWp.block (AWp.seq (AWp.seq ?_));obtain⟨r4,hr4,h⟩:=bind_ok h;obtain⟨ob0p,h⟩:=aB h;have ob0:0≤(0:Int)∧(0:Int)<(((r2).length:Nat):Int):=⟨by omega,ob0p⟩;obtain⟨ob1,h⟩:=aB h;refine aX [] [(4,⟨[.i (n3:Int)],[],[],[],.str r4,[],[],[]⟩)] ⟨77,[(0,.str x1),(2,.ptr 2 0),(4,.own 6001),(5,.i (n3:Int)),(20,.bool (!((r2.getD 0 [])==r4)))],(vE r2),[],0⟩ (an3 ob0 ob1 (cpT (zJ _ _ hr4))) ?_;refine tN ?_;refine AWp.cond (b:=(!((r2.getD 0 [])==r4))) (by kernel_rfl) (fun hc2=> ?_) (fun hc2=> ?_)
    ·
     replace h:=aF hc2 h;refine AWp.exit (tE (kS ?_));exact jN () LR h
    ·
     replace h:=aG hc2 h;refine AWp.skip (tN ?_);refine aN [] [] ⟨77,(sG x1 n3),(f84z4 n3 r2),[],0⟩ (an1 trivial) ?_;obtain⟨K3,hK3,h⟩:=aR h;refine AWp.join (α:=List UInt8) (fun(s5:List UInt8)=>⟨77,(sG x1 n3),(f84z6 n3 s5 r2),[],0⟩) (fun x=>K3 x=some r) ?_ ?_
     ·
      refine aN [] [] ⟨77,[(0,.str x1),(2,.ptr 2 0),(4,.own 6001),(5,.i (n3:Int)),(6,.ptr 6 0),(25,.bool (decide ((lZ r2)>(1:Int))))],(f84z4 n3 r2),[],0⟩ trivial ?_;refine AWp.cond (b:=(decide ((lZ r2)>(1:Int)))) (by kernel_rfl) (fun hc3=> ?_) (fun hc3=> ?_)
      ·
       replace h:=aF hc3 h;obtain⟨ob2p,h⟩:=aB h;have ob2:0≤(1:Int)∧(1:Int)<(((r2).length:Nat):Int):=⟨by omega,ob2p⟩;obtain⟨ob3,h⟩:=aB h;refine aX [] [] ⟨77,(sG x1 n3),[(2,.cells 164 (lS)),(6,.cells 164 [.i (n3:Int),.str (r2.getD 1 []),.str [],.str []]),(6001,aM r2)],[],0⟩ (an3 ob2 ob3 trivial) ?_;exact jN ((r2.getD 1 [])) LR h
      ·
       replace h:=aG hc3 h;refine AWp.skip ?_;exact jN ([]) LR h
     ·
      rintro s5 h;replace h:=(congrFun hK3 _).symm.trans h;obtain⟨K4,hK4,h⟩:=aR h;refine AWp.join (α:=List UInt8) (fun(s6:List UInt8)=>⟨77,(sG x1 n3),(f84z8 n3 s5 s6 r2),[],0⟩) (fun x=>K4 x=some r) ?_ ?_
      ·
       refine AWp.seq ?_;have ob4:=idA (((qB n3)==true)=true);have ob5:=idA (((qB n3)==true)=true);have ob6:=bqA (qB n3) true;refine aX [] [] ⟨77,[(0,.str x1),(2,.ptr 2 0),(4,.own 6001),(5,.i (n3:Int)),(6,.ptr 6 0),(36,.bool ((qB n3)&&(decide ((lZ r2)>(2:Int)))))],(f84z6 n3 s5 r2),[],0⟩ (an3 (an1 ob4) (an1 ob5) ob6) ?_;refine tN ?_;refine AWp.cond (b:=((qB n3)&&(decide ((lZ r2)>(2:Int))))) (by kernel_rfl) (fun hc4=> ?_) (fun hc4=> ?_)
       ·
        replace h:=aF hc4 h;obtain⟨ob7p,h⟩:=aB h;have ob7:0≤(2:Int)∧(2:Int)<(((r2).length:Nat):Int):=⟨by omega,ob7p⟩;obtain⟨ob8,h⟩:=aB h;refine aX [] [] ⟨77,(sG x1 n3),[(2,.cells 164 (lS)),(6,.cells 164 [.i (n3:Int),.str s5,.str (r2.getD 2 []),.str []]),(6001,aM r2)],[],0⟩ (an3 ob7 ob8 trivial) ?_;exact jN ((r2.getD 2 [])) LR h
       ·
        replace h:=aG hc4 h;refine AWp.skip ?_;exact jN ([]) LR h
      ·
       rintro s6 h;replace h:=(congrFun hK4 _).symm.trans h;obtain⟨K5,hK5,h⟩:=aR h;refine AWp.join (α:=List UInt8) (fun(s7:List UInt8)=>⟨77,(sG x1 n3),(f84z10 n3 s5 s6 s7 r2),[],0⟩) (fun x=>K5 x=some r) ?_ ?_
       ·
        refine AWp.seq ?_;have ob9:=idA (((f84z7 n3)==true)=true);have ob10:=idA (((f84z7 n3)==true)=true);have ob11:=bqA (f84z7 n3) true;refine aX [] [] ⟨77,[(0,.str x1),(2,.ptr 2 0),(4,.own 6001),(5,.i (n3:Int)),(6,.ptr 6 0),(47,.bool ((f84z7 n3)&&(decide ((lZ r2)>(2:Int)))))],(f84z8 n3 s5 s6 r2),[],0⟩ (an3 (an1 ob9) (an1 ob10) ob11) ?_;refine tN ?_;refine AWp.cond (b:=((f84z7 n3)&&(decide ((lZ r2)>(2:Int))))) (by kernel_rfl) (fun hc5=> ?_) (fun hc5=> ?_)
        ·
         replace h:=aF hc5 h;obtain⟨ob12p,h⟩:=aB h;have ob12:0≤(2:Int)∧(2:Int)<(((r2).length:Nat):Int):=⟨by omega,ob12p⟩;obtain⟨ob13,h⟩:=aB h;refine aX [] [] ⟨77,(sG x1 n3),[(2,.cells 164 (lS)),(6,.cells 164 [.i (n3:Int),.str s5,.str s6,.str (r2.getD 2 [])]),(6001,aM r2)],[],0⟩ (an3 ob12 ob13 trivial) ?_;exact jN ((r2.getD 2 [])) LR h
        ·
         replace h:=aG hc5 h;refine AWp.skip ?_;exact jN ([]) LR h
       ·
        rintro s7 h;replace h:=(congrFun hK5 _).symm.trans h;obtain⟨K6,hK6,h⟩:=aR h;refine AWp.join (α:=List UInt8) (fun(s8:List UInt8)=>⟨77,(sG x1 n3),[(2,.cells 164 (lS)),(6,.cells 164 (f84z9 n3 s5 s6 s8)),(6001,aM r2)],[],0⟩) (fun x=>K6 x=some r) ?_ ?_
        ·
         refine AWp.seq ?_;have ob14:=idA (((qB n3)==true)=true);have ob15:=idA (((qB n3)==true)=true);have ob16:=bqA (qB n3) true;refine aX [] [] ⟨77,[(0,.str x1),(2,.ptr 2 0),(4,.own 6001),(5,.i (n3:Int)),(6,.ptr 6 0),(58,.bool ((qB n3)&&(decide ((lZ r2)>(3:Int)))))],(f84z10 n3 s5 s6 s7 r2),[],0⟩ (an3 (an1 ob14) (an1 ob15) ob16) ?_;refine tN ?_;refine AWp.cond (b:=((qB n3)&&(decide ((lZ r2)>(3:Int))))) (by kernel_rfl) (fun hc6=> ?_) (fun hc6=> ?_)
         ·
          replace h:=aF hc6 h;obtain⟨ob17p,h⟩:=aB h;have ob17:0≤(3:Int)∧(3:Int)<(((r2).length:Nat):Int):=⟨by omega,ob17p⟩;obtain⟨ob18,h⟩:=aB h;refine aX [] [] ⟨77,(sG x1 n3),[(2,.cells 164 (lS)),(6,.cells 164 [.i (n3:Int),.str s5,.str s6,.str (r2.getD 3 [])]),(6001,aM r2)],[],0⟩ (an3 ob17 ob18 trivial) ?_;exact jN ((r2.getD 3 [])) LR h
         ·
          replace h:=aG hc6 h;refine AWp.skip ?_;exact jN (s7) LR h
        ·
         rintro s8 h;replace h:=(congrFun hK6 _).symm.trans h;refine AWp.seq ?_;obtain⟨r9,hr9,h⟩:=bind_ok h;refine bS [] [(1,⟨[.agg (f84z9 n3 s5 s6 s8)],[],[],[],.tup [.str r9.1,.i r9.2],[],[],[]⟩)] [0,2,4,5,6,7,8] [2,6,6001] (an1 (cpT (f115_ok _ _ _ _ _ hr9))) ?_;refine tN (AWp.seq ?_);have ob19:=idA (((r9.2==(0:Int))==true)=true);have ob20:=idA (((r9.2==(0:Int))==true)=true);have ob21:=bqA (r9.2==(0:Int)) true;refine aX [] [] ⟨77,[(0,.str x1),(2,.ptr 2 0),(4,.own 6001),(5,.i (n3:Int)),(6,.ptr 6 0),(74,.bool ((r9.2==(0:Int))&&(r9.1==x1)))],[(2,.cells 164 (lS)),(6,.cells 164 (f84z9 n3 s5 s6 s8)),(6001,aM r2)],[],0⟩ (an2 (an2 ob19 ob20) ob21) ?_;refine tN ?_;refine AWp.cond (b:=((r9.2==(0:Int))&&(r9.1==x1))) (by kernel_rfl) (fun hc7=> ?_) (fun hc7=> ?_)
         ·
          replace h:=aF hc7 h;refine aN [] [] ⟨77,[(2,.ptr 2 0),(3,.i (0:Int))],[(2,.cells 164 (f84z9 n3 s5 s6 s8))],[],0⟩ (an1 trivial) ?_;have hret:=Option.some.inj h;subst hret;refine AWp.ret (kR (aQ (tR (kR (aQ ?_)))));exact bR _ rfl ⟨rfl,rfl⟩ rfl
         ·
          replace h:=aG hc7 h;refine AWp.skip (kN ?_);exact jN () LR h
   ·
    rintro⟨⟩ h;replace h:=(congrFun hK2 _).symm.trans h;obtain⟨ob22p,h⟩:=aB h;have ob22: -9223372036854775808≤((n3:Int)+(1:Int))∧((n3:Int)+(1:Int))≤9223372036854775807:=⟨by omega,ob22p⟩;refine aX [] [] ⟨77,[(0,.str x1),(2,.ptr 2 0),(4,.own 6001),(5,.i (((n3+1):Nat):Int))],(vE r2),[],0⟩ (an1 ob22) ?_;rw[hC0]at h;exact lN (_,(n3+1)) LR h (Nat.lt_succ_self _)
  ·
   replace h:=aG hc1 h;refine AWp.exit (tE (tE (kS ?_)));exact jN () LR h
 ·
  rintro⟨⟩ h;replace h:=(congrFun hK1 _).symm.trans h;refine aN [] [] ⟨77,[(2,.ptr 2 0),(3,.i (2:Int))],[(2,.cells 164 (lS))],[],0⟩ (an1 trivial) ?_;have hret:=Option.some.inj h;subst hret;refine AWp.ret ?_;exact bR _ rfl ⟨rfl,rfl⟩ rfl
def dL (x1:List Tq2) (x2:List UInt8) (K1:Unit→Option Int):Nat→Nat→Option Int
 |0,_=>none
 |k+1,n3=>
  if(decide ((n3:Int)<(((x1).length:Nat):Int)))then(
  chk ((n3:Int)<(((x1).length:Nat):Int))<|
  if(((x1.getD n3 (default:Tq2)).1)==x2)then(
  some (n3:Int)
  )else(
  chk (((n3:Int)+(1:Int))≤9223372036854775807)<|
  (dL x1 x2 K1 k) (n3+1)
  )
  )else(
  K1 ()
  )
def f116 (x1:List Tq2) (x2:List UInt8):Option Int:=
 jn (fun(_:Unit)=>
 some (-1:Int)
 ) fun(K1:Unit→Option Int)=>
 dL x1 x2 K1 bB 0
theorem f116_ok (x1:List Tq2) (x2:List UInt8) (r:Int) (h:f116 x1 x2=some r):aE Tryz.prog 116 [] [] [] [vL 3 cD (default:Tq2) x1,.str x2] (.int .i64 r) []:=by
 unfold f116 at h;refine aE.body 0 _ _ Tryz.func116 rfl Tryz.ntmps116 rfl rfl ?_;refine aN [] [] ⟨20,[(0,aV x1),(1,.str x2)],[],[],0⟩ trivial ?_;obtain⟨K1,hK1,h⟩:=aR h;refine AWp.join (fun(x:Unit)=>match x with|()=>⟨20,[],[],[],0⟩) (fun x=>K1 x=some r) ?_ ?_
 ·
  refine aN [] [] ⟨20,[(0,aV x1),(1,.str x2),(5,.i (0:Int))],[],[],0⟩ trivial ?_;refine AWp.block ?_;refine AWp.loopL (α:=Nat×Nat) (fun x=>match x with|(_,n3)=>⟨20,[(0,aV x1),(1,.str x2),(5,.i (n3:Int))],[],[],0⟩) (fun x=>dL x1 x2 K1 x.1 x.2=some r) (fun x=>x.1) (bB,0) (LR (s':=⟨20,[(0,aV x1),(1,.str x2),(5,.i (0:Int))],[],[],0⟩)) h ?_
  rintro⟨k0,n3⟩ h
  cases k0 with
  |zero=>exact nomatch (show none=some r from h)
  |succ k0=>
  obtain⟨C0,hC0⟩:∃C,C=dL x1 x2 K1 k0:=⟨_,rfl⟩;replace h:=(dL.eq_2 ..).symm.trans h
  try rw[←hC0]at h
  refine AWp.seq ?_;refine aN [] [] ⟨20,[(0,aV x1),(1,.str x2),(5,.i (n3:Int)),(9,.bool (decide ((n3:Int)<(lZ x1))))],[],[],0⟩ trivial ?_;refine AWp.cond (b:=(decide ((n3:Int)<(lZ x1)))) (by kernel_rfl) (fun hc1=> ?_) (fun hc1=> ?_)
  ·
   replace h:=aF hc1 h;refine AWp.skip (tN (AWp.seq (AWp.block (AWp.seq ?_))));obtain⟨ob0p,h⟩:=aB h;have ob0:0≤(n3:Int)∧(n3:Int)<(((x1).length:Nat):Int):=⟨by omega,ob0p⟩;refine aX [] [] ⟨20,[(0,aV x1),(1,.str x2),(5,.i (n3:Int)),(18,.bool (((x1.getD n3 aP).1)==x2))],[],[],0⟩ (an1 ob0) ?_;refine tN ?_;refine AWp.cond (b:=(((x1.getD n3 aP).1)==x2)) (by kernel_rfl) (fun hc2=> ?_) (fun hc2=> ?_)
   ·
    replace h:=aF hc2 h;refine aN [] [] ⟨20,[(4,.i (n3:Int))],[],[],0⟩ trivial ?_;have hret:=Option.some.inj h;subst hret;refine AWp.ret (kR (tR (tR (kR (aQ ?_)))));exact bR _ rfl ⟨rfl,rfl⟩ rfl
   ·
    replace h:=aG hc2 h;refine AWp.skip (kN (tN ?_));obtain⟨ob1p,h⟩:=aB h;have ob1: -9223372036854775808≤((n3:Int)+(1:Int))∧((n3:Int)+(1:Int))≤9223372036854775807:=⟨by omega,ob1p⟩;refine aX [] [] ⟨20,[(0,aV x1),(1,.str x2),(5,.i (((n3+1):Nat):Int))],[],[],0⟩ (an1 ob1) ?_;rw[hC0]at h;exact lN (_,(n3+1)) LR h (Nat.lt_succ_self _)
  ·
   replace h:=aG hc1 h;refine AWp.exit (tE (tE (kS ?_)));exact jN () LR h
 ·
  rintro⟨⟩ h;replace h:=(congrFun hK1 _).symm.trans h;refine aN [] [] ⟨20,[(4,.i (-1:Int))],[],[],0⟩ trivial ?_;have hret:=Option.some.inj h;subst hret;refine AWp.ret ?_;exact bR _ rfl ⟨rfl,rfl⟩ rfl
def f117 :Nat→Int→Option Ty1
 |0,_=>none
 |k+1,x1=>
  if(decide (x1<(10:Int)))then(
  chk (-9223372036854775808≤((48:Int)+x1)∧((48:Int)+x1)≤9223372036854775807)<|
  chk (0≤((48:Int)+x1)∧((48:Int)+x1)≤255)<|
  some [UInt8.ofNat ((((48:Int)+x1)).toNat)]
  )else(
  ((f117 k) (x1/(10:Int))).bind fun(r2:List UInt8)=>
  chk (0≤x1∧1≤(10:Int)∧ -9223372036854775808≤(x1/(10:Int))∧(x1/(10:Int))≤9223372036854775807)<|
  chk (0≤x1∧1≤(10:Int))<|
  chk (-9223372036854775808≤((48:Int)+(x1%(10:Int)))∧((48:Int)+(x1%(10:Int)))≤9223372036854775807)<|
  chk (0≤((48:Int)+(x1%(10:Int)))∧((48:Int)+(x1%(10:Int)))≤255)<|
  chk (r2.length+[UInt8.ofNat ((((48:Int)+(x1%(10:Int)))).toNat)].length≤9223372036854775807)<|
  some (r2++[UInt8.ofNat ((((48:Int)+(x1%(10:Int)))).toNat)])
  )
theorem zI :∀(k:Nat) (x1:Int) (r:List UInt8),f117 k x1=some r→aE Tryz.prog 117 [] [] [] [.int .i64 x1] (.str r) []:=by
 intro k
 induction k with
 |zero=>intro x1 r h;exact nomatch (show none=some r from h)
 |succ k ih=>
 intro x1 r h;obtain⟨Frec,hFrec⟩:∃C,C=f117 k:=⟨_,rfl⟩;rw[f117.eq_2]at h;rw[←hFrec]at h ih;refine aE.body 0 _ _ Tryz.func117 rfl Tryz.ntmps117 rfl rfl ?_;refine bF [] [] [0] [] trivial ?_;refine AWp.seq ?_;refine bF [] [] [0,4] [] trivial ?_;refine AWp.cond (b:=(decide (x1<(10:Int)))) (by kernel_rfl) (fun hc1=> ?_) (fun hc1=> ?_)
 ·
  replace h:=aF hc1 h;refine AWp.seq ?_;obtain⟨ob0,ob1,h⟩:=ck2 h;have ob2:∀i,i<1→isByte ((dR 1 [.int .u8 ((48:Int)+x1)]) i 0):=fun i hi=>match i,hi with|0,_=>trivial
  refine aX [] [] ⟨20,[(2,.str [UInt8.ofNat ((((48:Int)+x1)).toNat)])],[],[],0⟩ (an3 ob0 ob1 ob2) ?_;refine tN ?_;have hret:=Option.some.inj h;subst hret;refine AWp.ret (tR ?_);exact bR _ rfl ⟨rfl,rfl⟩ rfl
 ·
  replace h:=aG hc1 h;refine AWp.skip (tN (AWp.seq ?_));obtain⟨r2,hr2,h⟩:=bind_ok h;obtain⟨ob3,ob4,ob5,ob6,h⟩:=ck4 h;have ob7:∀i,i<1→isByte ((dR 1 [.int .u8 ((48:Int)+(x1%(10:Int)))]) i 0):=fun i hi=>match i,hi with|0,_=>trivial
  obtain⟨ob8,h⟩:=aB h;refine aX [] [(2,⟨[.i (x1/(10:Int))],[],[],[],.str r2,[],[],[]⟩)] ⟨20,[(2,.str (r2++[UInt8.ofNat ((((48:Int)+(x1%(10:Int)))).toNat)]))],[],[],0⟩ (ac6 ob3 (cpT (ih _ _ hr2)) ob4 ob5 ob6 ob7 (an1 ob8)) ?_;refine tN ?_;have hret:=Option.some.inj h;subst hret;refine AWp.ret ?_;exact bR _ rfl ⟨rfl,rfl⟩ rfl
def fP (x1:List Tq2) (x2 x3:List UInt8) (K1:(Bool×Ty6)→Option Ty6):Nat→(Bool×Nat×Ty6)→Option Ty6
 |0,_=>none
 |k+1,(b4,n5,l6)=>
  if(decide ((n5:Int)<(((x1).length:Nat):Int)))then(
  jn (fun((b7,l8):Bool×Ty6)=>
  chk (((n5:Int)+(1:Int))≤9223372036854775807)<|
  (fP x1 x2 x3 K1 k) (b7,(n5+1),l8)
  ) fun(K2:(Bool×Ty6)→Option Ty6)=>
  chk ((n5:Int)<(((x1).length:Nat):Int))<|
  if(((x1.getD n5 (default:Tq2)).1)==x2)then(
  chk ((n5:Int)<(((x1).length:Nat):Int))<|
  chk (-9223372036854775808≤((x1.getD n5 (default:Tq2)).2.2+(1:Int))∧((x1.getD n5 (default:Tq2)).2.2+(1:Int))≤9223372036854775807)<|
  chk (((l6).length+1) *40≤140737488355328)<|
  K2 (true,(l6++[(x2,x3,(min ((x1.getD n5 (default:Tq2)).2.2+(1:Int)) (1000000000000:Int)))]))
  )else(
  jn (fun((b9,l10):Bool×Ty6)=>
  chk ((n5:Int)<(((x1).length:Nat):Int))<|
  chk (((l10).length+1) *40≤140737488355328)<|
  K2 (b9,(l10++[((x1.getD n5 (default:Tq2)).1,(x1.getD n5 (default:Tq2)).2.1,(x1.getD n5 (default:Tq2)).2.2)]))
  ) fun(K3:(Bool×Ty6)→Option Ty6)=>
  chk ((n5:Int)<(((x1).length:Nat):Int))<|
  if((!((Op.bytesLess ((x1.getD n5 (default:Tq2)).1) x2)||(((x1.getD n5 (default:Tq2)).1)==x2)))&&(!b4))then(
  chk (((l6).length+1) *40≤140737488355328)<|
  K3 (true,(l6++[(x2,x3,(1:Int))]))
  )else(
  K3 (b4,l6)
  )
  )
  )else(
  K1 (b4,l6)
  )
abbrev dB (x1:List Tq2) (n5:Nat):=(x1.getD n5 (default:Tq2))
abbrev f118z1 (x1:List Tq2) (x2 x3:List UInt8) (n5:Nat):List (Nat×V):=[(0,vL 3 cD (default:Tq2) x1),(1,.str x2),(2,.str x3),(7,.own 5007),(8,.bool true),(9,.int .i64 (n5:Int))]
abbrev wO (x1:List Tq2) (n5:Nat) (x2:List UInt8):=(!((Op.bytesLess ((dB x1 n5).1) x2)||(((dB x1 n5).1)==x2)))
abbrev f118z3 (x1:List Tq2) (x2 x3:List UInt8) (b9:Bool) (n5:Nat):List (Nat×V):=[(0,vL 3 cD (default:Tq2) x1),(1,.str x2),(2,.str x3),(7,.own 52),(8,.bool b9),(9,.int .i64 (n5:Int))]
abbrev aAR (x1:List Tq2) (x2 x3:List UInt8) (n5:Nat):List (Nat×V):=[(0,vL 3 cD (default:Tq2) x1),(1,.str x2),(2,.str x3),(7,.own 5007),(9,.int .i64 (n5:Int))]
abbrev aAQ (l6:List Tq2):aK:=[(5007,bL 202 3 cD (default:Tq2) l6)]
abbrev rF :=Tq2
abbrev f118z7 (l6:List Tq2) (x2 x3:List UInt8) (x1:List Tq2) (n5:Nat):aK:=[(5007,bL 202 3 cD (default:Tq2) (l6++[(x2,x3,(min ((dB x1 n5).2.2+(1:Int)) (1000000000000:Int)))]))]
def f118 (x1:List Tq2) (x2 x3:List UInt8):Option Ty6:=
 jn (fun((b11,l12):Bool×Ty6)=>
 jn (fun(l13:List Tq2)=>
 some l13
 ) fun(K4:Ty6→Option Ty6)=>
 if(!b11)then(
 chk (((l12).length+1) *40≤140737488355328)<|
 K4 (l12++[(x2,x3,(1:Int))])
 )else(
 K4 l12
 )
 ) fun(K1:(Bool×Ty6)→Option Ty6)=>
 fP x1 x2 x3 K1 bB (false,0,[])
theorem f118_ok (x1:List Tq2) (x2 x3:List UInt8) (r:List Tq2) (h:f118 x1 x2 x3=some r):aE Tryz.prog 118 [] [] [] [vL 3 cD (default:Tq2) x1,.str x2,.str x3] (.own 3000) [(3000,bL 202 3 cD (default:Tq2) r)]:=by
 unfold f118 at h;refine aE.body 0 _ _ Tryz.func118 rfl Tryz.ntmps118 rfl rfl ?_;refine bF [] [] [0,1,2] [] trivial ?_;refine bF [] [] [0,1,2,7] [] trivial ?_;refine aN [] [] ⟨69,[(0,aV x1),(1,.str x2),(2,.str x3),(7,.nils),(8,.bool false)],[],[],0⟩ trivial ?_;obtain⟨K1,hK1,h⟩:=aR h;refine AWp.join (fun(x:Bool×(List (rF)))=>match x with|(b11,l12)=>⟨69,[(1,.str x2),(2,.str x3),(7,.own 5007),(8,.bool b11)],[(5007,aS l12)],[],0⟩) (fun x=>K1 x=some r) ?_ ?_
 ·
  refine aN [] [] ⟨69,[(0,aV x1),(1,.str x2),(2,.str x3),(7,.nils),(8,.bool false),(9,.i (0:Int))],[],[],0⟩ trivial ?_;refine AWp.block ?_;refine AWp.loopL (α:=Nat×(Bool×Nat×(List (rF)))) (fun x=>match x with|(_,b4,n5,l6)=>⟨69,[(0,aV x1),(1,.str x2),(2,.str x3),(7,.own 5007),(8,.bool b4),(9,.i (n5:Int))],(aAQ l6),[],0⟩) (fun x=>fP x1 x2 x3 K1 x.1 x.2=some r) (fun x=>x.1) (bB,false,0,[]) (Le.trans (Le.trans (Le.nilOwn 7 5007 202 3 (cB cD aP []) rfl rfl (Nat.le_of_ble_eq_true rfl)) (LR (s':=⟨69,[(0,aV x1),(1,.str x2),(2,.str x3),(7,.own 5007),(8,.bool false),(9,.i (0:Int))],[(5007,aS [])],[],0⟩))) (LR (s':=⟨69,[(0,aV x1),(1,.str x2),(2,.str x3),(7,.own 5007),(8,.bool false),(9,.i (0:Int))],[(5007,aS [])],[],0⟩))) h ?_
  rintro⟨k0,b4,n5,l6⟩ h
  cases k0 with
  |zero=>exact nomatch (show none=some r from h)
  |succ k0=>
  obtain⟨C0,hC0⟩:∃C,C=fP x1 x2 x3 K1 k0:=⟨_,rfl⟩;replace h:=(fP.eq_2 ..).symm.trans h
  try rw[←hC0]at h
  refine AWp.seq ?_;refine aN [] [] ⟨69,[(0,aV x1),(1,.str x2),(2,.str x3),(7,.own 5007),(8,.bool b4),(9,.i (n5:Int)),(13,.bool (decide ((n5:Int)<(lZ x1))))],(aAQ l6),[],0⟩ trivial ?_;refine AWp.cond (b:=(decide ((n5:Int)<(lZ x1)))) (by kernel_rfl) (fun hc1=> ?_) (fun hc1=> ?_)
  ·
   replace h:=aF hc1 h;refine AWp.skip (tN ?_);obtain⟨K2,hK2,h⟩:=aR h;refine AWp.join (fun(x:Bool×(List (rF)))=>match x with|(b7,l8)=>⟨69,[(0,aV x1),(1,.str x2),(2,.str x3),(7,.own 35),(8,.bool b7),(9,.i (n5:Int))],[(35,aS l8)],[],0⟩) (fun x=>K2 x=some r) ?_ ?_
   ·
    refine AWp.block (AWp.seq (AWp.seq ?_));obtain⟨ob0p,h⟩:=aB h;have ob0:0≤(n5:Int)∧(n5:Int)<(((x1).length:Nat):Int):=⟨by omega,ob0p⟩;refine aX [] [] ⟨69,[(0,aV x1),(1,.str x2),(2,.str x3),(7,.own 5007),(8,.bool b4),(9,.i (n5:Int)),(22,.bool (((dB x1 n5).1)==x2))],(aAQ l6),[],0⟩ (an1 ob0) ?_;refine tN ?_;refine AWp.cond (b:=(((dB x1 n5).1)==x2)) (by kernel_rfl) (fun hc2=> ?_) (fun hc2=> ?_)
    ·
     replace h:=aF hc2 h;refine AWp.seq ?_;obtain⟨ob1p,h⟩:=aB h;have ob1:0≤(n5:Int)∧(n5:Int)<(((x1).length:Nat):Int):=⟨by omega,ob1p⟩;obtain⟨ob2,ob3,h⟩:=ck2 h;refine aX [] [] ⟨69,(aAR x1 x2 x3 n5),[(5007,.rows 202 3 ((l6).length+1) (gZ (l6).length (cB cD aP l6) (dR 3 [.str x2,.str x3,.i (min ((dB x1 n5).2.2+(1:Int)) (1000000000000:Int))])))],[],0⟩ (an3 ob1 ob2 ob3) ?_;refine tN ?_;refine AWp.le (Le.mk (s':=⟨69,(aAR x1 x2 x3 n5),(f118z7 l6 x2 x3 x1 n5),[],0⟩) rfl rfl ⟨.refl _,.refl _,.refl _,.refl _,.refl _,trivial⟩ ⟨⟨_,rfl,(BLe.of (RL.app (RL.self _) (RL.lst (enc:=cD) [(x2,x3,(min ((dB x1 n5).2.2+(1:Int)) (1000000000000:Int)))] rfl rfl (fun _=>rfl))))⟩,trivial⟩) ?_;refine aN [] [] ⟨69,(f118z1 x1 x2 x3 n5),(f118z7 l6 x2 x3 x1 n5),[],0⟩ trivial ?_;refine AWp.exit (tE (kS ?_));exact jN (true,(l6++[(x2,x3,(min ((dB x1 n5).2.2+(1:Int)) (1000000000000:Int)))])) (Le.trans (Le.trans (Le.ren (aU 5007 35) (aD 5007 35) rfl) (LR (s':=⟨69,[(0,aV x1),(1,.str x2),(2,.str x3),(7,.own 35),(8,.bool true),(9,.i (n5:Int))],[(35,aS (l6++[(x2,x3,(min ((dB x1 n5).2.2+(1:Int)) (1000000000000:Int)))]))],[],0⟩))) LR) h
    ·
     replace h:=aG hc2 h;refine AWp.skip (tN ?_);obtain⟨K3,hK3,h⟩:=aR h;refine AWp.join (fun(x:Bool×(List (rF)))=>match x with|(b9,l10)=>⟨69,(f118z3 x1 x2 x3 b9 n5),[(52,aS l10)],[],0⟩) (fun x=>K3 x=some r) ?_ ?_
     ·
      refine AWp.seq ?_;obtain⟨ob4p,h⟩:=aB h;have ob4:0≤(n5:Int)∧(n5:Int)<(((x1).length:Nat):Int):=⟨by omega,ob4p⟩;have ob5:=idA (((wO x1 n5 x2)==true)=true);have ob6:=bqA (wO x1 n5 x2) true;refine aX [] [] ⟨69,[(0,aV x1),(1,.str x2),(2,.str x3),(7,.own 5007),(8,.bool b4),(9,.i (n5:Int)),(46,.bool ((wO x1 n5 x2)&&(!b4)))],(aAQ l6),[],0⟩ (an3 ob4 (an1 ob5) ob6) ?_;refine tN ?_;refine AWp.cond (b:=((wO x1 n5 x2)&&(!b4))) (by kernel_rfl) (fun hc3=> ?_) (fun hc3=> ?_)
      ·
       replace h:=aF hc3 h;refine AWp.seq ?_;obtain⟨ob7,h⟩:=aB h;refine aX [] [] ⟨69,(aAR x1 x2 x3 n5),[(5007,.rows 202 3 ((l6).length+1) (gZ (l6).length (cB cD aP l6) (dR 3 [.str x2,.str x3,.i (1:Int)])))],[],0⟩ (an1 ob7) ?_;refine tN ?_;refine AWp.le (Le.mk (s':=⟨69,(aAR x1 x2 x3 n5),[(5007,aS (l6++[(x2,x3,(1:Int))]))],[],0⟩) rfl rfl ⟨.refl _,.refl _,.refl _,.refl _,.refl _,trivial⟩ ⟨⟨_,rfl,(BLe.of (RL.app (RL.self _) (RL.lst (enc:=cD) [(x2,x3,(1:Int))] rfl rfl (fun _=>rfl))))⟩,trivial⟩) ?_;refine aX [] [] ⟨69,(f118z1 x1 x2 x3 n5),[(5007,aS (l6++[(x2,x3,(1:Int))]))],[],0⟩ trivial ?_;exact jN (true,(l6++[(x2,x3,(1:Int))])) (Le.trans (Le.trans (Le.ren (aU 5007 52) (aD 5007 52) rfl) (LR (s':=⟨69,[(0,aV x1),(1,.str x2),(2,.str x3),(7,.own 52),(8,.bool true),(9,.i (n5:Int))],[(52,aS (l6++[(x2,x3,(1:Int))]))],[],0⟩))) LR) h
      ·
       replace h:=aG hc3 h;refine AWp.skip ?_;exact jN (b4,l6) (Le.trans (Le.trans (Le.ren (aU 5007 52) (aD 5007 52) rfl) (LR (s':=⟨69,[(0,aV x1),(1,.str x2),(2,.str x3),(7,.own 52),(8,.bool b4),(9,.i (n5:Int)),(46,.bool ((wO x1 n5 x2)&&(!b4)))],[(52,aS l6)],[],0⟩))) LR) h
     ·
      rintro⟨b9,l10⟩ h;replace h:=(congrFun hK3 _).symm.trans h;obtain⟨ob8p,h⟩:=aB h;have ob8:0≤(n5:Int)∧(n5:Int)<(((x1).length:Nat):Int):=⟨by omega,ob8p⟩;obtain⟨ob9,h⟩:=aB h;refine aX [] [] ⟨69,(f118z3 x1 x2 x3 b9 n5),[(52,.rows 202 3 ((l10).length+1) (gZ (l10).length (cB cD aP l10) (dR 3 [.str (dB x1 n5).1,.str (dB x1 n5).2.1,.i (dB x1 n5).2.2])))],[],0⟩ (an2 ob8 ob9) ?_;refine kN ?_;exact jN (b9,(l10++[((dB x1 n5).1,(dB x1 n5).2.1,(dB x1 n5).2.2)])) (Le.trans (Le.mk (s':=⟨69,(f118z3 x1 x2 x3 b9 n5),[(52,aS (l10++[((dB x1 n5).1,(dB x1 n5).2.1,(dB x1 n5).2.2)]))],[],0⟩) rfl rfl ⟨.refl _,.refl _,.refl _,.refl _,.refl _,.refl _,trivial⟩ ⟨⟨_,rfl,(BLe.of (RL.app (RL.self _) (RL.lst (enc:=cD) [((dB x1 n5).1,(dB x1 n5).2.1,(dB x1 n5).2.2)] rfl rfl (fun _=>rfl))))⟩,trivial⟩) (Le.trans (Le.trans (Le.ren (aU 52 35) (aD 52 35) rfl) (LR (s':=⟨69,[(0,aV x1),(1,.str x2),(2,.str x3),(7,.own 35),(8,.bool b9),(9,.i (n5:Int))],[(35,aS (l10++[((dB x1 n5).1,(dB x1 n5).2.1,(dB x1 n5).2.2)]))],[],0⟩))) LR)) h
   ·
    rintro⟨b7,l8⟩ h;replace h:=(congrFun hK2 _).symm.trans h;obtain⟨ob10p,h⟩:=aB h;have ob10: -9223372036854775808≤((n5:Int)+(1:Int))∧((n5:Int)+(1:Int))≤9223372036854775807:=⟨by omega,ob10p⟩;refine aX [] [] ⟨69,[(0,aV x1),(1,.str x2),(2,.str x3),(7,.own 35),(8,.bool b7),(9,.i (((n5+1):Nat):Int))],[(35,aS l8)],[],0⟩ (an1 ob10) ?_;rw[hC0]at h;exact lN (_,b7,(n5+1),l8) (Le.trans (Le.trans (Le.ren (aU 35 5007) (aD 35 5007) rfl) (LR (s':=⟨69,[(0,aV x1),(1,.str x2),(2,.str x3),(7,.own 5007),(8,.bool b7),(9,.i (((n5+1):Nat):Int))],[(5007,aS l8)],[],0⟩))) LR) h (Nat.lt_succ_self _)
  ·
   replace h:=aG hc1 h;refine AWp.exit (tE (tE (kS ?_)));exact jN (b4,l6) LR h
 ·
  rintro⟨b11,l12⟩ h;replace h:=(congrFun hK1 _).symm.trans h;obtain⟨K4,hK4,h⟩:=aR h;refine AWp.join (α:=List (rF)) (fun(l13:List (rF))=>⟨69,[(7,.own 5007)],[(5007,aS l13)],[],0⟩) (fun x=>K4 x=some r) ?_ ?_
  ·
   refine aN [] [] ⟨69,[(1,.str x2),(2,.str x3),(7,.own 5007),(61,.bool (!b11))],[(5007,aS l12)],[],0⟩ trivial ?_;refine AWp.cond (b:=(!b11)) (by kernel_rfl) (fun hc4=> ?_) (fun hc4=> ?_)
   ·
    replace h:=aF hc4 h;obtain⟨ob11,h⟩:=aB h;refine aX [] [] ⟨69,[(7,.own 5007)],[(5007,.rows 202 3 ((l12).length+1) (gZ (l12).length (cB cD aP l12) (dR 3 [.str x2,.str x3,.i (1:Int)])))],[],0⟩ (an1 ob11) ?_;exact jN ((l12++[(x2,x3,(1:Int))])) (Le.trans (Le.mk (s':=⟨69,[(7,.own 5007)],[(5007,aS (l12++[(x2,x3,(1:Int))]))],[],0⟩) rfl rfl ⟨.refl _,trivial⟩ ⟨⟨_,rfl,(BLe.of (RL.app (RL.self _) (RL.lst (enc:=cD) [(x2,x3,(1:Int))] rfl rfl (fun _=>rfl))))⟩,trivial⟩) LR) h
   ·
    replace h:=aG hc4 h;refine AWp.skip ?_;exact jN (l12) LR h
  ·
   rintro l13 h;replace h:=(congrFun hK4 _).symm.trans h;refine aN [] [] ⟨69,[(6,.own 5007)],[(5007,aS l13)],[],0⟩ trivial ?_;refine AWp.le (Le.trans (Le.ren (aU 5007 3000) (aD 5007 3000) rfl) (LR (s':=⟨69,[(6,.own 3000)],[(3000,aS l13)],[],0⟩))) ?_;have hret:=Option.some.inj h;subst hret;refine AWp.le (LR (s':=⟨69,[(6,.own 3000)],[(3000,aS l13)],[],0⟩)) ?_;refine AWp.ret ?_;exact bR _ rfl ⟨rfl,rfl⟩ rfl
abbrev sF (x2:Int) (x3 x4 x5:List UInt8) (x1:List Tq2):aK:=[(3,.cells 164 [.int .i64 x2,.str x3,.str x4,.str x5]),(12,bL 202 3 cD (default:Tq2) ([]++x1))]
abbrev sE (x1:List Tq2):aK:=[(12,bL 202 3 cD (default:Tq2) ([]++x1))]
abbrev gW (x1:List Tq2):aK:=[(3000,bL 202 3 cD (default:Tq2) ([]++x1))]
abbrev f85z3 :=([110,111,110,101]:List UInt8)
abbrev f85z4 (x1:List Tq2) (r7:Int) (x5:List UInt8):List (Nat×V):=[(0,vL 3 cD (default:Tq2) x1),(3,.ptr 3 0),(6,.own 12),(9,.int .i64 r7),(10,.str x5)]
abbrev yG (r7:Int):=(decide (r7<(0:Int)))
abbrev aBs :List (Nat×V):=[(4,.own 3000),(5,.str (f85z3))]
abbrev f85z7 :List (Nat×V):=[(4,.own 12),(5,.str (f85z3))]
abbrev f85z8 (r12:List Tq2):aK:=[(6001,bL 202 3 cD (default:Tq2) r12)]
abbrev f85z9 :List (Nat×V):=[(4,.own 63),(5,.str ([111,107]:List UInt8))]
abbrev f85z10 :=([108,111,110,103]:List UInt8)
abbrev f85z11 :=([102,117,108,108]:List UInt8)
def f85 (x1:List Tq2) (x2:Int) (x3 x4 x5:List UInt8):Option (List UInt8×Ty6):=
 chk ((0+(x1).length) *40≤140737488355328)<|
 (f115 x2 x3 x4 x5).bind fun(r6:List UInt8×Int)=>
 if(r6.2 !=(0:Int))then(
 some (cs3,([]++x1))
 )else(
 (f116 x1 x3).bind fun(r7:Int)=>
 jn (fun(s10:List UInt8)=>
 if((decide (r7<(0:Int)))&&(decide ((((x1).length:Nat):Int)≥(64:Int))))then(
 some (([102,117,108,108]:List UInt8),([]++x1))
 )else(
 (f118 x1 x3 s10).bind fun(r12:List Tq2)=>
 (f116 r12 x3).bind fun(r13:Int)=>
 (f117 bB ((r12.getD ((r13).toNat) (default:Tq2)).2.2)).bind fun(r14:List UInt8)=>
 chk (0≤r13∧r13<(((r12).length:Nat):Int))<|
 chk (((r13).toNat)<(r12).length)<|
 chk (([111,107,32]:List UInt8).length+r14.length≤9223372036854775807)<|
 some ((([111,107,32]:List UInt8)++r14),r12)
 )
 ) fun(K1:Ty1→Option (List UInt8×Ty6))=>
 if(x2==(6:Int))then(
 (f117 bB (((x1).length:Nat):Int)).bind fun(r8:List UInt8)=>
 chk (cs9.length+r8.length≤9223372036854775807)<|
 some ((cs9++r8),([]++x1))
 )else(
 if(x2==(2:Int))then(
 if(decide (r7<(0:Int)))then(
 some (([110,111,110,101]:List UInt8),([]++x1))
 )else(
 (f117 bB ((x1.getD ((r7).toNat) (default:Tq2)).2.2)).bind fun(r9:List UInt8)=>
 chk (0≤r7∧r7<(((x1).length:Nat):Int))<|
 chk (qG.length+((x1.getD ((r7).toNat) (default:Tq2)).2.1).length≤9223372036854775807)<|
 chk ((qG++((x1.getD ((r7).toNat) (default:Tq2)).2.1)).length+([32]:List UInt8).length≤9223372036854775807)<|
 chk (0≤r7∧r7<(((x1).length:Nat):Int))<|
 chk (((qG++((x1.getD ((r7).toNat) (default:Tq2)).2.1))++([32]:List UInt8)).length+r9.length≤9223372036854775807)<|
 some ((((qG++((x1.getD ((r7).toNat) (default:Tq2)).2.1))++([32]:List UInt8))++r9),([]++x1))
 )
 )else(
 if(x2==(3:Int))then(
 if(decide (r7<(0:Int)))then(
 some (([110,111,110,101]:List UInt8),([]++x1))
 )else(
 chk (0≤r7∧r7≤(((x1).length:Nat):Int))<|
 chk ((0+((r7).toNat)) *40≤140737488355328)<|
 chk (-9223372036854775808≤(r7+(1:Int))∧(r7+(1:Int))≤9223372036854775807)<|
 chk (0≤(r7+(1:Int))∧(r7+(1:Int))≤(((x1).length:Nat):Int))<|
 chk (((0+((r7).toNat))+((x1).length-((r7+(1:Int))).toNat)) *40≤140737488355328)<|
 some (([111,107]:List UInt8),(([]++(x1.take ((r7).toNat)))++(x1.drop (((r7+(1:Int))).toNat))))
 )
 )else(
 if(x2==(5:Int))then(
 if(decide (r7<(0:Int)))then(
 some (([110,111,110,101]:List UInt8),([]++x1))
 )else(
 chk (0≤r7∧r7<(((x1).length:Nat):Int))<|
 if(!(((x1.getD ((r7).toNat) (default:Tq2)).2.1)==x4))then(
 chk (0≤r7∧r7<(((x1).length:Nat):Int))<|
 chk (([110,111,32]:List UInt8).length+((x1.getD ((r7).toNat) (default:Tq2)).2.1).length≤9223372036854775807)<|
 some ((([110,111,32]:List UInt8)++((x1.getD ((r7).toNat) (default:Tq2)).2.1)),([]++x1))
 )else(
 K1 x5
 )
 )
 )else(
 if(x2==(4:Int))then(
 jn (fun(s11:List UInt8)=>
 if(decide (((s11.length:Nat):Int)>(256:Int)))then(
 some (([108,111,110,103]:List UInt8),([]++x1))
 )else(
 K1 s11
 )
 ) fun(K2:Ty1→Option (List UInt8×Ty6))=>
 if(decide (r7≥(0:Int)))then(
 chk (0≤r7∧r7<(((x1).length:Nat):Int))<|
 chk (((x1.getD ((r7).toNat) (default:Tq2)).2.1).length+x5.length≤9223372036854775807)<|
 K2 (((x1.getD ((r7).toNat) (default:Tq2)).2.1)++x5)
 )else(
 K2 x5
 )
 )else(
 K1 x5
 )
 )
 )
 )
 )
 )
theorem f85_ok (x1:List Tq2) (x2:Int) (x3 x4 x5:List UInt8) (r:List UInt8×Ty6) (h:f85 x1 x2 x3 x4 x5=some r):aE Tryz.prog 85 [] [] [] [vL 3 cD (default:Tq2) x1,.agg [.int .i64 x2,.str x3,.str x4,.str x5]] (.tup [.own 3000,.str r.1]) [(3000,bL 202 3 cD (default:Tq2) r.2)]:=by
 unfold f85 at h;refine aE.body 0 _ _ Tryz.func85 rfl Tryz.ntmps85 rfl rfl ?_;refine bF [] [] [0,3] [3] trivial ?_;refine AWp.seq ?_;obtain⟨ob0,h⟩:=aB h;refine aX [] [] ⟨133,[(0,aV x1),(3,.ptr 3 0),(6,.own 12)],[(3,.cells 164 [.i x2,.str x3,.str x4,.str x5]),(12,.rows 202 3 (0+(x1).length) (gZ 0 (dR 3 []) (cB cD aP x1)))],[],0⟩ (an1 ob0) ?_;refine tN ?_;refine AWp.le (Le.mk (s':=⟨133,[(0,aV x1),(3,.ptr 3 0),(6,.own 12)],(sF x2 x3 x4 x5 x1),[],0⟩) rfl rfl ⟨.refl _,.refl _,.refl _,trivial⟩ ⟨⟨_,rfl,.refl _⟩,⟨_,rfl,(BLe.of (RL.app (RL.lst (enc:=cD) [] rfl rfl (fun _=>rfl)) (RL.self _)))⟩,trivial⟩) ?_;refine AWp.seq (AWp.seq ?_);obtain⟨r6,hr6,h⟩:=bind_ok h;refine bS [] [(1,⟨[.agg [.i x2,.str x3,.str x4,.str x5]],[],[],[],.tup [.str r6.1,.i r6.2],[],[],[]⟩)] [0,3,6,8] [3,12] (an1 (cpT (f115_ok _ _ _ _ _ hr6))) ?_;refine tN ?_;refine bF [] [] [0,3,6,21] [3,12] trivial ?_;refine AWp.cond (b:=(r6.2 !=(0:Int))) (by kernel_rfl) (fun hc1=> ?_) (fun hc1=> ?_)
 ·
  replace h:=aF hc1 h;refine aN [] [] ⟨133,[(4,.own 12),(5,.str cs3)],(sE x1),[],0⟩ trivial ?_;refine AWp.le (Le.trans (Le.ren (aU 12 3000) (aD 12 3000) rfl) (LR (s':=⟨133,[(4,.own 3000),(5,.str cs3)],(gW x1),[],0⟩))) ?_;have hret:=Option.some.inj h;subst hret;refine AWp.le (LR (s':=⟨133,[(4,.own 3000),(5,.str cs3)],(gW x1),[],0⟩)) ?_;refine AWp.ret (tR ?_);exact bR _ rfl ⟨rfl,rfl⟩ rfl
 ·
  replace h:=aG hc1 h;refine AWp.skip (tN (AWp.seq ?_));obtain⟨r7,hr7,h⟩:=bind_ok h;refine bS [] [(3,⟨[aV x1,.str x3],[],[],[],.i r7,[],[],[]⟩)] [0,3,6,9] [3,12] (an1 (cpT (f116_ok _ _ _ hr7))) ?_;refine tN ?_;refine aN [] [] ⟨133,(f85z4 x1 r7 x5),(sF x2 x3 x4 x5 x1),[],0⟩ trivial ?_;obtain⟨K1,hK1,h⟩:=aR h;refine AWp.join (α:=List UInt8) (fun(s10:List UInt8)=>⟨133,[(0,aV x1),(3,.ptr 3 0),(6,.own 12),(9,.i r7),(10,.str s10)],(sF x2 x3 x4 x5 x1),[],0⟩) (fun x=>K1 x=some r) ?_ ?_
  ·
   refine bF [] [] [0,3,6,9,10,30] [3,12] trivial ?_;refine AWp.block ?_;refine bF [] [] [0,3,6,9,10,30,31] [3,12] trivial ?_;refine AWp.cond (b:=(x2==(6:Int))) (by kernel_rfl) (fun hc2=> ?_) (fun hc2=> ?_)
   ·
    replace h:=aF hc2 h;refine AWp.seq ?_;obtain⟨r8,hr8,h⟩:=bind_ok h;obtain⟨ob1,h⟩:=aB h;refine aX [] [(3,⟨[.i (lZ x1)],[],[],[],.str r8,[],[],[]⟩)] ⟨133,[(4,.own 12),(5,.str (cs9++r8))],(sE x1),[],0⟩ (an2 (cpT (zI bB _ _ hr8)) ob1) ?_;refine tN ?_;refine AWp.le (Le.trans (Le.ren (aU 12 3000) (aD 12 3000) rfl) (LR (s':=⟨133,[(4,.own 3000),(5,.str (cs9++r8))],(gW x1),[],0⟩))) ?_;have hret:=Option.some.inj h;subst hret;refine AWp.le (LR (s':=⟨133,[(4,.own 3000),(5,.str (cs9++r8))],(gW x1),[],0⟩)) ?_;refine AWp.ret (kR (aQ ?_));exact bR _ rfl ⟨rfl,rfl⟩ rfl
   ·
    replace h:=aG hc2 h;refine bF [] [] [0,3,6,9,10,30,38] [3,12] trivial ?_;refine AWp.cond (b:=(x2==(2:Int))) (by kernel_rfl) (fun hc3=> ?_) (fun hc3=> ?_)
    ·
     replace h:=aF hc3 h;refine AWp.seq ?_;refine bF [] [] [0,6,9,41] [12] trivial ?_;refine AWp.cond (b:=(yG r7)) (by kernel_rfl) (fun hc4=> ?_) (fun hc4=> ?_)
     ·
      replace h:=aF hc4 h;refine aN [] [] ⟨133,(f85z7),(sE x1),[],0⟩ trivial ?_;refine AWp.le (Le.trans (Le.ren (aU 12 3000) (aD 12 3000) rfl) (LR (s':=⟨133,(aBs),(gW x1),[],0⟩))) ?_;have hret:=Option.some.inj h;subst hret;refine AWp.le (LR (s':=⟨133,(aBs),(gW x1),[],0⟩)) ?_;refine AWp.ret (tR (kR (aQ ?_)));exact bR _ rfl ⟨rfl,rfl⟩ rfl
     ·
      replace h:=aG hc4 h;refine AWp.skip (tN (AWp.seq ?_));obtain⟨r9,hr9,h⟩:=bind_ok h;obtain⟨ob2,ob3,ob4,ob5,ob6,h⟩:=ck5 h;refine aX [] [(13,⟨[.i (x1.getD ((r7).toNat) aP).2.2],[],[],[],.str r9,[],[],[]⟩)] ⟨133,[(4,.own 12),(5,.str (((qG++((x1.getD ((r7).toNat) aP).2.1))++([32]:List UInt8))++r9))],(sE x1),[],0⟩ (an6 ob2 ob3 ob4 ob5 (cpT (zI bB _ _ hr9)) ob6) ?_;refine tN ?_;refine AWp.le (Le.trans (Le.ren (aU 12 3000) (aD 12 3000) rfl) (LR (s':=⟨133,[(4,.own 3000),(5,.str (((qG++((x1.getD ((r7).toNat) aP).2.1))++([32]:List UInt8))++r9))],(gW x1),[],0⟩))) ?_;have hret:=Option.some.inj h;subst hret;refine AWp.le (LR (s':=⟨133,[(4,.own 3000),(5,.str (((qG++((x1.getD ((r7).toNat) aP).2.1))++([32]:List UInt8))++r9))],(gW x1),[],0⟩)) ?_;refine AWp.ret (kR (aQ ?_));exact bR _ rfl ⟨rfl,rfl⟩ rfl
    ·
     replace h:=aG hc3 h;refine bF [] [] [0,3,6,9,10,30,58] [3,12] trivial ?_;refine AWp.cond (b:=(x2==(3:Int))) (by kernel_rfl) (fun hc5=> ?_) (fun hc5=> ?_)
     ·
      replace h:=aF hc5 h;refine AWp.seq ?_;refine bF [] [] [0,6,9,61] [12] trivial ?_;refine AWp.cond (b:=(yG r7)) (by kernel_rfl) (fun hc6=> ?_) (fun hc6=> ?_)
      ·
       replace h:=aF hc6 h;refine aN [] [] ⟨133,(f85z7),(sE x1),[],0⟩ trivial ?_;refine AWp.le (Le.trans (Le.ren (aU 12 3000) (aD 12 3000) rfl) (LR (s':=⟨133,(aBs),(gW x1),[],0⟩))) ?_;have hret:=Option.some.inj h;subst hret;refine AWp.le (LR (s':=⟨133,(aBs),(gW x1),[],0⟩)) ?_;refine AWp.ret (tR (kR (aQ ?_)));exact bR _ rfl ⟨rfl,rfl⟩ rfl
      ·
       replace h:=aG hc6 h;refine AWp.skip (tN (AWp.seq ?_));obtain⟨ob7,ob8,ob9,ob10,ob11,h⟩:=ck5 h;refine aX [] [] ⟨133,(f85z9),[(63,.rows 202 3 ((0+((r7).toNat))+((x1).length-((r7+(1:Int))).toNat)) (gZ (0+((r7).toNat)) (gZ 0 (dR 3 []) (cB cD aP x1)) (fun i j=>(cB cD aP x1) (i+(((r7+(1:Int))).toNat)) j)))],[],0⟩ (an5 ob7 ob8 ob9 ob10 ob11) ?_;refine tN ?_;refine AWp.le (Le.mk (s':=⟨133,(f85z9),[(63,aS (([]++(x1.take ((r7).toNat)))++(x1.drop (((r7+(1:Int))).toNat))))],[],0⟩) rfl rfl ⟨.refl _,.refl _,trivial⟩ ⟨⟨_,rfl,(BLe.of (RL.app (RL.app (RL.lst (enc:=cD) [] rfl rfl (fun _=>rfl)) (RL.takeL (by first|omega|(simp only[List.length_append,List.length_cons,List.length_nil,List.length_take,List.length_drop]at *;omega)|(simp;done)|(simp_all;done)|(simp_all;omega)|rfl))) RL.dropL))⟩,trivial⟩) ?_;refine AWp.le (Le.trans (Le.ren (aU 63 3000) (aD 63 3000) rfl) (LR (s':=⟨133,[(4,.own 3000),(5,.str ([111,107]:List UInt8))],[(3000,aS (([]++(x1.take ((r7).toNat)))++(x1.drop (((r7+(1:Int))).toNat))))],[],0⟩))) ?_;have hret:=Option.some.inj h;subst hret;refine AWp.le (LR (s':=⟨133,[(4,.own 3000),(5,.str ([111,107]:List UInt8))],[(3000,aS (([]++(x1.take ((r7).toNat)))++(x1.drop (((r7+(1:Int))).toNat))))],[],0⟩)) ?_;refine AWp.ret (kR (aQ ?_));exact bR _ rfl ⟨rfl,rfl⟩ rfl
     ·
      replace h:=aG hc5 h;refine bF [] [] [0,3,6,9,10,30,73] [3,12] trivial ?_;refine AWp.cond (b:=(x2==(5:Int))) (by kernel_rfl) (fun hc7=> ?_) (fun hc7=> ?_)
      ·
       replace h:=aF hc7 h;refine AWp.seq ?_;refine bF [] [] [0,3,6,9,10,76] [3,12] trivial ?_;refine AWp.cond (b:=(yG r7)) (by kernel_rfl) (fun hc8=> ?_) (fun hc8=> ?_)
       ·
        replace h:=aF hc8 h;refine aN [] [] ⟨133,(f85z7),(sE x1),[],0⟩ trivial ?_;refine AWp.le (Le.trans (Le.ren (aU 12 3000) (aD 12 3000) rfl) (LR (s':=⟨133,(aBs),(gW x1),[],0⟩))) ?_;have hret:=Option.some.inj h;subst hret;refine AWp.le (LR (s':=⟨133,(aBs),(gW x1),[],0⟩)) ?_;refine AWp.ret (tR (kR (aQ ?_)));exact bR _ rfl ⟨rfl,rfl⟩ rfl
       ·
        replace h:=aG hc8 h;refine AWp.skip (tN (AWp.seq ?_));obtain⟨ob12,h⟩:=aB h;refine aX [] [] ⟨133,[(0,aV x1),(3,.ptr 3 0),(6,.own 12),(9,.i r7),(10,.str x5),(85,.bool (!(((x1.getD ((r7).toNat) aP).2.1)==x4)))],(sF x2 x3 x4 x5 x1),[],0⟩ (an1 ob12) ?_;refine tN ?_;refine AWp.cond (b:=(!(((x1.getD ((r7).toNat) aP).2.1)==x4))) (by kernel_rfl) (fun hc9=> ?_) (fun hc9=> ?_)
        ·
         replace h:=aF hc9 h;refine AWp.seq ?_;obtain⟨ob13,ob14,h⟩:=ck2 h;refine aX [] [] ⟨133,[(4,.own 12),(5,.str (([110,111,32]:List UInt8)++((x1.getD ((r7).toNat) aP).2.1)))],(sE x1),[],0⟩ (an2 ob13 ob14) ?_;refine tN ?_;refine AWp.le (Le.trans (Le.ren (aU 12 3000) (aD 12 3000) rfl) (LR (s':=⟨133,[(4,.own 3000),(5,.str (([110,111,32]:List UInt8)++((x1.getD ((r7).toNat) aP).2.1)))],(gW x1),[],0⟩))) ?_;have hret:=Option.some.inj h;subst hret;refine AWp.le (LR (s':=⟨133,[(4,.own 3000),(5,.str (([110,111,32]:List UInt8)++((x1.getD ((r7).toNat) aP).2.1)))],(gW x1),[],0⟩)) ?_;refine AWp.ret (kR (aQ ?_));exact bR _ rfl ⟨rfl,rfl⟩ rfl
        ·
         replace h:=aG hc9 h;refine AWp.skip (kN ?_);exact jN (x5) LR h
      ·
       replace h:=aG hc7 h;refine aN [] [] ⟨133,[(0,aV x1),(3,.ptr 3 0),(6,.own 12),(9,.i r7),(10,.str x5),(93,.bool (x2==(4:Int)))],(sF x2 x3 x4 x5 x1),[],0⟩ trivial ?_;refine AWp.cond (b:=(x2==(4:Int))) (by kernel_rfl) (fun hc10=> ?_) (fun hc10=> ?_)
       ·
        replace h:=aF hc10 h;obtain⟨K2,hK2,h⟩:=aR h;refine AWp.join (α:=List UInt8) (fun(s11:List UInt8)=>⟨133,[(0,aV x1),(3,.ptr 3 0),(6,.own 12),(9,.i r7),(10,.str s11)],(sF x2 x3 x4 x5 x1),[],0⟩) (fun x=>K2 x=some r) ?_ ?_
        ·
         refine aN [] [] ⟨133,[(0,aV x1),(3,.ptr 3 0),(6,.own 12),(9,.i r7),(10,.str x5),(96,.bool (decide (r7≥(0:Int))))],(sF x2 x3 x4 x5 x1),[],0⟩ trivial ?_;refine AWp.cond (b:=(decide (r7≥(0:Int)))) (by kernel_rfl) (fun hc11=> ?_) (fun hc11=> ?_)
         ·
          replace h:=aF hc11 h;obtain⟨ob15,ob16,h⟩:=ck2 h;refine aX [] [] ⟨133,[(0,aV x1),(3,.ptr 3 0),(6,.own 12),(9,.i r7),(10,.str (((x1.getD ((r7).toNat) aP).2.1)++x5))],(sF x2 x3 x4 x5 x1),[],0⟩ (an2 ob15 ob16) ?_;exact jN ((((x1.getD ((r7).toNat) aP).2.1)++x5)) LR h
         ·
          replace h:=aG hc11 h;refine AWp.skip ?_;exact jN (x5) LR h
        ·
         rintro s11 h;replace h:=(congrFun hK2 _).symm.trans h;refine aN [] [] ⟨133,[(0,aV x1),(3,.ptr 3 0),(6,.own 12),(9,.i r7),(10,.str s11),(107,.bool (decide ((lZ s11)>(256:Int))))],(sF x2 x3 x4 x5 x1),[],0⟩ trivial ?_;refine AWp.cond (b:=(decide ((lZ s11)>(256:Int)))) (by kernel_rfl) (fun hc12=> ?_) (fun hc12=> ?_)
         ·
          replace h:=aF hc12 h;refine aN [] [] ⟨133,[(4,.own 12),(5,.str (f85z10))],(sE x1),[],0⟩ trivial ?_;refine AWp.le (Le.trans (Le.ren (aU 12 3000) (aD 12 3000) rfl) (LR (s':=⟨133,[(4,.own 3000),(5,.str (f85z10))],(gW x1),[],0⟩))) ?_;have hret:=Option.some.inj h;subst hret;refine AWp.le (LR (s':=⟨133,[(4,.own 3000),(5,.str (f85z10))],(gW x1),[],0⟩)) ?_;refine AWp.ret (kR (aQ ?_));exact bR _ rfl ⟨rfl,rfl⟩ rfl
         ·
          replace h:=aG hc12 h;refine AWp.skip (kN ?_);exact jN (s11) LR h
       ·
        replace h:=aG hc10 h;refine AWp.skip (kN ?_);exact jN (x5) LR h
  ·
   rintro s10 h;replace h:=(congrFun hK1 _).symm.trans h;refine AWp.seq (AWp.seq ?_);have ob17:=idA (((yG r7)==true)=true);have ob18:=idA (((yG r7)==true)=true);have ob19:=bqA (yG r7) true;refine bS [] [] [0,3,6,10,115] [3,12] (an3 (an1 ob17) (an1 ob18) ob19) ?_;refine tN ?_;refine AWp.cond (b:=((yG r7)&&(decide ((lZ x1)≥(64:Int))))) (by kernel_rfl) (fun hc13=> ?_) (fun hc13=> ?_)
   ·
    replace h:=aF hc13 h;refine aN [] [] ⟨133,[(4,.own 12),(5,.str (f85z11))],(sE x1),[],0⟩ trivial ?_;refine AWp.le (Le.trans (Le.ren (aU 12 3000) (aD 12 3000) rfl) (LR (s':=⟨133,[(4,.own 3000),(5,.str (f85z11))],(gW x1),[],0⟩))) ?_;have hret:=Option.some.inj h;subst hret;refine AWp.le (LR (s':=⟨133,[(4,.own 3000),(5,.str (f85z11))],(gW x1),[],0⟩)) ?_;refine AWp.ret (tR ?_);exact bR _ rfl ⟨rfl,rfl⟩ rfl
   ·
    replace h:=aG hc13 h;refine AWp.skip (tN (AWp.seq ?_));obtain⟨r12,hr12,h⟩:=bind_ok h;refine bS [] [(4,⟨[aV x1,.str x3,.str s10],[],[],(f85z8 r12),.own 6001,[6001],[],[]⟩)] [3,11] [3,6001] (an1 (cpT (aE.ren (aU 3000 6001) (aD 3000 6001) rfl (f118_ok _ _ _ _ hr12)))) ?_;refine tN (AWp.seq ?_);obtain⟨r13,hr13,h⟩:=bind_ok h;obtain⟨r14,hr14,h⟩:=bind_ok h;obtain⟨ob20,ob21,ob22,h⟩:=ck3 h;refine aX [] [(5,⟨[aV r12,.str x3],[],[],[],.i r13,[],[6001],[]⟩),(9,⟨[.i (r12.getD ((r13).toNat) aP).2.2],[],[],[],.str r14,[],[],[]⟩)] ⟨133,[(4,.own 6001),(5,.str (([111,107,32]:List UInt8)++r14))],(f85z8 r12),[],0⟩ (an5 (cpL (c:=true) (f85z8 r12) [6001] [.own 6001,.str x3] (fun _=>(f116_ok _ _ _ hr13)) (fun _=>⟨.refl _,.refl _,trivial⟩) (.inr ⟨rfl,trivial⟩)) ob20 ob21 (cpT (zI bB _ _ hr14)) ob22) ?_;refine tN ?_;refine AWp.le (Le.trans (Le.ren (aU 6001 3000) (aD 6001 3000) rfl) (LR (s':=⟨133,[(4,.own 3000),(5,.str (([111,107,32]:List UInt8)++r14))],[(3000,aS r12)],[],0⟩))) ?_;have hret:=Option.some.inj h;subst hret;refine AWp.le (LR (s':=⟨133,[(4,.own 3000),(5,.str (([111,107,32]:List UInt8)++r14))],[(3000,aS r12)],[],0⟩)) ?_;refine AWp.ret ?_;exact bR _ rfl ⟨rfl,rfl⟩ rfl
def kY (x2:List Tq0) (x3:Int) (K2:Ty4→Option aBP):Nat→(Nat×Ty4)→Option aBP
 |0,_=>none
 |k+1,(n12,l13)=>
  if(decide ((n12:Int)<(((x2).length:Nat):Int)))then(
  jn (fun(l14:List Tq0)=>
  chk (((n12:Int)+(1:Int))≤9223372036854775807)<|
  (kY x2 x3 K2 k) ((n12+1),l14)
  ) fun(K3:Ty4→Option aBP)=>
  chk ((n12:Int)<(((x2).length:Nat):Int))<|
  if(decide ((x2.getD n12 (default:Tq0)).1<x3))then(
  chk ((n12:Int)<(((x2).length:Nat):Int))<|
  chk (((l13).length+1) *32≤140737488355328)<|
  K3 (l13++[((x2.getD n12 (default:Tq0)).1,(x2.getD n12 (default:Tq0)).2.1,(x2.getD n12 (default:Tq0)).2.2)])
  )else(
  K3 l13
  )
  )else(
  K2 l13
  )
def kX (x2:List Tq0) (x3:Int) (K4:Ty4→Option aBP):Nat→(Nat×Ty4)→Option aBP
 |0,_=>none
 |k+1,(n16,l17)=>
  if(decide ((n16:Int)<(((x2).length:Nat):Int)))then(
  jn (fun(l18:List Tq0)=>
  chk (((n16:Int)+(1:Int))≤9223372036854775807)<|
  (kX x2 x3 K4 k) ((n16+1),l18)
  ) fun(K5:Ty4→Option aBP)=>
  chk ((n16:Int)<(((x2).length:Nat):Int))<|
  if(decide ((x2.getD n16 (default:Tq0)).1>x3))then(
  chk ((n16:Int)<(((x2).length:Nat):Int))<|
  chk (((l17).length+1) *32≤140737488355328)<|
  K5 (l17++[((x2.getD n16 (default:Tq0)).1,(x2.getD n16 (default:Tq0)).2.1,(x2.getD n16 (default:Tq0)).2.2)])
  )else(
  K5 l17
  )
  )else(
  K4 l17
  )
abbrev eG (x1:List Tq2) (x2:List Tq0):List V:=[vL 3 cD (default:Tq2) x1,vL 3 bU (default:Tq0) x2]
abbrev kD (l11:List Tq2):List V:=[vL 3 cD (default:Tq2) l11,.own 6301]
abbrev fA (x3 x4:Int) (x5:List UInt8):List V:=[.int .i64 x3,.int .i64 x4,.str x5]
abbrev iL (x2:List Tq0) (n12:Nat):=(x2.getD n12 (default:Tq0))
abbrev f62z4 (s10:List UInt8) (n12:Nat):List (Nat×V):=[(2,.ptr 2 0),(3,.ptr 3 0),(4,.ptr 4 0),(8,.ptr 8 0),(9,.str s10),(12,.int .i64 (n12:Int))]
abbrev kW (x2:List Tq0) (n16:Nat):=(x2.getD n16 (default:Tq0))
abbrev f62z6 (s10:List UInt8) (n16:Nat):List (Nat×V):=[(2,.ptr 2 0),(3,.ptr 3 0),(4,.ptr 4 0),(8,.ptr 8 0),(9,.str s10),(13,.int .i64 (n16:Int))]
abbrev f62z7 (x1:List Tq2) (x2:List Tq0) (x3 x4:Int) (x5:List UInt8) (l11:List Tq2) (l13:List Tq0):aK:=[(2,.cells 92 (eG x1 x2)),(3,.cells 88 (fA x3 x4 x5)),(4,.cells 92 [.nils,.nils]),(8,.cells 92 (kD l11)),(6301,bL 160 3 bU (default:Tq0) l13)]
abbrev f62z8 (l11:List Tq2):List V:=[vL 3 cD (default:Tq2) l11,.own 90]
abbrev f62z9 (s10:List UInt8) (n12:Nat):List (Nat×V):=[(2,.ptr 2 0),(3,.ptr 3 0),(4,.ptr 4 0),(8,.ptr 8 0),(9,.str s10),(12,.int .i64 (((n12+1):Nat):Int))]
abbrev f62z10 (s10:List UInt8):List (Nat×V):=[(2,.ptr 2 0),(3,.ptr 3 0),(4,.ptr 4 0),(8,.ptr 8 0),(9,.str s10),(12,.int .i64 (0:Int))]
abbrev f62z11 (x1:List Tq2) (x2:List Tq0) (x3 x4:Int) (x5:List UInt8) (l11:List Tq2) (l17:List Tq0):aK:=[(2,.cells 92 (eG x1 x2)),(3,.cells 88 (fA x3 x4 x5)),(4,.cells 92 [.nils,.nils]),(8,.cells 92 (kD l11)),(6301,bL 160 3 bU (default:Tq0) l17)]
abbrev aAw (s10:List UInt8):List (Nat×V):=[(2,.ptr 2 0),(3,.ptr 3 0),(4,.ptr 4 0),(8,.ptr 8 0),(9,.str s10)]
abbrev f62z13 (s10:List UInt8) (n12:Nat) (x2:List Tq0) (x3:Int):List (Nat×V):=[(2,.ptr 2 0),(3,.ptr 3 0),(4,.ptr 4 0),(8,.ptr 8 0),(9,.str s10),(12,.int .i64 (n12:Int)),(81,.bool (decide ((iL x2 n12).1<x3)))]
abbrev jP :=Tq0
abbrev f62z16 (r9:List UInt8×Ty6):List (Nat×V):=[(2,.ptr 2 0),(3,.ptr 3 0),(4,.ptr 4 0),(8,.ptr 8 0),(9,.str r9.1)]
abbrev f62z17 (x1:List Tq2) (x2:List Tq0) (x3 x4:Int) (x5:List UInt8) (l11:List Tq2):aK:=[(2,.cells 92 (eG x1 x2)),(3,.cells 88 (fA x3 x4 x5)),(4,.cells 92 [.nils,.nils]),(8,.cells 92 [vL 3 cD (default:Tq2) l11,.nils])]
abbrev aAv (r8:Tq8):List V:=[.int .i64 r8.1,.str r8.2.1,.str r8.2.2.1,.str r8.2.2.2.1]
abbrev f62z20 (x1:List Tq2) (x2:List Tq0) (x3 x4:Int) (x5:List UInt8) (l11:List Tq2) (l15:List Tq0) (s10:List UInt8):aK:=[(2,.cells 92 (eG x1 x2)),(3,.cells 88 (fA x3 x4 x5)),(4,.cells 92 [.nils,.nils]),(8,.cells 92 (kD l11)),(6301,bL 160 3 bU (default:Tq0) (l15++[(x3,x4,s10)]))]
abbrev f62z21 (x1:List Tq2) (x2:List Tq0) (x3 x4:Int) (x5:List UInt8) (l11:List Tq2) (l18:List Tq0):aK:=[(2,.cells 92 (eG x1 x2)),(3,.cells 88 (fA x3 x4 x5)),(4,.cells 92 [.nils,.nils]),(8,.cells 92 (kD l11)),(6301,bL 160 3 bU (default:Tq0) l18)]
def f62 (x1:List Tq2) (x2:List Tq0) (x3 x4:Int) (x5:List UInt8):Option aBP:=
 (f64 (1:Int) (0:Int) [(x3,x4,x5)]).bind fun(r6:Int)=>
 if(r6 !=(0:Int))then(
 some (x1,x2,cs3)
 )else(
 (f83 x1 x2 x3).bind fun(r7:Int×Int×List UInt8×Bool)=>
 if(r7.2.2.2&&(decide (r7.2.1>x4)))then(
 some (x1,x2,cs4)
 )else(
 if(r7.2.2.2&&(r7.2.1==x4))then(
 some (x1,x2,r7.2.2.1)
 )else(
 (f84 x5).bind fun(r8:Tq8)=>
 jn (fun((s10,l11):List UInt8×Ty6)=>
 jn (fun(l15:List Tq0)=>
 chk (((l15).length+1) *32≤140737488355328)<|
 jn (fun(l19:List Tq0)=>
 some (l11,l19,s10)
 ) fun(K4:Ty4→Option aBP)=>
 kX x2 x3 K4 bB (0,(l15++[(x3,x4,s10)]))
 ) fun(K2:Ty4→Option aBP)=>
 kY x2 x3 K2 bB (0,[])
 ) fun(K1:(List UInt8×Ty6)→Option aBP)=>
 if(r8.2.2.2.2==(0:Int))then(
 (f85 x1 r8.1 r8.2.1 r8.2.2.1 r8.2.2.2.1).bind fun(r9:List UInt8×Ty6)=>
 K1 (r9.1,r9.2)
 )else(
 K1 (cs5,x1)
 )
 )
 )
 )
theorem f62_ok (x1:List Tq2) (x2:List Tq0) (x3 x4:Int) (x5:List UInt8) (r:Ty6×Ty4×List UInt8) (h:f62 x1 x2 x3 x4 x5=some r):aE Tryz.prog 62 [] [] [] [.agg [vL 3 cD (default:Tq2) x1,vL 3 bU (default:Tq0) x2],.agg [.int .i64 x3,.int .i64 x4,.str x5]] (.tup [.agg [vL 3 cD (default:Tq2) r.1,vL 3 bU (default:Tq0) r.2.1],.str r.2.2]) []:=by
 unfold f62 at h;refine aE.bodyD [4] 0 _ _ Tryz.func62 rfl Tryz.ntmps62 rfl rfl ?_;refine bF [] [] [2,3,4] [2,3,4] trivial ?_;refine AWp.seq (AWp.seq ?_);obtain⟨r6,hr6,h⟩:=bind_ok h;refine bS [] [(3,⟨[.agg [.i (1:Int),.i (0:Int),aT [(x3,x4,x5)]]],[],[],[],.i r6,[],[15],[]⟩)] [2,3,4,18] [2,3,4] (an1 (cpL (c:=true) [(15,.rows 88 3 1 (dR 3 (fA x3 x4 x5)))] [15] [.agg [.i (1:Int),.i (0:Int),.own 15]] (fun _=>(f64_ok _ _ _ _ hr6)) (fun _=>⟨(.aggs ⟨.refl _,.refl _,(VLe.of (RL.lst (enc:=bU) [(x3,x4,x5)] rfl rfl (fun _=>rfl))),trivial⟩),trivial⟩) (.inr ⟨rfl,trivial⟩))) ?_;refine tN ?_;refine AWp.cond (b:=(r6 !=(0:Int))) (by kernel_rfl) (fun hc1=> ?_) (fun hc1=> ?_)
 ·
  replace h:=aF hc1 h;refine aN [] [] ⟨131,[(4,.ptr 4 0),(5,.str cs3)],[(4,.cells 92 (eG x1 x2))],[],0⟩ (an1 trivial) ?_;have hret:=Option.some.inj h;subst hret;refine AWp.ret (tR ?_);exact bR _ rfl ⟨rfl,rfl⟩ rfl
 ·
  replace h:=aG hc1 h;refine AWp.skip (tN (AWp.seq ?_));obtain⟨r7,hr7,h⟩:=bind_ok h;refine bS [] [(3,⟨[.agg (eG x1 x2),.i x3],[],[],[],.tup [.agg [.i r7.1,.i r7.2.1,.str r7.2.2.1],.bool r7.2.2.2],[],[],[]⟩)] [2,3,4,6,7] [2,3,4,6] (an2 (cpT (f83_ok _ _ _ _ hr7)) trivial) ?_;refine tN (AWp.seq (AWp.seq ?_));have ob0:=idA ((r7.2.2.2==true)=true);have ob1:=idA ((r7.2.2.2==true)=true);have ob2:=idA ((r7.2.2.2==true)=true);have ob3:=idA ((r7.2.2.2==true)=true);have ob4:=bqA (r7.2.2.2) true;refine bS [] [] [2,3,4,6,7,34] [2,3,4,6] (an4 (an1 ob0) (an1 ob1) (an2 ob2 ob3) ob4) ?_;refine tN ?_;refine AWp.cond (b:=(r7.2.2.2&&(decide (r7.2.1>x4)))) (by kernel_rfl) (fun hc2=> ?_) (fun hc2=> ?_)
  ·
   replace h:=aF hc2 h;refine aN [] [] ⟨131,[(4,.ptr 4 0),(5,.str cs4)],[(4,.cells 92 (eG x1 x2))],[],0⟩ (an1 trivial) ?_;have hret:=Option.some.inj h;subst hret;refine AWp.ret (tR ?_);exact bR _ rfl ⟨rfl,rfl⟩ rfl
  ·
   replace h:=aG hc2 h;refine AWp.skip (tN (AWp.seq (AWp.seq ?_)));have ob5:=idA ((r7.2.2.2==true)=true);have ob6:=idA ((r7.2.2.2==true)=true);have ob7:=idA ((r7.2.2.2==true)=true);have ob8:=idA ((r7.2.2.2==true)=true);have ob9:=bqA (r7.2.2.2) true;refine bS [] [] [2,3,4,6,43] [2,3,4,6] (an4 (an1 ob5) (an1 ob6) (an2 ob7 ob8) ob9) ?_;refine tN ?_;refine AWp.cond (b:=(r7.2.2.2&&(r7.2.1==x4))) (by kernel_rfl) (fun hc3=> ?_) (fun hc3=> ?_)
   ·
    replace h:=aF hc3 h;refine aN [] [] ⟨131,[(4,.ptr 4 0),(5,.str r7.2.2.1)],[(4,.cells 92 (eG x1 x2))],[],0⟩ (an1 trivial) ?_;have hret:=Option.some.inj h;subst hret;refine AWp.ret (tR ?_);exact bR _ rfl ⟨rfl,rfl⟩ rfl
   ·
    replace h:=aG hc3 h;refine AWp.skip (tN ?_);refine bF [] [] [2,3,4,8] [2,3,4,8] (an1 trivial) ?_;refine bF [] [] [2,3,4,8,9] [2,3,4,8] trivial ?_;refine AWp.seq ?_;obtain⟨r8,hr8,h⟩:=bind_ok h;refine aX [] [(2,⟨[.str x5],[],[],[],.tup [.agg (aAv r8),.i r8.2.2.2.2],[],[],[]⟩)] ⟨131,[(2,.ptr 2 0),(3,.ptr 3 0),(4,.ptr 4 0),(8,.ptr 8 0),(9,.str cs5),(10,.ptr 10 0),(11,.i r8.2.2.2.2)],[(2,.cells 92 (eG x1 x2)),(3,.cells 88 (fA x3 x4 x5)),(4,.cells 92 [.nils,.nils]),(8,.cells 92 [aV x1,.nils]),(10,.cells 164 (aAv r8))],[],0⟩ (an2 (cpT (f84_ok _ _ hr8)) trivial) ?_;refine tN ?_;obtain⟨K1,hK1,h⟩:=aR h;refine AWp.join (fun(x:List UInt8×Ty6)=>match x with|(s10,l11)=>⟨131,(aAw s10),(f62z17 x1 x2 x3 x4 x5 l11),[],0⟩) (fun x=>K1 x=some r) ?_ ?_
    ·
     refine aN [] [] ⟨131,[(2,.ptr 2 0),(3,.ptr 3 0),(4,.ptr 4 0),(8,.ptr 8 0),(9,.str cs5),(10,.ptr 10 0),(57,.bool (r8.2.2.2.2==(0:Int)))],[(2,.cells 92 (eG x1 x2)),(3,.cells 88 (fA x3 x4 x5)),(4,.cells 92 [.nils,.nils]),(8,.cells 92 [aV x1,.nils]),(10,.cells 164 (aAv r8))],[],0⟩ trivial ?_;refine AWp.cond (b:=(r8.2.2.2.2==(0:Int))) (by kernel_rfl) (fun hc4=> ?_) (fun hc4=> ?_)
     ·
      replace h:=aF hc4 h;obtain⟨r9,hr9,h⟩:=bind_ok h;refine aX [] [(3,⟨[aV x1,.agg (aAv r8)],[],[],[(6001,aS r9.2)],.tup [.own 6001,.str r9.1],[6001],[],[]⟩)] ⟨131,(f62z16 r9),[(2,.cells 92 (eG x1 x2)),(3,.cells 88 (fA x3 x4 x5)),(4,.cells 92 [.nils,.nils]),(8,.cells 92 [.own 6001,.nils]),(6001,aS r9.2)],[],0⟩ (an2 (cpT (aE.ren (aU 3000 6001) (aD 3000 6001) rfl (f85_ok _ _ _ _ _ _ hr9))) trivial) ?_;exact jN (r9.1,r9.2) (Le.trans (Le.trans (Le.freeze 6001 rfl rfl) (LR (s':=⟨131,(f62z16 r9),[(2,.cells 92 (eG x1 x2)),(3,.cells 88 (fA x3 x4 x5)),(4,.cells 92 [.nils,.nils]),(8,.cells 92 [aV r9.2,.nils])],[],0⟩))) LR) h
     ·
      replace h:=aG hc4 h;refine AWp.skip ?_;exact jN (cs5,x1) LR h
    ·
     rintro⟨s10,l11⟩ h;replace h:=(congrFun hK1 _).symm.trans h;obtain⟨K2,hK2,h⟩:=aR h;refine AWp.join (α:=List (jP)) (fun(l15:List (jP))=>⟨131,(aAw s10),[(2,.cells 92 (eG x1 x2)),(3,.cells 88 (fA x3 x4 x5)),(4,.cells 92 [.nils,.nils]),(8,.cells 92 (kD l11)),(6301,bC l15)],[],0⟩) (fun x=>K2 x=some r) ?_ ?_
     ·
      refine aN [] [] ⟨131,(f62z10 s10),(f62z17 x1 x2 x3 x4 x5 l11),[],0⟩ trivial ?_;refine AWp.block ?_;refine AWp.loopL (α:=Nat×(Nat×(List (jP)))) (fun x=>match x with|(_,n12,l13)=>⟨131,(f62z4 s10 n12),(f62z7 x1 x2 x3 x4 x5 l11 l13),[],0⟩) (fun x=>kY x2 x3 K2 x.1 x.2=some r) (fun x=>x.1) (bB,0,[]) (Le.trans (Le.trans (Le.nilOwnC 8 1 6301 160 3 (cB bU bA []) rfl rfl rfl) (LR (s':=⟨131,(f62z10 s10),[(2,.cells 92 (eG x1 x2)),(3,.cells 88 (fA x3 x4 x5)),(4,.cells 92 [.nils,.nils]),(8,.cells 92 (kD l11)),(6301,bC [])],[],0⟩))) (LR (s':=⟨131,(f62z10 s10),[(2,.cells 92 (eG x1 x2)),(3,.cells 88 (fA x3 x4 x5)),(4,.cells 92 [.nils,.nils]),(8,.cells 92 (kD l11)),(6301,bC [])],[],0⟩))) h ?_
      rintro⟨k0,n12,l13⟩ h
      cases k0 with
      |zero=>exact nomatch (show none=some r from h)
      |succ k0=>
      obtain⟨C0,hC0⟩:∃C,C=kY x2 x3 K2 k0:=⟨_,rfl⟩;replace h:=(kY.eq_2 ..).symm.trans h
      try rw[←hC0]at h
      refine AWp.seq ?_;refine aN [] [] ⟨131,[(2,.ptr 2 0),(3,.ptr 3 0),(4,.ptr 4 0),(8,.ptr 8 0),(9,.str s10),(12,.i (n12:Int)),(70,.bool (decide ((n12:Int)<(lZ x2))))],(f62z7 x1 x2 x3 x4 x5 l11 l13),[],0⟩ trivial ?_;refine AWp.cond (b:=(decide ((n12:Int)<(lZ x2)))) (by kernel_rfl) (fun hc5=> ?_) (fun hc5=> ?_)
      ·
       replace h:=aF hc5 h;refine AWp.skip (tN ?_);obtain⟨K3,hK3,h⟩:=aR h;refine AWp.join (α:=List (jP)) (fun(l14:List (jP))=>⟨131,(f62z4 s10 n12),[(2,.cells 92 (eG x1 x2)),(3,.cells 88 (fA x3 x4 x5)),(4,.cells 92 [.nils,.nils]),(8,.cells 92 (f62z8 l11)),(90,bC l14)],[],0⟩) (fun x=>K3 x=some r) ?_ ?_
       ·
        refine AWp.block (AWp.seq ?_);obtain⟨ob10p,h⟩:=aB h;have ob10:0≤(n12:Int)∧(n12:Int)<(((x2).length:Nat):Int):=⟨by omega,ob10p⟩;refine aX [] [] ⟨131,(f62z13 s10 n12 x2 x3),(f62z7 x1 x2 x3 x4 x5 l11 l13),[],0⟩ (an1 ob10) ?_;refine tN ?_;refine AWp.cond (b:=(decide ((iL x2 n12).1<x3))) (by kernel_rfl) (fun hc6=> ?_) (fun hc6=> ?_)
        ·
         replace h:=aF hc6 h;obtain⟨ob11p,h⟩:=aB h;have ob11:0≤(n12:Int)∧(n12:Int)<(((x2).length:Nat):Int):=⟨by omega,ob11p⟩;obtain⟨ob12,h⟩:=aB h;refine aX [] [] ⟨131,(f62z4 s10 n12),[(2,.cells 92 (eG x1 x2)),(3,.cells 88 (fA x3 x4 x5)),(4,.cells 92 [.nils,.nils]),(8,.cells 92 (kD l11)),(6301,.rows 160 3 ((l13).length+1) (gZ (l13).length (cB bU bA l13) (dR 3 [.i (iL x2 n12).1,.i (iL x2 n12).2.1,.str (iL x2 n12).2.2])))],[],0⟩ (an3 ob11 ob12 trivial) ?_;refine kN ?_;exact jN ((l13++[((iL x2 n12).1,(iL x2 n12).2.1,(iL x2 n12).2.2)])) (Le.trans (Le.mk (s':=⟨131,(f62z4 s10 n12),[(2,.cells 92 (eG x1 x2)),(3,.cells 88 (fA x3 x4 x5)),(4,.cells 92 [.nils,.nils]),(8,.cells 92 (kD l11)),(6301,bC (l13++[((iL x2 n12).1,(iL x2 n12).2.1,(iL x2 n12).2.2)]))],[],0⟩) rfl rfl ⟨.refl _,.refl _,.refl _,.refl _,.refl _,.refl _,trivial⟩ ⟨⟨_,rfl,.refl _⟩,⟨_,rfl,.refl _⟩,⟨_,rfl,.refl _⟩,⟨_,rfl,.refl _⟩,⟨_,rfl,(BLe.of (RL.app (RL.self _) (RL.lst (enc:=bU) [((iL x2 n12).1,(iL x2 n12).2.1,(iL x2 n12).2.2)] rfl rfl (fun _=>rfl))))⟩,trivial⟩) (Le.trans (Le.trans (Le.ren (aU 6301 90) (aD 6301 90) rfl) (LR (s':=⟨131,(f62z4 s10 n12),[(2,.cells 92 (eG x1 x2)),(3,.cells 88 (fA x3 x4 x5)),(4,.cells 92 [.nils,.nils]),(8,.cells 92 (f62z8 l11)),(90,bC (l13++[((iL x2 n12).1,(iL x2 n12).2.1,(iL x2 n12).2.2)]))],[],0⟩))) LR)) h
        ·
         replace h:=aG hc6 h;refine AWp.skip (kN ?_);exact jN (l13) (Le.trans (Le.trans (Le.ren (aU 6301 90) (aD 6301 90) rfl) (LR (s':=⟨131,(f62z13 s10 n12 x2 x3),[(2,.cells 92 (eG x1 x2)),(3,.cells 88 (fA x3 x4 x5)),(4,.cells 92 [.nils,.nils]),(8,.cells 92 (f62z8 l11)),(90,bC l13)],[],0⟩))) LR) h
       ·
        rintro l14 h;replace h:=(congrFun hK3 _).symm.trans h;obtain⟨ob13p,h⟩:=aB h;have ob13: -9223372036854775808≤((n12:Int)+(1:Int))∧((n12:Int)+(1:Int))≤9223372036854775807:=⟨by omega,ob13p⟩;refine aX [] [] ⟨131,(f62z9 s10 n12),[(2,.cells 92 (eG x1 x2)),(3,.cells 88 (fA x3 x4 x5)),(4,.cells 92 [.nils,.nils]),(8,.cells 92 (f62z8 l11)),(90,bC l14)],[],0⟩ (an1 ob13) ?_;rw[hC0]at h;exact lN (_,(n12+1),l14) (Le.trans (Le.trans (Le.ren (aU 90 6301) (aD 90 6301) rfl) (LR (s':=⟨131,(f62z9 s10 n12),[(2,.cells 92 (eG x1 x2)),(3,.cells 88 (fA x3 x4 x5)),(4,.cells 92 [.nils,.nils]),(8,.cells 92 (kD l11)),(6301,bC l14)],[],0⟩))) LR) h (Nat.lt_succ_self _)
      ·
       replace h:=aG hc5 h;refine AWp.exit (tE (tE (kS ?_)));exact jN (l13) LR h
     ·
      rintro l15 h;replace h:=(congrFun hK2 _).symm.trans h;refine AWp.seq ?_;obtain⟨ob14,h⟩:=aB h;refine aX [] [] ⟨131,(aAw s10),[(2,.cells 92 (eG x1 x2)),(3,.cells 88 (fA x3 x4 x5)),(4,.cells 92 [.nils,.nils]),(8,.cells 92 (kD l11)),(6301,.rows 160 3 ((l15).length+1) (gZ (l15).length (cB bU bA l15) (dR 3 [.i x3,.i x4,.str s10])))],[],0⟩ (an2 ob14 trivial) ?_;refine tN ?_;refine AWp.le (Le.mk (s':=⟨131,(aAw s10),(f62z20 x1 x2 x3 x4 x5 l11 l15 s10),[],0⟩) rfl rfl ⟨.refl _,.refl _,.refl _,.refl _,.refl _,trivial⟩ ⟨⟨_,rfl,.refl _⟩,⟨_,rfl,.refl _⟩,⟨_,rfl,.refl _⟩,⟨_,rfl,.refl _⟩,⟨_,rfl,(BLe.of (RL.app (RL.self _) (RL.lst (enc:=bU) [(x3,x4,s10)] rfl rfl (fun _=>rfl))))⟩,trivial⟩) ?_;obtain⟨K4,hK4,h⟩:=aR h;refine AWp.join (α:=List (jP)) (fun(l19:List (jP))=>⟨131,[(4,.ptr 4 0),(8,.ptr 8 0),(9,.str s10)],[(4,.cells 92 [.nils,.nils]),(8,.cells 92 (kD l11)),(6301,bC l19)],[],0⟩) (fun x=>K4 x=some r) ?_ ?_
      ·
       refine aN [] [] ⟨131,[(2,.ptr 2 0),(3,.ptr 3 0),(4,.ptr 4 0),(8,.ptr 8 0),(9,.str s10),(13,.i (0:Int))],(f62z20 x1 x2 x3 x4 x5 l11 l15 s10),[],0⟩ trivial ?_;refine AWp.block ?_;refine AWp.loopL (α:=Nat×(Nat×(List (jP)))) (fun x=>match x with|(_,n16,l17)=>⟨131,(f62z6 s10 n16),(f62z11 x1 x2 x3 x4 x5 l11 l17),[],0⟩) (fun x=>kX x2 x3 K4 x.1 x.2=some r) (fun x=>x.1) (bB,0,(l15++[(x3,x4,s10)])) (LR (s':=⟨131,[(2,.ptr 2 0),(3,.ptr 3 0),(4,.ptr 4 0),(8,.ptr 8 0),(9,.str s10),(13,.i (0:Int))],(f62z20 x1 x2 x3 x4 x5 l11 l15 s10),[],0⟩)) h ?_
       rintro⟨k1,n16,l17⟩ h
       cases k1 with
       |zero=>exact nomatch (show none=some r from h)
       |succ k1=>
       obtain⟨C1,hC1⟩:∃C,C=kX x2 x3 K4 k1:=⟨_,rfl⟩;replace h:=(kX.eq_2 ..).symm.trans h
       try rw[←hC1]at h
       refine AWp.seq ?_;refine aN [] [] ⟨131,[(2,.ptr 2 0),(3,.ptr 3 0),(4,.ptr 4 0),(8,.ptr 8 0),(9,.str s10),(13,.i (n16:Int)),(107,.bool (decide ((n16:Int)<(lZ x2))))],(f62z11 x1 x2 x3 x4 x5 l11 l17),[],0⟩ trivial ?_;refine AWp.cond (b:=(decide ((n16:Int)<(lZ x2)))) (by kernel_rfl) (fun hc7=> ?_) (fun hc7=> ?_)
       ·
        replace h:=aF hc7 h;refine AWp.skip (tN ?_);obtain⟨K5,hK5,h⟩:=aR h;refine AWp.join (α:=List (jP)) (fun(l18:List (jP))=>⟨131,(f62z6 s10 n16),(f62z21 x1 x2 x3 x4 x5 l11 l18),[],0⟩) (fun x=>K5 x=some r) ?_ ?_
        ·
         refine AWp.block (AWp.seq ?_);obtain⟨ob15p,h⟩:=aB h;have ob15:0≤(n16:Int)∧(n16:Int)<(((x2).length:Nat):Int):=⟨by omega,ob15p⟩;refine aX [] [] ⟨131,[(2,.ptr 2 0),(3,.ptr 3 0),(4,.ptr 4 0),(8,.ptr 8 0),(9,.str s10),(13,.i (n16:Int)),(118,.bool (decide ((kW x2 n16).1>x3)))],(f62z11 x1 x2 x3 x4 x5 l11 l17),[],0⟩ (an1 ob15) ?_;refine tN ?_;refine AWp.cond (b:=(decide ((kW x2 n16).1>x3))) (by kernel_rfl) (fun hc8=> ?_) (fun hc8=> ?_)
         ·
          replace h:=aF hc8 h;obtain⟨ob16p,h⟩:=aB h;have ob16:0≤(n16:Int)∧(n16:Int)<(((x2).length:Nat):Int):=⟨by omega,ob16p⟩;obtain⟨ob17,h⟩:=aB h;refine aX [] [] ⟨131,(f62z6 s10 n16),[(2,.cells 92 (eG x1 x2)),(3,.cells 88 (fA x3 x4 x5)),(4,.cells 92 [.nils,.nils]),(8,.cells 92 (kD l11)),(6301,.rows 160 3 ((l17).length+1) (gZ (l17).length (cB bU bA l17) (dR 3 [.i (kW x2 n16).1,.i (kW x2 n16).2.1,.str (kW x2 n16).2.2])))],[],0⟩ (an3 ob16 ob17 trivial) ?_;refine kN ?_;exact jN ((l17++[((kW x2 n16).1,(kW x2 n16).2.1,(kW x2 n16).2.2)])) (Le.trans (Le.mk (s':=⟨131,(f62z6 s10 n16),[(2,.cells 92 (eG x1 x2)),(3,.cells 88 (fA x3 x4 x5)),(4,.cells 92 [.nils,.nils]),(8,.cells 92 (kD l11)),(6301,bC (l17++[((kW x2 n16).1,(kW x2 n16).2.1,(kW x2 n16).2.2)]))],[],0⟩) rfl rfl ⟨.refl _,.refl _,.refl _,.refl _,.refl _,.refl _,trivial⟩ ⟨⟨_,rfl,.refl _⟩,⟨_,rfl,.refl _⟩,⟨_,rfl,.refl _⟩,⟨_,rfl,.refl _⟩,⟨_,rfl,(BLe.of (RL.app (RL.self _) (RL.lst (enc:=bU) [((kW x2 n16).1,(kW x2 n16).2.1,(kW x2 n16).2.2)] rfl rfl (fun _=>rfl))))⟩,trivial⟩) LR) h
         ·
          replace h:=aG hc8 h;refine AWp.skip (kN ?_);exact jN (l17) LR h
        ·
         rintro l18 h;replace h:=(congrFun hK5 _).symm.trans h;obtain⟨ob18p,h⟩:=aB h;have ob18: -9223372036854775808≤((n16:Int)+(1:Int))∧((n16:Int)+(1:Int))≤9223372036854775807:=⟨by omega,ob18p⟩;refine aX [] [] ⟨131,[(2,.ptr 2 0),(3,.ptr 3 0),(4,.ptr 4 0),(8,.ptr 8 0),(9,.str s10),(13,.i (((n16+1):Nat):Int))],(f62z21 x1 x2 x3 x4 x5 l11 l18),[],0⟩ (an1 ob18) ?_;rw[hC1]at h;exact lN (_,(n16+1),l18) LR h (Nat.lt_succ_self _)
       ·
        replace h:=aG hc7 h;refine AWp.exit (tE (tE (kS ?_)));exact jN (l17) LR h
      ·
       rintro l19 h;replace h:=(congrFun hK4 _).symm.trans h;refine aN [] [] ⟨131,[(4,.ptr 4 0),(5,.str s10)],[(4,.cells 92 (kD l11)),(6301,bC l19)],[],0⟩ (an1 trivial) ?_;refine AWp.le (Le.trans (Le.freeze 6301 rfl rfl) (LR (s':=⟨131,[(4,.ptr 4 0),(5,.str s10)],[(4,.cells 92 [aV l11,aT l19])],[],0⟩))) ?_;have hret:=Option.some.inj h;subst hret;refine AWp.le (LR (s':=⟨131,[(4,.ptr 4 0),(5,.str s10)],[(4,.cells 92 [aV l11,aT l19])],[],0⟩)) ?_;refine AWp.ret ?_;exact bR _ rfl ⟨rfl,rfl⟩ rfl
def mV (r4:Int×Int×Ty4×Int) (K1:(Ty6×Ty4×Ty4)→Option (Ty6×Ty4×Ty4)):Nat→(Nat×Ty6×Ty4×Ty4)→Option (Ty6×Ty4×Ty4)
 |0,_=>none
 |k+1,(n5,l6,l7,l8)=>
  if(decide ((n5:Int)<(((r4.2.2.1).length:Nat):Int)))then(
  chk ((n5:Int)<(((r4.2.2.1).length:Nat):Int))<|
  (f62 l6 l7 ((r4.2.2.1.getD n5 (default:Tq0)).1) ((r4.2.2.1.getD n5 (default:Tq0)).2.1) ((r4.2.2.1.getD n5 (default:Tq0)).2.2)).bind fun(r9:Ty6×Ty4×List UInt8)=>
  chk (((l8).length+1) *32≤140737488355328)<|
  chk (((n5:Int)+(1:Int))≤9223372036854775807)<|
  (mV r4 K1 k) ((n5+1),r9.1,r9.2.1,(l8++[((r4.2.2.1.getD n5 (default:Tq0)).1,(r4.2.2.1.getD n5 (default:Tq0)).2.1,r9.2.2)]))
  )else(
  K1 (l6,l7,l8)
  )
abbrev vZ (r4:Int×Int×Ty4×Int):List V:=[.int .i64 r4.1,.int .i64 r4.2.1,vL 3 bU (default:Tq0) r4.2.2.1]
abbrev aBA (x1:List Tq2) (x2:List Tq0):List V:=[vL 3 cD (default:Tq2) x1,vL 3 bU (default:Tq0) x2]
abbrev pF (r4:Int×Int×Ty4×Int) (n5:Nat):=(r4.2.2.1.getD n5 (default:Tq0))
abbrev f37z3 (r9:Ty6×Ty4×List UInt8):List V:=[vL 3 cD (default:Tq2) r9.1,vL 3 bU (default:Tq0) r9.2.1]
abbrev f37z4 (l6:List Tq2) (l7:List Tq0):List V:=[vL 3 cD (default:Tq2) l6,vL 3 bU (default:Tq0) l7]
abbrev f37z5 (l10:List Tq2) (l11:List Tq0):List V:=[vL 3 cD (default:Tq2) l10,vL 3 bU (default:Tq0) l11]
abbrev f37z6 (n5:Nat):List (Nat×V):=[(2,.ptr 2 0),(4,.ptr 4 0),(6,.ptr 6 0),(8,.own 5008),(9,.int .i64 (n5:Int))]
abbrev f37z7 (r9:Ty6×Ty4×List UInt8) (r4:Int×Int×Ty4×Int) (l8:List Tq0) (n5:Nat):aK:=[(2,.cells 92 (f37z3 r9)),(4,.cells 92 [.nils,.nils]),(6,.cells 100 (vZ r4)),(5008,bL 98 3 bU (default:Tq0) (l8++[((pF r4 n5).1,(pF r4 n5).2.1,r9.2.2)]))]
abbrev f37z8 (x1:List Tq2) (x2:List Tq0) (r4:Int×Int×Ty4×Int):aK:=[(2,.cells 92 (aBA x1 x2)),(4,.cells 92 [.nils,.nils]),(6,.cells 100 (vZ r4))]
abbrev f37z9 (r4:Int×Int×Ty4×Int) (n5:Nat):List V:=[.int .i64 (pF r4 n5).1,.int .i64 (pF r4 n5).2.1,.str (pF r4 n5).2.2]
abbrev aAF :=Ty4
def f37 (x1:List Tq2) (x2:List Tq0) (x3:List UInt8):Option (Ty6×Ty4×Ty4):=
 (f61 x3).bind fun(r4:Int×Int×Ty4×Int)=>
 if(r4.2.2.2 !=(0:Int))then(
 some (x1,x2,[])
 )else(
 jn (fun((l10,l11,l12):Ty6×Ty4×Ty4)=>
 some (l10,l11,l12)
 ) fun(K1:(Ty6×Ty4×Ty4)→Option (Ty6×Ty4×Ty4))=>
 mV r4 K1 bB (0,x1,x2,[])
 )
theorem f37_ok (x1:List Tq2) (x2:List Tq0) (x3:List UInt8) (r:Ty6×Ty4×Ty4) (h:f37 x1 x2 x3=some r):aE Tryz.prog 37 [] [] [] [.agg [vL 3 cD (default:Tq2) x1,vL 3 bU (default:Tq0) x2],.str x3] (.tup [.agg [vL 3 cD (default:Tq2) r.1,vL 3 bU (default:Tq0) r.2.1],.own 3000]) [(3000,bL 98 3 bU (default:Tq0) r.2.2)]:=by
 unfold f37 at h;refine aE.bodyD [4] 0 _ _ Tryz.func37 rfl Tryz.ntmps37 rfl rfl ?_;refine bF [] [] [1,2,4] [2,4] trivial ?_;refine AWp.seq ?_;obtain⟨r4,hr4,h⟩:=bind_ok h;refine bS [] [(1,⟨[.str x3],[],[],[],.tup [.agg (vZ r4),.i r4.2.2.2],[],[],[]⟩)] [2,4,6,7] [2,4,6] (an2 (cpT (f61_ok _ _ hr4)) trivial) ?_;refine tN (AWp.seq ?_);refine bF [] [] [2,4,6,19] [2,4,6] trivial ?_;refine AWp.cond (b:=(r4.2.2.2 !=(0:Int))) (by kernel_rfl) (fun hc1=> ?_) (fun hc1=> ?_)
 ·
  replace h:=aF hc1 h;refine aN [] [] ⟨51,[(4,.ptr 4 0),(5,.nils)],[(4,.cells 92 (aBA x1 x2))],[],0⟩ (an1 trivial) ?_;refine AWp.le (Le.trans (Le.nilOwn 5 3000 98 3 (cB bU bA []) rfl rfl (Nat.le_of_ble_eq_true rfl)) (LR (s':=⟨51,[(4,.ptr 4 0),(5,.own 3000)],[(4,.cells 92 (aBA x1 x2)),(3000,bQ [])],[],0⟩))) ?_;have hret:=Option.some.inj h;subst hret;refine AWp.le (LR (s':=⟨51,[(4,.ptr 4 0),(5,.own 3000)],[(3000,bQ []),(4,.cells 92 (aBA x1 x2))],[],0⟩)) ?_;refine AWp.ret (tR ?_);exact bR _ rfl ⟨rfl,rfl⟩ rfl
 ·
  replace h:=aG hc1 h;refine AWp.skip (tN ?_);refine aN [] [] ⟨51,[(2,.ptr 2 0),(4,.ptr 4 0),(6,.ptr 6 0),(8,.nils)],(f37z8 x1 x2 r4),[],0⟩ trivial ?_;obtain⟨K1,hK1,h⟩:=aR h;refine AWp.join (fun(x:Ty6×(aAF)×(aAF))=>match x with|(l10,l11,l12)=>⟨51,[(2,.ptr 2 0),(4,.ptr 4 0),(8,.own 5008)],[(2,.cells 92 (f37z5 l10 l11)),(4,.cells 92 [.nils,.nils]),(5008,bQ l12)],[],0⟩) (fun x=>K1 x=some r) ?_ ?_
  ·
   refine aN [] [] ⟨51,[(2,.ptr 2 0),(4,.ptr 4 0),(6,.ptr 6 0),(8,.nils),(9,.i (0:Int))],(f37z8 x1 x2 r4),[],0⟩ trivial ?_;refine AWp.block ?_;refine AWp.loopL (α:=Nat×(Nat×Ty6×(aAF)×(aAF))) (fun x=>match x with|(_,n5,l6,l7,l8)=>⟨51,(f37z6 n5),[(2,.cells 92 (f37z4 l6 l7)),(4,.cells 92 [.nils,.nils]),(6,.cells 100 (vZ r4)),(5008,bQ l8)],[],0⟩) (fun x=>mV r4 K1 x.1 x.2=some r) (fun x=>x.1) (bB,0,x1,x2,[]) (Le.trans (Le.trans (Le.nilOwn 8 5008 98 3 (cB bU bA []) rfl rfl (Nat.le_of_ble_eq_true rfl)) (LR (s':=⟨51,[(2,.ptr 2 0),(4,.ptr 4 0),(6,.ptr 6 0),(8,.own 5008),(9,.i (0:Int))],[(2,.cells 92 (aBA x1 x2)),(4,.cells 92 [.nils,.nils]),(6,.cells 100 (vZ r4)),(5008,bQ [])],[],0⟩))) (LR (s':=⟨51,[(2,.ptr 2 0),(4,.ptr 4 0),(6,.ptr 6 0),(8,.own 5008),(9,.i (0:Int))],[(2,.cells 92 (aBA x1 x2)),(4,.cells 92 [.nils,.nils]),(6,.cells 100 (vZ r4)),(5008,bQ [])],[],0⟩))) h ?_
   rintro⟨k0,n5,l6,l7,l8⟩ h
   cases k0 with
   |zero=>exact nomatch (show none=some r from h)
   |succ k0=>
   obtain⟨C0,hC0⟩:∃C,C=mV r4 K1 k0:=⟨_,rfl⟩;replace h:=(mV.eq_2 ..).symm.trans h
   try rw[←hC0]at h
   refine AWp.seq ?_;refine aN [] [] ⟨51,[(2,.ptr 2 0),(4,.ptr 4 0),(6,.ptr 6 0),(8,.own 5008),(9,.i (n5:Int)),(25,.bool (decide ((n5:Int)<(lZ r4.2.2.1))))],[(2,.cells 92 (f37z4 l6 l7)),(4,.cells 92 [.nils,.nils]),(6,.cells 100 (vZ r4)),(5008,bQ l8)],[],0⟩ trivial ?_;refine AWp.cond (b:=(decide ((n5:Int)<(lZ r4.2.2.1)))) (by kernel_rfl) (fun hc2=> ?_) (fun hc2=> ?_)
   ·
    replace h:=aF hc2 h;refine AWp.skip (tN (AWp.seq (AWp.block (AWp.seq ?_))));obtain⟨ob0p,h⟩:=aB h;have ob0:0≤(n5:Int)∧(n5:Int)<(((r4.2.2.1).length:Nat):Int):=⟨by omega,ob0p⟩;refine bS [] [] [2,4,6,8,9,10] [2,4,6,10,5008] (an2 ob0 trivial) ?_;refine tN (AWp.seq ?_);obtain⟨r9,hr9,h⟩:=bind_ok h;refine bS [] [(2,⟨[.agg (f37z4 l6 l7),.agg (f37z9 r4 n5)],[],[],[],.tup [.agg (f37z3 r9),.str r9.2.2],[],[],[]⟩)] [2,4,6,8,9,10,11,12] [2,4,6,10,11,5008] (an2 (cpT (f62_ok _ _ _ _ _ _ hr9)) trivial) ?_;refine tN ?_;refine bF [] [] [2,4,6,8,9,10,12] [2,4,6,10,5008] (an1 trivial) ?_;obtain⟨ob1,h⟩:=aB h;refine aX [] [] ⟨51,(f37z6 n5),[(2,.cells 92 (f37z3 r9)),(4,.cells 92 [.nils,.nils]),(6,.cells 100 (vZ r4)),(5008,.rows 98 3 ((l8).length+1) (gZ (l8).length (cB bU bA l8) (dR 3 [.i (pF r4 n5).1,.i (pF r4 n5).2.1,.str r9.2.2])))],[],0⟩ (an1 ob1) ?_;refine kN (tN ?_);refine AWp.le (Le.mk (s':=⟨51,(f37z6 n5),(f37z7 r9 r4 l8 n5),[],0⟩) rfl rfl ⟨.refl _,.refl _,.refl _,.refl _,.refl _,trivial⟩ ⟨⟨_,rfl,.refl _⟩,⟨_,rfl,.refl _⟩,⟨_,rfl,.refl _⟩,⟨_,rfl,(BLe.of (RL.app (RL.self _) (RL.lst (enc:=bU) [((pF r4 n5).1,(pF r4 n5).2.1,r9.2.2)] rfl rfl (fun _=>rfl))))⟩,trivial⟩) ?_;obtain⟨ob2p,h⟩:=aB h;have ob2: -9223372036854775808≤((n5:Int)+(1:Int))∧((n5:Int)+(1:Int))≤9223372036854775807:=⟨by omega,ob2p⟩;refine aX [] [] ⟨51,[(2,.ptr 2 0),(4,.ptr 4 0),(6,.ptr 6 0),(8,.own 5008),(9,.i (((n5+1):Nat):Int))],(f37z7 r9 r4 l8 n5),[],0⟩ (an1 ob2) ?_;rw[hC0]at h;exact lN (_,(n5+1),r9.1,r9.2.1,(l8++[((pF r4 n5).1,(pF r4 n5).2.1,r9.2.2)])) LR h (Nat.lt_succ_self _)
   ·
    replace h:=aG hc2 h;refine AWp.exit (tE (tE (kS ?_)));exact jN (l6,l7,l8) LR h
  ·
   rintro⟨l10,l11,l12⟩ h;replace h:=(congrFun hK1 _).symm.trans h;refine aN [] [] ⟨51,[(4,.ptr 4 0),(5,.own 5008)],[(4,.cells 92 (f37z5 l10 l11)),(5008,bQ l12)],[],0⟩ (an1 trivial) ?_;refine AWp.le (Le.trans (Le.ren (aU 5008 3000) (aD 5008 3000) rfl) (LR (s':=⟨51,[(4,.ptr 4 0),(5,.own 3000)],[(4,.cells 92 (f37z5 l10 l11)),(3000,bQ l12)],[],0⟩))) ?_;have hret:=Option.some.inj h;subst hret;refine AWp.le (LR (s':=⟨51,[(4,.ptr 4 0),(5,.own 3000)],[(3000,bQ l12),(4,.cells 92 (f37z5 l10 l11))],[],0⟩)) ?_;refine AWp.ret ?_;exact bR _ rfl ⟨rfl,rfl⟩ rfl
def mQ (x3:List Ty1) (K1:(Ty6×Ty4)→Option (Ty6×Ty4)):Nat→(Nat×Ty6×Ty4)→Option (Ty6×Ty4)
 |0,_=>none
 |k+1,(n4,l5,l6)=>
  if(decide ((n4:Int)<(((x3).length:Nat):Int)))then(
  (f37 l5 l6 (x3.getD n4 [])).bind fun(r7:Ty6×Ty4×Ty4)=>
  chk ((n4:Int)<(((x3).length:Nat):Int))<|
  chk (((n4:Int)+(1:Int))≤9223372036854775807)<|
  (mQ x3 K1 k) ((n4+1),r7.1,r7.2.1)
  )else(
  K1 (l5,l6)
  )
abbrev f63z0 (x1:List Tq2) (x2:List Tq0):aK:=[(2,.cells 92 [vL 3 cD (default:Tq2) x1,vL 3 bU (default:Tq0) x2]),(4,.cells 92 [.nils,.nils])]
abbrev f63z1 (l5:List Tq2) (l6:List Tq0):aK:=[(2,.cells 92 [vL 3 cD (default:Tq2) l5,vL 3 bU (default:Tq0) l6]),(4,.cells 92 [.nils,.nils])]
abbrev f63z2 (r7:Ty6×Ty4×Ty4):List V:=[vL 3 cD (default:Tq2) r7.1,vL 3 bU (default:Tq0) r7.2.1]
abbrev f63z3 (l8:List Tq2) (l9:List Tq0):List V:=[vL 3 cD (default:Tq2) l8,vL 3 bU (default:Tq0) l9]
def f63 (x1:List Tq2) (x2:List Tq0) (x3:List Ty1):Option (Ty6×Ty4):=
 jn (fun((l8,l9):Ty6×Ty4)=>
 some (l8,l9)
 ) fun(K1:(Ty6×Ty4)→Option (Ty6×Ty4))=>
 mQ x3 K1 bB (0,x1,x2)
theorem f63_ok (x1:List Tq2) (x2:List Tq0) (x3:List Ty1) (r:Ty6×Ty4) (h:f63 x1 x2 x3=some r):aE Tryz.prog 63 [] [] [] [.agg [vL 3 cD (default:Tq2) x1,vL 3 bU (default:Tq0) x2],vL 1 eS [] x3] (.agg [vL 3 cD (default:Tq2) r.1,vL 3 bU (default:Tq0) r.2]) []:=by
 unfold f63 at h;refine aE.bodyD [4] 0 _ _ Tryz.func63 rfl Tryz.ntmps63 rfl rfl ?_;refine aN [] [] ⟨22,[(1,cW x3),(2,.ptr 2 0),(4,.ptr 4 0)],(f63z0 x1 x2),[],0⟩ trivial ?_;obtain⟨K1,hK1,h⟩:=aR h;refine AWp.join (fun(x:Ty6×Ty4)=>match x with|(l8,l9)=>⟨22,[(2,.ptr 2 0),(4,.ptr 4 0)],[(2,.cells 92 (f63z3 l8 l9)),(4,.cells 92 [.nils,.nils])],[],0⟩) (fun x=>K1 x=some r) ?_ ?_
 ·
  refine aN [] [] ⟨22,[(1,cW x3),(2,.ptr 2 0),(4,.ptr 4 0),(5,.i (0:Int))],(f63z0 x1 x2),[],0⟩ trivial ?_;refine AWp.block ?_;refine AWp.loopL (α:=Nat×(Nat×Ty6×Ty4)) (fun x=>match x with|(_,n4,l5,l6)=>⟨22,[(1,cW x3),(2,.ptr 2 0),(4,.ptr 4 0),(5,.i (n4:Int))],(f63z1 l5 l6),[],0⟩) (fun x=>mQ x3 K1 x.1 x.2=some r) (fun x=>x.1) (bB,0,x1,x2) (LR (s':=⟨22,[(1,cW x3),(2,.ptr 2 0),(4,.ptr 4 0),(5,.i (0:Int))],(f63z0 x1 x2),[],0⟩)) h ?_
  rintro⟨k0,n4,l5,l6⟩ h
  cases k0 with
  |zero=>exact nomatch (show none=some r from h)
  |succ k0=>
  obtain⟨C0,hC0⟩:∃C,C=mQ x3 K1 k0:=⟨_,rfl⟩;replace h:=(mQ.eq_2 ..).symm.trans h
  try rw[←hC0]at h
  refine AWp.seq ?_;refine aN [] [] ⟨22,[(1,cW x3),(2,.ptr 2 0),(4,.ptr 4 0),(5,.i (n4:Int)),(9,.bool (decide ((n4:Int)<(lZ x3))))],(f63z1 l5 l6),[],0⟩ trivial ?_;refine AWp.cond (b:=(decide ((n4:Int)<(lZ x3)))) (by kernel_rfl) (fun hc1=> ?_) (fun hc1=> ?_)
  ·
   replace h:=aF hc1 h;refine AWp.skip (tN (AWp.seq (AWp.block ?_)));obtain⟨r7,hr7,h⟩:=bind_ok h;obtain⟨ob0p,h⟩:=aB h;have ob0:0≤(n4:Int)∧(n4:Int)<(((x3).length:Nat):Int):=⟨by omega,ob0p⟩;refine aX [] [(5,⟨[.agg [aV l5,aT l6],.str (x3.getD n4 [])],[],[],[(6001,bQ r7.2.2)],.tup [.agg (f63z2 r7),.own 6001],[6001],[],[]⟩)] ⟨22,[(1,cW x3),(2,.ptr 2 0),(4,.ptr 4 0),(5,.i (n4:Int))],[(2,.cells 92 (f63z2 r7)),(4,.cells 92 [.nils,.nils])],[],0⟩ (an3 ob0 (cpT (aE.ren (aU 3000 6001) (aD 3000 6001) rfl (f37_ok _ _ _ _ hr7))) trivial) ?_;refine kN (tN ?_);obtain⟨ob1p,h⟩:=aB h;have ob1: -9223372036854775808≤((n4:Int)+(1:Int))∧((n4:Int)+(1:Int))≤9223372036854775807:=⟨by omega,ob1p⟩;refine aX [] [] ⟨22,[(1,cW x3),(2,.ptr 2 0),(4,.ptr 4 0),(5,.i (((n4+1):Nat):Int))],[(2,.cells 92 (f63z2 r7)),(4,.cells 92 [.nils,.nils])],[],0⟩ (an1 ob1) ?_;rw[hC0]at h;exact lN (_,(n4+1),r7.1,r7.2.1) LR h (Nat.lt_succ_self _)
  ·
   replace h:=aG hc1 h;refine AWp.exit (tE (tE (kS ?_)));exact jN (l5,l6) LR h
 ·
  rintro⟨l8,l9⟩ h;replace h:=(congrFun hK1 _).symm.trans h;refine aN [] [] ⟨22,[(4,.ptr 4 0)],[(4,.cells 92 (f63z3 l8 l9))],[],0⟩ (an1 trivial) ?_;have hret:=Option.some.inj h;subst hret;refine AWp.ret ?_;exact bR _ rfl ⟨rfl,rfl⟩ rfl
abbrev f38z0 (r2:Ty6×Ty4):List V:=[vL 3 cD (default:Tq2) r2.1,vL 3 bU (default:Tq0) r2.2]
def f38 (x1:List Ty1):Option (Ty6×Ty4):=
 (f63 [] [] x1).bind fun(r2:Ty6×Ty4)=>
 some (r2.1,r2.2)
theorem f38_ok (x1:List Ty1) (r:Ty6×Ty4) (h:f38 x1=some r):aE Tryz.prog 38 [] [] [] [vL 1 eS [] x1] (.agg [vL 3 cD (default:Tq2) r.1,vL 3 bU (default:Tq0) r.2]) []:=by
 unfold f38 at h;refine aE.bodyD [2] 0 _ _ Tryz.func38 rfl Tryz.ntmps38 rfl rfl ?_;refine bF [] [] [0,2] [2] trivial ?_;refine AWp.seq ?_;obtain⟨r2,hr2,h⟩:=bind_ok h;refine aX [] [(2,⟨[.agg [aV [],aT []],cW x1],[],[],[],.agg (f38z0 r2),[],[],[]⟩)] ⟨6,[(2,.ptr 2 0)],[(2,.cells 92 (f38z0 r2))],[],0⟩ (an2 (cpL (c:=true) [] [] [.agg [.nils,.nils],cW x1] (fun _=>(f63_ok _ _ _ _ hr2)) (fun _=>⟨(.aggs ⟨.nilL,.nilL,trivial⟩),.refl _,trivial⟩) (.inl rfl)) trivial) ?_;refine tN ?_;have hret:=Option.some.inj h;subst hret;refine AWp.ret ?_;exact bR _ rfl ⟨rfl,rfl⟩ rfl
def mP (x1:List Y51) (x4 x6:Int) (K1:Unit→Option Bool):Nat→Nat→Option Bool
 |0,_=>none
 |k+1,n9=>
  if(decide ((n9:Int)<(((x1).length:Nat):Int)))then(
  chk ((n9:Int)<(((x1).length:Nat):Int))<|
  chk ((((x1.getD n9 (default:Y51)).2.1==(2:Int))==true)=true→0≤(n9:Int)∧(n9:Int)<(((x1).length:Nat):Int))<|
  chk (((((x1.getD n9 (default:Y51)).2.1==(2:Int))&&((x1.getD n9 (default:Y51)).2.2.1==x4))==true)=true→0≤(n9:Int)∧(n9:Int)<(((x1).length:Nat):Int))<|
  if((((x1.getD n9 (default:Y51)).2.1==(2:Int))&&((x1.getD n9 (default:Y51)).2.2.1==x4))&&((x1.getD n9 (default:Y51)).2.2.2.2.1==x6))then(
  some false
  )else(
  chk (((n9:Int)+(1:Int))≤9223372036854775807)<|
  (mP x1 x4 x6 K1 k) (n9+1)
  )
  )else(
  K1 ()
  )
def mO (x4 x6:Int) (r10:List UInt8×Bool) (r12:Int×Int×Ty4×Int) (K2:Bool→Option Bool):Nat→(Bool×Nat)→Option Bool
 |0,_=>none
 |k+1,(b13,n14)=>
  if(decide ((n14:Int)<(((r12.2.2.1).length:Nat):Int)))then(
  chk ((n14:Int)<(((r12.2.2.1).length:Nat):Int))<|
  chk ((b13==false)=true→(b13==false)=true→((r12.2.2.1.getD n14 (default:Tq0)).1==x4)=true→((b13==false)&&(((r12.2.2.1.getD n14 (default:Tq0)).1==x4)==true))=true)<|
  chk ((b13==false)=true→(b13==false)=true→(((r12.2.2.1.getD n14 (default:Tq0)).1==x4)&&((r12.2.2.1.getD n14 (default:Tq0)).2.1==x6))=true→((b13==false)&&((((r12.2.2.1.getD n14 (default:Tq0)).1==x4)&&((r12.2.2.1.getD n14 (default:Tq0)).2.1==x6))==true))=true)<|
  chk (((n14:Int)+(1:Int))≤9223372036854775807)<|
  (mO x4 x6 r10 r12 K2 k) ((b13||((((r12.2.2.1.getD n14 (default:Tq0)).1==x4)&&((r12.2.2.1.getD n14 (default:Tq0)).2.1==x6))&&(((r12.2.2.1.getD n14 (default:Tq0)).2.2)==r10.1))),(n14+1))
  )else(
  K2 b13
  )
def jM (x1:List Y51) (x4 x5:Int) (K3:(List Ty1)→Option Bool):Nat→(Nat×List Ty1)→Option Bool
 |0,_=>none
 |k+1,(n16,l17)=>
  if((decide ((n16:Int)<x5))&&(decide ((n16:Int)≤(((x1).length:Nat):Int))))then(
  (f95 x1 ((12:Int)+x4) (n16:Int)).bind fun(r18:List UInt8×Bool)=>
  chk (-9223372036854775808≤((12:Int)+x4)∧((12:Int)+x4)≤9223372036854775807)<|
  if(!r18.2)then(
  some false
  )else(
  chk (((l17).length+1) *16≤140737488355328)<|
  chk (((n16:Int)+(1:Int))≤9223372036854775807)<|
  (jM x1 x4 x5 K3 k) ((n16+1),(l17++[r18.1]))
  )
  )else(
  K3 l17
  )
def gR (x4 x6:Int) (x8:List UInt8) (r21:Ty6×Ty4×Ty4) (K4:Unit→Option Bool):Nat→Nat→Option Bool
 |0,_=>none
 |k+1,n22=>
  if(decide ((n22:Int)<(((r21.2.2).length:Nat):Int)))then(
  chk ((n22:Int)<(((r21.2.2).length:Nat):Int))<|
  chk (n22<(r21.2.2).length)<|
  chk ((((r21.2.2.getD n22 (default:Tq0)).1==x4)==true)=true→0≤(n22:Int)∧(n22:Int)<(((r21.2.2).length:Nat):Int))<|
  chk ((((r21.2.2.getD n22 (default:Tq0)).1==x4)==true)=true→n22<(r21.2.2).length)<|
  if(((r21.2.2.getD n22 (default:Tq0)).1==x4)&&((r21.2.2.getD n22 (default:Tq0)).2.1==x6))then(
  chk ((n22:Int)<(((r21.2.2).length:Nat):Int))<|
  chk (n22<(r21.2.2).length)<|
  some (((r21.2.2.getD n22 (default:Tq0)).2.2)==x8)
  )else(
  chk (((n22:Int)+(1:Int))≤9223372036854775807)<|
  (gR x4 x6 x8 r21 K4 k) (n22+1)
  )
  )else(
  K4 ()
  )
abbrev nG (x2 x3 x4 x5 x6:Int) (x7 x8:List UInt8):List V:=[.int .i64 x2,.int .i64 x3,.int .i64 x4,.int .i64 x5,.int .i64 x6,.str x7,.str x8,.opq,.opq,.opq,.opq,.opq,.opq,.opq,.opq,.opq,.opq,.opq,.opq,.opq,.opq,.opq,.opq,.opq,.opq,.opq,.opq,.opq]
abbrev aBv (r12:Int×Int×Ty4×Int) (n14:Nat):=(r12.2.2.1.getD n14 (default:Tq0))
abbrev yN (x2 x3 x4 x5 x6:Int) (x7 x8:List UInt8) (r12:Int×Int×Ty4×Int):aK:=[(3,.cells 51 (nG x2 x3 x4 x5 x6 x7 x8)),(10,.cells 100 [.int .i64 r12.1,.int .i64 r12.2.1,vL 3 bU (default:Tq0) r12.2.2.1])]
abbrev yM (r21:Ty6×Ty4×Ty4) (n22:Nat):=(r21.2.2.getD n22 (default:Tq0))
abbrev yL (x2 x3 x4 x5 x6:Int) (x7 x8:List UInt8) (r21:Ty6×Ty4×Ty4):aK:=[(3,.cells 51 (nG x2 x3 x4 x5 x6 x7 x8)),(6001,bL 98 3 bU (default:Tq0) r21.2.2)]
abbrev aBu (r12:Int×Int×Ty4×Int) (n14:Nat) (x4 x6:Int):=(((aBv r12 n14).1==x4)&&((aBv r12 n14).2.1==x6))
abbrev nF (x2 x3 x4 x5 x6:Int) (x7 x8:List UInt8):aK:=[(3,.cells 51 (nG x2 x3 x4 x5 x6 x7 x8))]
abbrev aBt (n16:Nat) (x5:Int):=(decide ((n16:Int)<x5))
abbrev f67z8 (b13:Bool) (r12:Int×Int×Ty4×Int) (n14:Nat) (x4:Int):=((b13==false)&&(((aBv r12 n14).1==x4)==true))
abbrev vG (r21:Ty6×Ty4×Ty4) (n22:Nat) (x4:Int):=(((yM r21 n22).1==x4)==true)
def f67 (x1:List Y51) (x2 x3 x4 x5 x6:Int) (x7 x8:List UInt8):Option Bool:=
 jn (fun(_:Unit)=>
 (f94 x1 x4 x6).bind fun(r10:List UInt8×Bool)=>
 (f95 x1 ((12:Int)+x4) x5).bind fun(r11:List UInt8×Bool)=>
 chk (-9223372036854775808≤((12:Int)+x4)∧((12:Int)+x4)≤9223372036854775807)<|
 if((!r10.2)||(!r11.2))then(
 some false
 )else(
 (f61 r11.1).bind fun(r12:Int×Int×Ty4×Int)=>
 if(r12.2.2.2 !=(0:Int))then(
 some false
 )else(
 jn (fun(b15:Bool)=>
 jn (fun(l19:List Ty1)=>
 if(!b15)then(
 some false
 )else(
 (f38 l19).bind fun(r20:Ty6×Ty4)=>
 (f37 r20.1 r20.2 r11.1).bind fun(r21:Ty6×Ty4×Ty4)=>
 jn (fun(_:Unit)=>
 some false
 ) fun(K4:Unit→Option Bool)=>
 gR x4 x6 x8 r21 K4 bB 0
 )
 ) fun(K3:(List Ty1)→Option Bool)=>
 jM x1 x4 x5 K3 bB (0,[])
 ) fun(K2:Bool→Option Bool)=>
 mO x4 x6 r10 r12 K2 bB (false,0)
 )
 )
 ) fun(K1:Unit→Option Bool)=>
 mP x1 x4 x6 K1 bB 0
theorem f67_ok (x1:List Y51) (x2 x3 x4 x5 x6:Int) (x7 x8:List UInt8) (r:Bool) (h:f67 x1 x2 x3 x4 x5 x6 x7 x8=some r):aE Tryz.prog 67 [] [] [] [vL 28 lC (default:Y51) x1,.agg [.int .i64 x2,.int .i64 x3,.int .i64 x4,.int .i64 x5,.int .i64 x6,.str x7,.str x8,.opq,.opq,.opq,.opq,.opq,.opq,.opq,.opq,.opq,.opq,.opq,.opq,.opq,.opq,.opq,.opq,.opq,.opq,.opq,.opq,.opq]] (.bool r) []:=by
 unfold f67 at h;refine aE.body 0 _ _ Tryz.func67 rfl Tryz.ntmps67 rfl rfl ?_;refine aN [] [] ⟨187,[(0,aI x1),(3,.ptr 3 0)],(nF x2 x3 x4 x5 x6 x7 x8),[],0⟩ trivial ?_;obtain⟨K1,hK1,h⟩:=aR h;refine AWp.join (fun(x:Unit)=>match x with|()=>⟨187,[(0,aI x1),(3,.ptr 3 0)],(nF x2 x3 x4 x5 x6 x7 x8),[],0⟩) (fun x=>K1 x=some r) ?_ ?_
 ·
  refine aN [] [] ⟨187,[(0,aI x1),(3,.ptr 3 0),(5,.i (0:Int))],(nF x2 x3 x4 x5 x6 x7 x8),[],0⟩ trivial ?_;refine AWp.block ?_;refine AWp.loopL (α:=Nat×Nat) (fun x=>match x with|(_,n9)=>⟨187,[(0,aI x1),(3,.ptr 3 0),(5,.i (n9:Int))],(nF x2 x3 x4 x5 x6 x7 x8),[],0⟩) (fun x=>mP x1 x4 x6 K1 x.1 x.2=some r) (fun x=>x.1) (bB,0) (LR (s':=⟨187,[(0,aI x1),(3,.ptr 3 0),(5,.i (0:Int))],(nF x2 x3 x4 x5 x6 x7 x8),[],0⟩)) h ?_
  rintro⟨k0,n9⟩ h
  cases k0 with
  |zero=>exact nomatch (show none=some r from h)
  |succ k0=>
  obtain⟨C0,hC0⟩:∃C,C=mP x1 x4 x6 K1 k0:=⟨_,rfl⟩;replace h:=(mP.eq_2 ..).symm.trans h
  try rw[←hC0]at h
  refine AWp.seq ?_;refine aN [] [] ⟨187,[(0,aI x1),(3,.ptr 3 0),(5,.i (n9:Int)),(25,.bool (decide ((n9:Int)<(lZ x1))))],(nF x2 x3 x4 x5 x6 x7 x8),[],0⟩ trivial ?_;refine AWp.cond (b:=(decide ((n9:Int)<(lZ x1)))) (by kernel_rfl) (fun hc1=> ?_) (fun hc1=> ?_)
  ·
   replace h:=aF hc1 h;refine AWp.skip (tN (AWp.seq (AWp.block (AWp.seq ?_))));obtain⟨ob0p,h⟩:=aB h;have ob0:0≤(n9:Int)∧(n9:Int)<(((x1).length:Nat):Int):=⟨by omega,ob0p⟩;obtain⟨ob1,h⟩:=aB h;have ob2:=idA ((((x1.getD n9 aH).2.1==(2:Int))==true)=true);have ob3:=idA ((((x1.getD n9 aH).2.1==(2:Int))==true)=true);have ob4:=idA ((((x1.getD n9 aH).2.1==(2:Int))==true)=true);have ob5:=idA ((((x1.getD n9 aH).2.1==(2:Int))==true)=true);have ob6:=idA ((((x1.getD n9 aH).2.1==(2:Int))==true)=true);have ob7:=idA ((((x1.getD n9 aH).2.1==(2:Int))==true)=true);have ob8:=idA ((((x1.getD n9 aH).2.1==(2:Int))==true)=true);have ob9:=bqA ((x1.getD n9 aH).2.1==(2:Int)) true;obtain⟨ob10,h⟩:=aB h;have ob11:=idA (((((x1.getD n9 aH).2.1==(2:Int))&&((x1.getD n9 aH).2.2.1==x4))==true)=true);have ob12:=idA (((((x1.getD n9 aH).2.1==(2:Int))&&((x1.getD n9 aH).2.2.1==x4))==true)=true);have ob13:=idA (((((x1.getD n9 aH).2.1==(2:Int))&&((x1.getD n9 aH).2.2.1==x4))==true)=true);have ob14:=idA (((((x1.getD n9 aH).2.1==(2:Int))&&((x1.getD n9 aH).2.2.1==x4))==true)=true);have ob15:=idA (((((x1.getD n9 aH).2.1==(2:Int))&&((x1.getD n9 aH).2.2.1==x4))==true)=true);have ob16:=idA (((((x1.getD n9 aH).2.1==(2:Int))&&((x1.getD n9 aH).2.2.1==x4))==true)=true);have ob17:=idA (((((x1.getD n9 aH).2.1==(2:Int))&&((x1.getD n9 aH).2.2.1==x4))==true)=true);have ob18:=bqA (((x1.getD n9 aH).2.1==(2:Int))&&((x1.getD n9 aH).2.2.1==x4)) true;refine aX [] [] ⟨187,[(0,aI x1),(3,.ptr 3 0),(5,.i (n9:Int)),(53,.bool ((((x1.getD n9 aH).2.1==(2:Int))&&((x1.getD n9 aH).2.2.1==x4))&&((x1.getD n9 aH).2.2.2.2.1==x6)))],(nF x2 x3 x4 x5 x6 x7 x8),[],0⟩ (ac6 ob0 (And.intro ob1 (an2 ob2 ob3)) (an1 ob4) (an1 ob5) (an1 ob6) (an2 ob7 ob8) (ac6 ob9 (And.intro ob10 (an2 ob11 ob12)) (an1 ob13) (an1 ob14) (an1 ob15) (an2 ob16 ob17) (an1 ob18))) ?_;refine tN ?_;refine AWp.cond (b:=((((x1.getD n9 aH).2.1==(2:Int))&&((x1.getD n9 aH).2.2.1==x4))&&((x1.getD n9 aH).2.2.2.2.1==x6))) (by kernel_rfl) (fun hc2=> ?_) (fun hc2=> ?_)
   ·
    replace h:=aF hc2 h;refine aN [] [] ⟨187,[(4,.bool false)],[],[],0⟩ trivial ?_;have hret:=Option.some.inj h;subst hret;refine AWp.ret (kR (tR (tR (kR (aQ ?_)))));exact bR _ rfl ⟨rfl,rfl⟩ rfl
   ·
    replace h:=aG hc2 h;refine AWp.skip (kN (tN ?_));obtain⟨ob19p,h⟩:=aB h;have ob19: -9223372036854775808≤((n9:Int)+(1:Int))∧((n9:Int)+(1:Int))≤9223372036854775807:=⟨by omega,ob19p⟩;refine aX [] [] ⟨187,[(0,aI x1),(3,.ptr 3 0),(5,.i (((n9+1):Nat):Int))],(nF x2 x3 x4 x5 x6 x7 x8),[],0⟩ (an1 ob19) ?_;rw[hC0]at h;exact lN (_,(n9+1)) LR h (Nat.lt_succ_self _)
  ·
   replace h:=aG hc1 h;refine AWp.exit (tE (tE (kS ?_)));exact jN () LR h
 ·
  rintro⟨⟩ h;replace h:=(congrFun hK1 _).symm.trans h;refine AWp.seq ?_;obtain⟨r10,hr10,h⟩:=bind_ok h;refine bS [] [(5,⟨[aI x1,.i x4,.i x6],[],[],[],.tup [.str r10.1,.bool r10.2],[],[],[]⟩)] [0,3,6,7] [3] (an1 (cpT (f94_ok _ _ _ _ hr10))) ?_;refine tN (AWp.seq ?_);obtain⟨r11,hr11,h⟩:=bind_ok h;obtain⟨ob20,h⟩:=aB h;refine bS [] [(6,⟨[aI x1,.i ((12:Int)+x4),.i x5],[],[],[],.tup [.str r11.1,.bool r11.2],[],[],[]⟩)] [0,3,6,7,8,9] [3] (an2 ob20 (cpT (f95_ok _ _ _ _ hr11))) ?_;refine tN (AWp.seq (AWp.seq ?_));have ob21:=idA (((!r10.2)==false)=true);have ob22:=bqA (!r10.2) false;refine bS [] [] [0,3,6,8,78] [3] (an2 (an1 ob21) ob22) ?_;refine tN ?_;refine AWp.cond (b:=((!r10.2)||(!r11.2))) (by kernel_rfl) (fun hc3=> ?_) (fun hc3=> ?_)
  ·
   replace h:=aF hc3 h;refine aN [] [] ⟨187,[(4,.bool false)],[],[],0⟩ trivial ?_;have hret:=Option.some.inj h;subst hret;refine AWp.ret (tR ?_);exact bR _ rfl ⟨rfl,rfl⟩ rfl
  ·
   replace h:=aG hc3 h;refine AWp.skip (tN (AWp.seq ?_));obtain⟨r12,hr12,h⟩:=bind_ok h;refine bS [] [(1,⟨[.str r11.1],[],[],[],.tup [.agg [.i r12.1,.i r12.2.1,aT r12.2.2.1],.i r12.2.2.2],[],[],[]⟩)] [0,3,6,8,10,11] [3,10] (an2 (cpT (f61_ok _ _ hr12)) trivial) ?_;refine tN (AWp.seq ?_);refine bF [] [] [0,3,6,8,10,85] [3,10] trivial ?_;refine AWp.cond (b:=(r12.2.2.2 !=(0:Int))) (by kernel_rfl) (fun hc4=> ?_) (fun hc4=> ?_)
   ·
    replace h:=aF hc4 h;refine aN [] [] ⟨187,[(4,.bool false)],[],[],0⟩ trivial ?_;have hret:=Option.some.inj h;subst hret;refine AWp.ret (tR ?_);exact bR _ rfl ⟨rfl,rfl⟩ rfl
   ·
    replace h:=aG hc4 h;refine AWp.skip (tN ?_);refine aN [] [] ⟨187,[(0,aI x1),(3,.ptr 3 0),(6,.str r10.1),(8,.str r11.1),(10,.ptr 10 0),(12,.bool false)],(yN x2 x3 x4 x5 x6 x7 x8 r12),[],0⟩ trivial ?_;obtain⟨K2,hK2,h⟩:=aR h;refine AWp.join (α:=Bool) (fun(b15:Bool)=>⟨187,[(0,aI x1),(3,.ptr 3 0),(8,.str r11.1),(12,.bool b15)],(nF x2 x3 x4 x5 x6 x7 x8),[],0⟩) (fun x=>K2 x=some r) ?_ ?_
    ·
     refine aN [] [] ⟨187,[(0,aI x1),(3,.ptr 3 0),(6,.str r10.1),(8,.str r11.1),(10,.ptr 10 0),(12,.bool false),(13,.i (0:Int))],(yN x2 x3 x4 x5 x6 x7 x8 r12),[],0⟩ trivial ?_;refine AWp.block ?_;refine AWp.loopL (α:=Nat×(Bool×Nat)) (fun x=>match x with|(_,b13,n14)=>⟨187,[(0,aI x1),(3,.ptr 3 0),(6,.str r10.1),(8,.str r11.1),(10,.ptr 10 0),(12,.bool b13),(13,.i (n14:Int))],(yN x2 x3 x4 x5 x6 x7 x8 r12),[],0⟩) (fun x=>mO x4 x6 r10 r12 K2 x.1 x.2=some r) (fun x=>x.1) (bB,false,0) (LR (s':=⟨187,[(0,aI x1),(3,.ptr 3 0),(6,.str r10.1),(8,.str r11.1),(10,.ptr 10 0),(12,.bool false),(13,.i (0:Int))],(yN x2 x3 x4 x5 x6 x7 x8 r12),[],0⟩)) h ?_
     rintro⟨k1,b13,n14⟩ h
     cases k1 with
     |zero=>exact nomatch (show none=some r from h)
     |succ k1=>
     obtain⟨C1,hC1⟩:∃C,C=mO x4 x6 r10 r12 K2 k1:=⟨_,rfl⟩;replace h:=(mO.eq_2 ..).symm.trans h
     try rw[←hC1]at h
     refine AWp.seq ?_;refine aN [] [] ⟨187,[(0,aI x1),(3,.ptr 3 0),(6,.str r10.1),(8,.str r11.1),(10,.ptr 10 0),(12,.bool b13),(13,.i (n14:Int)),(90,.bool (decide ((n14:Int)<(lZ r12.2.2.1))))],(yN x2 x3 x4 x5 x6 x7 x8 r12),[],0⟩ trivial ?_;refine AWp.cond (b:=(decide ((n14:Int)<(lZ r12.2.2.1)))) (by kernel_rfl) (fun hc5=> ?_) (fun hc5=> ?_)
     ·
      replace h:=aF hc5 h;refine AWp.skip (tN (AWp.seq (AWp.block (AWp.seq ?_))));obtain⟨ob23p,h⟩:=aB h;have ob23:0≤(n14:Int)∧(n14:Int)<(((r12.2.2.1).length:Nat):Int):=⟨by omega,ob23p⟩;refine bS [] [] [0,3,6,8,10,12,13,14] [3,10,14] (an2 ob23 trivial) ?_;refine tN ?_;have ob24:=idA ((b13==false)=true);have ob25:=idA ((b13==false)=true);have ob26:=idA ((b13==false)=true);have ob27:=idA ((b13==false)=true);have ob28:=idA ((b13==false)=true);have ob29:=idA ((f67z8 b13 r12 n14 x4)=true);have ob30:=idA ((f67z8 b13 r12 n14 x4)=true);have ob31:=idA ((f67z8 b13 r12 n14 x4)=true);have ob32:=idA ((f67z8 b13 r12 n14 x4)=true);obtain⟨ob33,h⟩:=aB h;have ob34:=idA ((b13==false)=true);have ob35:=idA ((b13==false)=true);have ob36:=idA (((b13==false)&&((aBu r12 n14 x4 x6)==true))=true);have ob37:=idA (((b13==false)&&((aBu r12 n14 x4 x6)==true))=true);have ob38:=idA (((b13==false)&&((aBu r12 n14 x4 x6)==true))=true);obtain⟨ob39,h⟩:=aB h;have ob40:=idA ((b13==false)=true);have ob41:=bqA b13 false;refine aX [] [] ⟨187,[(0,aI x1),(3,.ptr 3 0),(6,.str r10.1),(8,.str r11.1),(10,.ptr 10 0),(12,.bool (b13||((aBu r12 n14 x4 x6)&&(((aBv r12 n14).2.2)==r10.1)))),(13,.i (n14:Int))],(yN x2 x3 x4 x5 x6 x7 x8 r12),[],0⟩ (ac6 (an1 ob24) (an1 ob25) (an2 ob26 ob27) (an1 ob28) (an1 ob29) (an1 ob30) (ac6 (an2 ob31 ob32) (And.intro ob33 (an1 ob34)) (an1 ob35) (an1 ob36) (an2 ob37 ob38) (And.intro ob39 (an1 ob40)) (an1 ob41))) ?_;refine kN (tN ?_);obtain⟨ob42p,h⟩:=aB h;have ob42: -9223372036854775808≤((n14:Int)+(1:Int))∧((n14:Int)+(1:Int))≤9223372036854775807:=⟨by omega,ob42p⟩;refine aX [] [] ⟨187,[(0,aI x1),(3,.ptr 3 0),(6,.str r10.1),(8,.str r11.1),(10,.ptr 10 0),(12,.bool (b13||((aBu r12 n14 x4 x6)&&(((aBv r12 n14).2.2)==r10.1)))),(13,.i (((n14+1):Nat):Int))],(yN x2 x3 x4 x5 x6 x7 x8 r12),[],0⟩ (an1 ob42) ?_;rw[hC1]at h;exact lN (_,(b13||((aBu r12 n14 x4 x6)&&(((aBv r12 n14).2.2)==r10.1))),(n14+1)) LR h (Nat.lt_succ_self _)
     ·
      replace h:=aG hc5 h;refine AWp.exit (tE (tE (kS ?_)));exact jN (b13) LR h
    ·
     rintro b15 h;replace h:=(congrFun hK2 _).symm.trans h;refine aN [] [] ⟨187,[(0,aI x1),(3,.ptr 3 0),(8,.str r11.1),(12,.bool b15),(15,.nils)],(nF x2 x3 x4 x5 x6 x7 x8),[],0⟩ trivial ?_;obtain⟨K3,hK3,h⟩:=aR h;refine AWp.join (α:=List Ty1) (fun(l19:List Ty1)=>⟨187,[(3,.ptr 3 0),(8,.str r11.1),(12,.bool b15),(15,.own 5015)],[(3,.cells 51 (nG x2 x3 x4 x5 x6 x7 x8)),(5015,aM l19)],[],0⟩) (fun x=>K3 x=some r) ?_ ?_
     ·
      refine aN [] [] ⟨187,[(0,aI x1),(3,.ptr 3 0),(8,.str r11.1),(12,.bool b15),(15,.nils),(16,.i (0:Int))],(nF x2 x3 x4 x5 x6 x7 x8),[],0⟩ trivial ?_;refine AWp.block ?_;refine AWp.loopL (α:=Nat×(Nat×List Ty1)) (fun x=>match x with|(_,n16,l17)=>⟨187,[(0,aI x1),(3,.ptr 3 0),(8,.str r11.1),(12,.bool b15),(15,.own 5015),(16,.i (n16:Int))],[(3,.cells 51 (nG x2 x3 x4 x5 x6 x7 x8)),(5015,aM l17)],[],0⟩) (fun x=>jM x1 x4 x5 K3 x.1 x.2=some r) (fun x=>x.1) (bB,0,[]) (Le.trans (Le.trans (Le.nilOwn 15 5015 9 1 (cB eS [] []) rfl rfl (Nat.le_of_ble_eq_true rfl)) (LR (s':=⟨187,[(0,aI x1),(3,.ptr 3 0),(8,.str r11.1),(12,.bool b15),(15,.own 5015),(16,.i (0:Int))],[(3,.cells 51 (nG x2 x3 x4 x5 x6 x7 x8)),(5015,aM [])],[],0⟩))) (LR (s':=⟨187,[(0,aI x1),(3,.ptr 3 0),(8,.str r11.1),(12,.bool b15),(15,.own 5015),(16,.i (0:Int))],[(3,.cells 51 (nG x2 x3 x4 x5 x6 x7 x8)),(5015,aM [])],[],0⟩))) h ?_
      rintro⟨k2,n16,l17⟩ h
      cases k2 with
      |zero=>exact nomatch (show none=some r from h)
      |succ k2=>
      obtain⟨C2,hC2⟩:∃C,C=jM x1 x4 x5 K3 k2:=⟨_,rfl⟩;replace h:=(jM.eq_2 ..).symm.trans h
      try rw[←hC2]at h
      refine AWp.seq (AWp.seq ?_);have ob43:=idA (((aBt n16 x5)==true)=true);have ob44:=idA (((aBt n16 x5)==true)=true);have ob45:=idA (((aBt n16 x5)==true)=true);have ob46:=bqA (aBt n16 x5) true;refine aX [] [] ⟨187,[(0,aI x1),(3,.ptr 3 0),(8,.str r11.1),(12,.bool b15),(15,.own 5015),(16,.i (n16:Int)),(128,.bool ((aBt n16 x5)&&(decide ((n16:Int)≤(lZ x1)))))],[(3,.cells 51 (nG x2 x3 x4 x5 x6 x7 x8)),(5015,aM l17)],[],0⟩ (an3 (an1 ob43) (an2 ob44 ob45) ob46) ?_;refine tN ?_;refine AWp.cond (b:=((aBt n16 x5)&&(decide ((n16:Int)≤(lZ x1))))) (by kernel_rfl) (fun hc6=> ?_) (fun hc6=> ?_)
      ·
       replace h:=aF hc6 h;refine AWp.skip (tN (AWp.seq (AWp.block (AWp.seq ?_))));obtain⟨r18,hr18,h⟩:=bind_ok h;obtain⟨ob47,h⟩:=aB h;refine bS [] [(5,⟨[aI x1,.i ((12:Int)+x4),.i (n16:Int)],[],[],[],.tup [.str r18.1,.bool r18.2],[],[],[]⟩)] [0,3,8,12,15,16,17,18] [3,5015] (an2 ob47 (cpT (f95_ok _ _ _ _ hr18))) ?_;refine tN (AWp.seq ?_);refine bF [] [] [0,3,8,12,15,16,17,141] [3,5015] trivial ?_;refine AWp.cond (b:=(!r18.2)) (by kernel_rfl) (fun hc7=> ?_) (fun hc7=> ?_)
       ·
        replace h:=aF hc7 h;refine aN [] [] ⟨187,[(4,.bool false)],[],[],0⟩ trivial ?_;have hret:=Option.some.inj h;subst hret;refine AWp.ret (tR (kR (tR (tR (kR (aQ ?_))))));exact bR _ rfl ⟨rfl,rfl⟩ rfl
       ·
        replace h:=aG hc7 h;refine AWp.skip (tN ?_);obtain⟨ob48,h⟩:=aB h;refine aX [] [] ⟨187,[(0,aI x1),(3,.ptr 3 0),(8,.str r11.1),(12,.bool b15),(15,.own 5015),(16,.i (n16:Int))],[(3,.cells 51 (nG x2 x3 x4 x5 x6 x7 x8)),(5015,.rows 9 1 ((l17).length+1) (gZ (l17).length (cB eS [] l17) (dR 1 [.str r18.1])))],[],0⟩ (an1 ob48) ?_;refine kN (tN ?_);refine AWp.le (Le.mk (s':=⟨187,[(0,aI x1),(3,.ptr 3 0),(8,.str r11.1),(12,.bool b15),(15,.own 5015),(16,.i (n16:Int))],[(3,.cells 51 (nG x2 x3 x4 x5 x6 x7 x8)),(5015,aM (l17++[r18.1]))],[],0⟩) rfl rfl ⟨.refl _,.refl _,.refl _,.refl _,.refl _,.refl _,trivial⟩ ⟨⟨_,rfl,.refl _⟩,⟨_,rfl,(BLe.of (RL.app (RL.self _) (RL.lst (enc:=eS) [r18.1] rfl rfl (fun _=>rfl))))⟩,trivial⟩) ?_;obtain⟨ob49p,h⟩:=aB h;have ob49: -9223372036854775808≤((n16:Int)+(1:Int))∧((n16:Int)+(1:Int))≤9223372036854775807:=⟨by omega,ob49p⟩;refine aX [] [] ⟨187,[(0,aI x1),(3,.ptr 3 0),(8,.str r11.1),(12,.bool b15),(15,.own 5015),(16,.i (((n16+1):Nat):Int))],[(3,.cells 51 (nG x2 x3 x4 x5 x6 x7 x8)),(5015,aM (l17++[r18.1]))],[],0⟩ (an1 ob49) ?_;rw[hC2]at h;exact lN (_,(n16+1),(l17++[r18.1])) LR h (Nat.lt_succ_self _)
      ·
       replace h:=aG hc6 h;refine AWp.exit (tE (tE (kS ?_)));exact jN (l17) LR h
     ·
      rintro l19 h;replace h:=(congrFun hK3 _).symm.trans h;refine AWp.seq ?_;refine aN [] [] ⟨187,[(3,.ptr 3 0),(8,.str r11.1),(15,.own 5015),(147,.bool (!b15))],[(3,.cells 51 (nG x2 x3 x4 x5 x6 x7 x8)),(5015,aM l19)],[],0⟩ trivial ?_;refine AWp.cond (b:=(!b15)) (by kernel_rfl) (fun hc8=> ?_) (fun hc8=> ?_)
      ·
       replace h:=aF hc8 h;refine aN [] [] ⟨187,[(4,.bool false)],[],[],0⟩ trivial ?_;have hret:=Option.some.inj h;subst hret;refine AWp.ret (tR ?_);exact bR _ rfl ⟨rfl,rfl⟩ rfl
      ·
       replace h:=aG hc8 h;refine AWp.skip (tN (AWp.seq ?_));refine AWp.le (Le.trans (Le.freeze 5015 rfl rfl) (LR (s':=⟨187,[(3,.ptr 3 0),(8,.str r11.1),(15,cW l19),(147,.bool (!b15))],(nF x2 x3 x4 x5 x6 x7 x8),[],0⟩))) ?_;obtain⟨r20,hr20,h⟩:=bind_ok h;obtain⟨r21,hr21,h⟩:=bind_ok h;refine aX [] [(1,⟨[cW l19],[],[],[],.agg [aV r20.1,aT r20.2],[],[],[]⟩),(3,⟨[.agg [aV r20.1,aT r20.2],.str r11.1],[],[],[(6001,bQ r21.2.2)],.tup [.agg [aV r21.1,aT r21.2.1],.own 6001],[6001],[],[]⟩)] ⟨187,[(3,.ptr 3 0),(20,.own 6001)],(yL x2 x3 x4 x5 x6 x7 x8 r21),[],0⟩ (an3 (cpT (f38_ok _ _ hr20)) (cpT (aE.ren (aU 3000 6001) (aD 3000 6001) rfl (f37_ok _ _ _ _ hr21))) trivial) ?_;refine tN ?_;obtain⟨K4,hK4,h⟩:=aR h;refine AWp.join (fun(x:Unit)=>match x with|()=>⟨187,[],[],[],0⟩) (fun x=>K4 x=some r) ?_ ?_
       ·
        refine aN [] [] ⟨187,[(3,.ptr 3 0),(20,.own 6001),(21,.i (0:Int))],(yL x2 x3 x4 x5 x6 x7 x8 r21),[],0⟩ trivial ?_;refine AWp.block ?_;refine AWp.loopL (α:=Nat×Nat) (fun x=>match x with|(_,n22)=>⟨187,[(3,.ptr 3 0),(20,.own 6001),(21,.i (n22:Int))],(yL x2 x3 x4 x5 x6 x7 x8 r21),[],0⟩) (fun x=>gR x4 x6 x8 r21 K4 x.1 x.2=some r) (fun x=>x.1) (bB,0) (LR (s':=⟨187,[(3,.ptr 3 0),(20,.own 6001),(21,.i (0:Int))],(yL x2 x3 x4 x5 x6 x7 x8 r21),[],0⟩)) h ?_
        rintro⟨k3,n22⟩ h
        cases k3 with
        |zero=>exact nomatch (show none=some r from h)
        |succ k3=>
        obtain⟨C3,hC3⟩:∃C,C=gR x4 x6 x8 r21 K4 k3:=⟨_,rfl⟩;replace h:=(gR.eq_2 ..).symm.trans h
        try rw[←hC3]at h
        refine AWp.seq ?_;refine aN [] [] ⟨187,[(3,.ptr 3 0),(20,.own 6001),(21,.i (n22:Int)),(158,.bool (decide ((n22:Int)<(lZ r21.2.2))))],(yL x2 x3 x4 x5 x6 x7 x8 r21),[],0⟩ trivial ?_;refine AWp.cond (b:=(decide ((n22:Int)<(lZ r21.2.2)))) (by kernel_rfl) (fun hc9=> ?_) (fun hc9=> ?_)
        ·
         replace h:=aF hc9 h;refine AWp.skip (tN (AWp.seq (AWp.block (AWp.seq ?_))));obtain⟨ob50p,h⟩:=aB h;have ob50:0≤(n22:Int)∧(n22:Int)<(((r21.2.2).length:Nat):Int):=⟨by omega,ob50p⟩;obtain⟨ob51,ob52,h⟩:=ck2 h;have ob53:=idA ((vG r21 n22 x4)=true);have ob54:=idA ((vG r21 n22 x4)=true);have ob55:=idA ((vG r21 n22 x4)=true);obtain⟨ob56,h⟩:=aB h;have ob57:=idA ((vG r21 n22 x4)=true);have ob58:=idA ((vG r21 n22 x4)=true);have ob59:=idA ((vG r21 n22 x4)=true);have ob60:=idA ((vG r21 n22 x4)=true);have ob61:true=true→((yM r21 n22).1==x4)=true→(vG r21 n22 x4)=true:=fun _ h=>beq_iff_eq.2 h;refine aX [] [] ⟨187,[(3,.ptr 3 0),(20,.own 6001),(21,.i (n22:Int)),(178,.bool (((yM r21 n22).1==x4)&&((yM r21 n22).2.1==x6)))],(yL x2 x3 x4 x5 x6 x7 x8 r21),[],0⟩ (ac6 ob50 ob51 (And.intro ob52 (an2 ob53 ob54)) (an1 ob55) (And.intro ob56 (an1 ob57)) (an1 ob58) (an2 (an2 ob59 ob60) ob61)) ?_;refine tN ?_;refine AWp.cond (b:=(((yM r21 n22).1==x4)&&((yM r21 n22).2.1==x6))) (by kernel_rfl) (fun hc10=> ?_) (fun hc10=> ?_)
         ·
          replace h:=aF hc10 h;refine AWp.seq ?_;obtain⟨ob62p,h⟩:=aB h;have ob62:0≤(n22:Int)∧(n22:Int)<(((r21.2.2).length:Nat):Int):=⟨by omega,ob62p⟩;obtain⟨ob63,h⟩:=aB h;refine aX [] [] ⟨187,[(4,.bool (((yM r21 n22).2.2)==x8))],[],[],0⟩ (an2 ob62 ob63) ?_;refine tN ?_;have hret:=Option.some.inj h;subst hret;refine AWp.ret (kR (tR (tR (kR (aQ ?_)))));exact bR _ rfl ⟨rfl,rfl⟩ rfl
         ·
          replace h:=aG hc10 h;refine AWp.skip (kN (tN ?_));obtain⟨ob64p,h⟩:=aB h;have ob64: -9223372036854775808≤((n22:Int)+(1:Int))∧((n22:Int)+(1:Int))≤9223372036854775807:=⟨by omega,ob64p⟩;refine aX [] [] ⟨187,[(3,.ptr 3 0),(20,.own 6001),(21,.i (((n22+1):Nat):Int))],(yL x2 x3 x4 x5 x6 x7 x8 r21),[],0⟩ (an1 ob64) ?_;rw[hC3]at h;exact lN (_,(n22+1)) LR h (Nat.lt_succ_self _)
        ·
         replace h:=aG hc9 h;refine AWp.exit (tE (tE (kS ?_)));exact jN () LR h
       ·
        rintro⟨⟩ h;replace h:=(congrFun hK4 _).symm.trans h;refine aN [] [] ⟨187,[(4,.bool false)],[],[],0⟩ trivial ?_;have hret:=Option.some.inj h;subst hret;refine AWp.ret ?_;exact bR _ rfl ⟨rfl,rfl⟩ rfl
def mT (x1:List Y51) (x5:Int) (x7:List UInt8) (r9:Int) (K2:Nat→Option Int):Nat→(Nat×Nat)→Option Int
 |0,_=>none
 |k+1,(n10,n11)=>
  if(decide ((n11:Int)<(((x1).length:Nat):Int)))then(
  jn (fun(n14:Nat)=>
  chk (((n11:Int)+(1:Int))≤9223372036854775807)<|
  (mT x1 x5 x7 r9 K2 k) (n14,(n11+1))
  ) fun(K3:Nat→Option Int)=>
  (f52 ((x1.getD n11 (default:Y51)).1) ((x1.getD n11 (default:Y51)).2.1) ((x1.getD n11 (default:Y51)).2.2.1) ((x1.getD n11 (default:Y51)).2.2.2.1) ((x1.getD n11 (default:Y51)).2.2.2.2.1) ((x1.getD n11 (default:Y51)).2.2.2.2.2.1) ((x1.getD n11 (default:Y51)).2.2.2.2.2.2)).bind fun(r12:Int)=>
  chk ((n11:Int)<(((x1).length:Nat):Int))<|
  chk (((decide (r12≥(0:Int)))==true)=true→0≤(n11:Int)∧(n11:Int)<(((x1).length:Nat):Int))<|
  chk ((((decide (r12≥(0:Int)))&&((x1.getD n11 (default:Y51)).2.2.2.1==x5))==true)=true→0≤(n11:Int)∧(n11:Int)<(((x1).length:Nat):Int))<|
  if(((decide (r12≥(0:Int)))&&((x1.getD n11 (default:Y51)).2.2.2.1==x5))&&(!(((x1.getD n11 (default:Y51)).2.2.2.2.2.1)==x7)))then(
  some (1:Int)
  )else(
  (f52 ((x1.getD n11 (default:Y51)).1) ((x1.getD n11 (default:Y51)).2.1) ((x1.getD n11 (default:Y51)).2.2.1) ((x1.getD n11 (default:Y51)).2.2.2.1) ((x1.getD n11 (default:Y51)).2.2.2.2.1) ((x1.getD n11 (default:Y51)).2.2.2.2.2.1) ((x1.getD n11 (default:Y51)).2.2.2.2.2.2)).bind fun(r13:Int)=>
  chk ((n11:Int)<(((x1).length:Nat):Int))<|
  if(r13==r9)then(
  chk (((n10:Int)+(1:Int))≤9223372036854775807)<|
  K3 (n10+1)
  )else(
  K3 n10
  )
  )
  )else(
  K2 n10
  )
abbrev f46z0 (x2 x3 x4 x5 x6:Int) (x7 x8:List UInt8):List V:=[.int .i64 x2,.int .i64 x3,.int .i64 x4,.int .i64 x5,.int .i64 x6,.str x7,.str x8,.opq,.opq,.opq,.opq,.opq,.opq,.opq,.opq,.opq,.opq,.opq,.opq,.opq,.opq,.opq,.opq,.opq,.opq,.opq,.opq,.opq]
abbrev f46z1 (x3 x4:Int):=(((x3==(2:Int))&&(decide (x4≥(0:Int))))&&(decide (x4<(6:Int))))
abbrev pE (r12:Int):=(decide (r12≥(0:Int)))
abbrev kZ (x2 x3 x4 x5 x6:Int) (x7 x8:List UInt8):aK:=[(3,.cells 51 (f46z0 x2 x3 x4 x5 x6 x7 x8))]
abbrev f46z4 (x3 x4:Int):=(((x3==(2:Int))&&(decide (x4≥(0:Int))))==true)
abbrev vX (r12:Int):=((pE r12)==true)
abbrev f46z6 (x3:Int):=((x3==(3:Int))==true)
def f46 (x1:List Y51) (x2 x3 x4 x5 x6:Int) (x7 x8:List UInt8):Option Int:=
 jn (fun(_:Unit)=>
 fS ((((x3==(2:Int))&&(decide (x4≥(0:Int))))&&(decide (x4<(6:Int))))==true) (f67 x1 x2 x3 x4 x5 x6 x7 x8) fun(r16:Bool)=>
 if((((x3==(2:Int))&&(decide (x4≥(0:Int))))&&(decide (x4<(6:Int))))&&(!r16))then(
 some (3:Int)
 )else(
 some (0:Int)
 )
 ) fun(K1:Unit→Option Int)=>
 (f52 x2 x3 x4 x5 x6 x7 x8).bind fun(r9:Int)=>
 if(decide (r9≥(0:Int)))then(
 jn (fun(n15:Nat)=>
 if((x3==(3:Int))&&(x5 !=(n15:Int)))then(
 some (2:Int)
 )else(
 K1 ()
 )
 ) fun(K2:Nat→Option Int)=>
 mT x1 x5 x7 r9 K2 bB (0,0)
 )else(
 K1 ()
 )
theorem f46_ok (x1:List Y51) (x2 x3 x4 x5 x6:Int) (x7 x8:List UInt8) (r:Int) (h:f46 x1 x2 x3 x4 x5 x6 x7 x8=some r):aE Tryz.prog 46 [] [] [] [vL 28 lC (default:Y51) x1,.agg [.int .i64 x2,.int .i64 x3,.int .i64 x4,.int .i64 x5,.int .i64 x6,.str x7,.str x8,.opq,.opq,.opq,.opq,.opq,.opq,.opq,.opq,.opq,.opq,.opq,.opq,.opq,.opq,.opq,.opq,.opq,.opq,.opq,.opq,.opq]] (.int .i64 r) []:=by
 unfold f46 at h;refine aE.body 0 _ _ Tryz.func46 rfl Tryz.ntmps46 rfl rfl ?_;refine aN [] [] ⟨81,[(0,aI x1),(3,.ptr 3 0)],(kZ x2 x3 x4 x5 x6 x7 x8),[],0⟩ trivial ?_;obtain⟨K1,hK1,h⟩:=aR h;refine AWp.join (fun(x:Unit)=>match x with|()=>⟨81,[(0,aI x1),(3,.ptr 3 0)],(kZ x2 x3 x4 x5 x6 x7 x8),[],0⟩) (fun x=>K1 x=some r) ?_ ?_
 ·
  refine AWp.seq ?_;obtain⟨r9,hr9,h⟩:=bind_ok h;refine bS [] [(1,⟨[.agg (f46z0 x2 x3 x4 x5 x6 x7 x8)],[],[],[],.i r9,[],[],[]⟩)] [0,3,5] [3] (an1 (cpT (vQ _ _ _ _ _ _ _ _ hr9))) ?_;refine tN ?_;refine aN [] [] ⟨81,[(0,aI x1),(3,.ptr 3 0),(5,.i r9),(11,.bool (decide (r9≥(0:Int))))],(kZ x2 x3 x4 x5 x6 x7 x8),[],0⟩ trivial ?_;refine AWp.cond (b:=(decide (r9≥(0:Int)))) (by kernel_rfl) (fun hc1=> ?_) (fun hc1=> ?_)
  ·
   replace h:=aF hc1 h;refine aN [] [] ⟨81,[(0,aI x1),(3,.ptr 3 0),(5,.i r9),(6,.i (0:Int))],(kZ x2 x3 x4 x5 x6 x7 x8),[],0⟩ trivial ?_;obtain⟨K2,hK2,h⟩:=aR h;refine AWp.join (α:=Nat) (fun(n15:Nat)=>⟨81,[(0,aI x1),(3,.ptr 3 0),(6,.i (n15:Int))],(kZ x2 x3 x4 x5 x6 x7 x8),[],0⟩) (fun x=>K2 x=some r) ?_ ?_
   ·
    refine aN [] [] ⟨81,[(0,aI x1),(3,.ptr 3 0),(5,.i r9),(6,.i (0:Int)),(7,.i (0:Int))],(kZ x2 x3 x4 x5 x6 x7 x8),[],0⟩ trivial ?_;refine AWp.block ?_;refine AWp.loopL (α:=Nat×(Nat×Nat)) (fun x=>match x with|(_,n10,n11)=>⟨81,[(0,aI x1),(3,.ptr 3 0),(5,.i r9),(6,.i (n10:Int)),(7,.i (n11:Int))],(kZ x2 x3 x4 x5 x6 x7 x8),[],0⟩) (fun x=>mT x1 x5 x7 r9 K2 x.1 x.2=some r) (fun x=>x.1) (bB,0,0) (LR (s':=⟨81,[(0,aI x1),(3,.ptr 3 0),(5,.i r9),(6,.i (0:Int)),(7,.i (0:Int))],(kZ x2 x3 x4 x5 x6 x7 x8),[],0⟩)) h ?_
    rintro⟨k0,n10,n11⟩ h
    cases k0 with
    |zero=>exact nomatch (show none=some r from h)
    |succ k0=>
    obtain⟨C0,hC0⟩:∃C,C=mT x1 x5 x7 r9 K2 k0:=⟨_,rfl⟩;replace h:=(mT.eq_2 ..).symm.trans h
    try rw[←hC0]at h
    refine AWp.seq ?_;refine aN [] [] ⟨81,[(0,aI x1),(3,.ptr 3 0),(5,.i r9),(6,.i (n10:Int)),(7,.i (n11:Int)),(15,.bool (decide ((n11:Int)<(lZ x1))))],(kZ x2 x3 x4 x5 x6 x7 x8),[],0⟩ trivial ?_;refine AWp.cond (b:=(decide ((n11:Int)<(lZ x1)))) (by kernel_rfl) (fun hc2=> ?_) (fun hc2=> ?_)
    ·
     replace h:=aF hc2 h;refine AWp.skip (tN ?_);obtain⟨K3,hK3,h⟩:=aR h;refine AWp.join (α:=Nat) (fun(n14:Nat)=>⟨81,[(0,aI x1),(3,.ptr 3 0),(5,.i r9),(6,.i (n14:Int)),(7,.i (n11:Int))],(kZ x2 x3 x4 x5 x6 x7 x8),[],0⟩) (fun x=>K3 x=some r) ?_ ?_
     ·
      refine AWp.block (AWp.seq (AWp.seq ?_));obtain⟨r12,hr12,h⟩:=bind_ok h;obtain⟨ob0p,h⟩:=aB h;have ob0:0≤(n11:Int)∧(n11:Int)<(((x1).length:Nat):Int):=⟨by omega,ob0p⟩;obtain⟨ob1,h⟩:=aB h;have ob2:=idA ((vX r12)=true);have ob3:=idA ((vX r12)=true);have ob4:=idA ((vX r12)=true);have ob5:=idA ((vX r12)=true);have ob6:=idA ((vX r12)=true);have ob7:=idA ((vX r12)=true);have ob8:=idA ((vX r12)=true);have ob9:true=true→(pE r12)=true→(vX r12)=true:=fun _ h=>beq_iff_eq.2 h;obtain⟨ob10,h⟩:=aB h;have ob11:=idA ((((pE r12)&&((x1.getD n11 aH).2.2.2.1==x5))==true)=true);have ob12:=idA ((((pE r12)&&((x1.getD n11 aH).2.2.2.1==x5))==true)=true);have ob13:=idA ((((pE r12)&&((x1.getD n11 aH).2.2.2.1==x5))==true)=true);have ob14:=idA ((((pE r12)&&((x1.getD n11 aH).2.2.2.1==x5))==true)=true);have ob15:=idA ((((pE r12)&&((x1.getD n11 aH).2.2.2.1==x5))==true)=true);have ob16:=idA ((((pE r12)&&((x1.getD n11 aH).2.2.2.1==x5))==true)=true);have ob17:=idA ((((pE r12)&&((x1.getD n11 aH).2.2.2.1==x5))==true)=true);have ob18:=bqA ((pE r12)&&((x1.getD n11 aH).2.2.2.1==x5)) true;refine bS [] [(4,⟨[.agg (qpt (x1.getD n11 aH))],[],[],[],.i r12,[],[],[]⟩)] [0,3,5,6,7,43] [3] (ac6 ob0 (cpT (vQ _ _ _ _ _ _ _ _ hr12)) (And.intro ob1 (an2 ob2 ob3)) (an1 ob4) (an1 ob5) (an1 ob6) (ac6 (an2 ob7 ob8) ob9 (And.intro ob10 (an2 ob11 ob12)) (an1 ob13) (an1 ob14) (an1 ob15) (an2 (an2 ob16 ob17) ob18))) ?_;refine tN ?_;refine AWp.cond (b:=(((pE r12)&&((x1.getD n11 aH).2.2.2.1==x5))&&(!(((x1.getD n11 aH).2.2.2.2.2.1)==x7)))) (by kernel_rfl) (fun hc3=> ?_) (fun hc3=> ?_)
      ·
       replace h:=aF hc3 h;refine aN [] [] ⟨81,[(4,.i (1:Int))],[],[],0⟩ trivial ?_;have hret:=Option.some.inj h;subst hret;refine AWp.ret (tR (kR (aQ (tR (kR (aQ (aQ ?_)))))));exact bR _ rfl ⟨rfl,rfl⟩ rfl
      ·
       replace h:=aG hc3 h;refine AWp.skip (tN (AWp.seq ?_));obtain⟨r13,hr13,h⟩:=bind_ok h;obtain⟨ob19p,h⟩:=aB h;have ob19:0≤(n11:Int)∧(n11:Int)<(((x1).length:Nat):Int):=⟨by omega,ob19p⟩;refine aX [] [(4,⟨[.agg (qpt (x1.getD n11 aH))],[],[],[],.i r13,[],[],[]⟩)] ⟨81,[(0,aI x1),(3,.ptr 3 0),(5,.i r9),(6,.i (n10:Int)),(7,.i (n11:Int)),(50,.bool (r13==r9))],(kZ x2 x3 x4 x5 x6 x7 x8),[],0⟩ (an2 ob19 (cpT (vQ _ _ _ _ _ _ _ _ hr13))) ?_;refine tN ?_;refine AWp.cond (b:=(r13==r9)) (by kernel_rfl) (fun hc4=> ?_) (fun hc4=> ?_)
       ·
        replace h:=aF hc4 h;obtain⟨ob20p,h⟩:=aB h;have ob20: -9223372036854775808≤((n10:Int)+(1:Int))∧((n10:Int)+(1:Int))≤9223372036854775807:=⟨by omega,ob20p⟩;refine aX [] [] ⟨81,[(0,aI x1),(3,.ptr 3 0),(5,.i r9),(6,.i (((n10+1):Nat):Int)),(7,.i (n11:Int))],(kZ x2 x3 x4 x5 x6 x7 x8),[],0⟩ (an1 ob20) ?_;refine kN ?_;exact jN ((n10+1)) LR h
       ·
        replace h:=aG hc4 h;refine AWp.skip (kN ?_);exact jN (n10) LR h
     ·
      rintro n14 h;replace h:=(congrFun hK3 _).symm.trans h;obtain⟨ob21p,h⟩:=aB h;have ob21: -9223372036854775808≤((n11:Int)+(1:Int))∧((n11:Int)+(1:Int))≤9223372036854775807:=⟨by omega,ob21p⟩;refine aX [] [] ⟨81,[(0,aI x1),(3,.ptr 3 0),(5,.i r9),(6,.i (n14:Int)),(7,.i (((n11+1):Nat):Int))],(kZ x2 x3 x4 x5 x6 x7 x8),[],0⟩ (an1 ob21) ?_;rw[hC0]at h;exact lN (_,n14,(n11+1)) LR h (Nat.lt_succ_self _)
    ·
     replace h:=aG hc2 h;refine AWp.exit (tE (tE (kS ?_)));exact jN (n10) LR h
   ·
    rintro n15 h;replace h:=(congrFun hK2 _).symm.trans h;refine AWp.seq ?_;have ob22:=idA ((f46z6 x3)=true);have ob23:=idA ((f46z6 x3)=true);have ob24:=idA ((f46z6 x3)=true);have ob25:true=true→(x3==(3:Int))=true→(f46z6 x3)=true:=fun _ h=>beq_iff_eq.2 h;refine aX [] [] ⟨81,[(0,aI x1),(3,.ptr 3 0),(61,.bool ((x3==(3:Int))&&(x5 !=(n15:Int))))],(kZ x2 x3 x4 x5 x6 x7 x8),[],0⟩ (an3 (an1 ob22) (an2 ob23 ob24) ob25) ?_;refine tN ?_;refine AWp.cond (b:=((x3==(3:Int))&&(x5 !=(n15:Int)))) (by kernel_rfl) (fun hc5=> ?_) (fun hc5=> ?_)
    ·
     replace h:=aF hc5 h;refine aN [] [] ⟨81,[(4,.i (2:Int))],[],[],0⟩ trivial ?_;have hret:=Option.some.inj h;subst hret;refine AWp.ret (aQ ?_);exact bR _ rfl ⟨rfl,rfl⟩ rfl
    ·
     replace h:=aG hc5 h;refine AWp.skip ?_;exact jN () LR h
  ·
   replace h:=aG hc1 h;refine AWp.skip ?_;exact jN () LR h
 ·
  rintro⟨⟩ h;replace h:=(congrFun hK1 _).symm.trans h;refine AWp.seq (AWp.seq ?_);obtain⟨r16,hr16,h⟩:=bZ h;have ob26:=idA (((x3==(2:Int))==true)=true);have ob27:=idA (((x3==(2:Int))==true)=true);have ob28:=bqA (x3==(2:Int)) true;have ob29:=idA ((f46z4 x3 x4)=true);have ob30:=idA ((f46z4 x3 x4)=true);have ob31:true=true→((x3==(2:Int))&&(decide (x4≥(0:Int))))=true→(f46z4 x3 x4)=true:=fun _ h=>beq_iff_eq.2 h;have ob32:=idA (((f46z1 x3 x4)==true)=true);have ob33:=idA (((f46z1 x3 x4)==true)=true);have ob34:=idA (((f46z1 x3 x4)==true)=true);have ob35:=bqA (f46z1 x3 x4) true;refine bS [] [(16,⟨[aI x1,.agg (f46z0 x2 x3 x4 x5 x6 x7 x8)],[],[],[],.bool r16,[],[],[]⟩)] [80] [] (ac6 (an1 ob26) (an1 ob27) ob28 (an1 ob29) (an1 ob30) ob31 (an3 (And.intro (cpC fun hc=>(f67_ok _ _ _ _ _ _ _ _ _ (hr16 hc))) (an2 ob32 ob33)) (an1 ob34) ob35)) ?_;refine tN ?_;refine AWp.cond (b:=((f46z1 x3 x4)&&(!r16))) (by kernel_rfl) (fun hc6=> ?_) (fun hc6=> ?_)
  ·
   replace h:=aF hc6 h;refine aN [] [] ⟨81,[(4,.i (3:Int))],[],[],0⟩ trivial ?_;have hret:=Option.some.inj h;subst hret;refine AWp.ret (tR ?_);exact bR _ rfl ⟨rfl,rfl⟩ rfl
  ·
   replace h:=aG hc6 h;refine AWp.skip (tN ?_);refine aN [] [] ⟨81,[(4,.i (0:Int))],[],[],0⟩ trivial ?_;have hret:=Option.some.inj h;subst hret;refine AWp.ret ?_;exact bR _ rfl ⟨rfl,rfl⟩ rfl
def mY (x1:List Y51) (K1:Unit→Option Tq5):Nat→Nat→Option Tq5
 |0,_=>none
 |k+1,n2=>
  if(decide ((n2:Int)<(((x1).length:Nat):Int)))then(
  (f46 (x1.take n2) ((x1.getD n2 (default:Y51)).1) ((x1.getD n2 (default:Y51)).2.1) ((x1.getD n2 (default:Y51)).2.2.1) ((x1.getD n2 (default:Y51)).2.2.2.1) ((x1.getD n2 (default:Y51)).2.2.2.2.1) ((x1.getD n2 (default:Y51)).2.2.2.2.2.1) ((x1.getD n2 (default:Y51)).2.2.2.2.2.2)).bind fun(r3:Int)=>
  chk ((n2:Int)≤(((x1).length:Nat):Int))<|
  chk ((n2:Int)<(((x1).length:Nat):Int))<|
  if(decide (r3>(0:Int)))then(
  some ((n2:Int),r3,(0:Int))
  )else(
  chk (((n2:Int)+(1:Int))≤9223372036854775807)<|
  (mY x1 K1 k) (n2+1)
  )
  )else(
  K1 ()
  )
def f17 (x1:List Y51):Option Tq5:=
 jn (fun(_:Unit)=>
 some ((0:Int),(0:Int),(13:Int))
 ) fun(K1:Unit→Option Tq5)=>
 mY x1 K1 bB 0
theorem f17_ok (x1:List Y51) (r:Tq5) (h:f17 x1=some r):aE Tryz.prog 17 [] [] [] [vL 28 lC (default:Y51) x1] (.tup [.int .i64 r.1,.int .i64 r.2.1,.int .i64 r.2.2]) []:=by
 unfold f17 at h;refine aE.body 0 _ _ Tryz.func17 rfl Tryz.ntmps17 rfl rfl ?_;refine aN [] [] ⟨25,[(0,aI x1)],[],[],0⟩ trivial ?_;obtain⟨K1,hK1,h⟩:=aR h;refine AWp.join (fun(x:Unit)=>match x with|()=>⟨25,[],[],[],0⟩) (fun x=>K1 x=some r) ?_ ?_
 ·
  refine aN [] [] ⟨25,[(0,aI x1),(5,.i (0:Int))],[],[],0⟩ trivial ?_;refine AWp.block ?_;refine AWp.loopL (α:=Nat×Nat) (fun x=>match x with|(_,n2)=>⟨25,[(0,aI x1),(5,.i (n2:Int))],[],[],0⟩) (fun x=>mY x1 K1 x.1 x.2=some r) (fun x=>x.1) (bB,0) (LR (s':=⟨25,[(0,aI x1),(5,.i (0:Int))],[],[],0⟩)) h ?_
  rintro⟨k0,n2⟩ h
  cases k0 with
  |zero=>exact nomatch (show none=some r from h)
  |succ k0=>
  obtain⟨C0,hC0⟩:∃C,C=mY x1 K1 k0:=⟨_,rfl⟩;replace h:=(mY.eq_2 ..).symm.trans h
  try rw[←hC0]at h
  refine AWp.seq ?_;refine aN [] [] ⟨25,[(0,aI x1),(5,.i (n2:Int)),(10,.bool (decide ((n2:Int)<(lZ x1))))],[],[],0⟩ trivial ?_;refine AWp.cond (b:=(decide ((n2:Int)<(lZ x1)))) (by kernel_rfl) (fun hc1=> ?_) (fun hc1=> ?_)
  ·
   replace h:=aF hc1 h;refine AWp.skip (tN (AWp.seq (AWp.block (AWp.seq ?_))));obtain⟨r3,hr3,h⟩:=bind_ok h;obtain⟨ob0p,h⟩:=aB h;have ob0:0≤(n2:Int)∧(n2:Int)≤(((x1).length:Nat):Int):=⟨by omega,ob0p⟩;obtain⟨ob1p,h⟩:=aB h;have ob1:0≤(n2:Int)∧(n2:Int)<(((x1).length:Nat):Int):=⟨by omega,ob1p⟩;refine bS [] [(7,⟨[aI (x1.take n2),.agg (qpt (x1.getD n2 aH))],[],[],[],.i r3,[],[],[]⟩)] [0,5,6] [] (an3 ob0 ob1 (cpL (c:=true) [] [] [.arr 28 n2 (cB lC aH x1),.agg (qpt (x1.getD n2 aH))] (fun _=>(f46_ok _ _ _ _ _ _ _ _ _ hr3)) (fun _=>⟨(VLe.takeL (by first|omega|(simp only[List.length_append,List.length_cons,List.length_nil,List.length_take,List.length_drop]at *;omega)|(simp;done)|(simp_all;done)|(simp_all;omega)|rfl)),.refl _,trivial⟩) (.inl rfl))) ?_;refine tN ?_;refine aN [] [] ⟨25,[(0,aI x1),(5,.i (n2:Int)),(6,.i r3),(22,.bool (decide (r3>(0:Int))))],[],[],0⟩ trivial ?_;refine AWp.cond (b:=(decide (r3>(0:Int)))) (by kernel_rfl) (fun hc2=> ?_) (fun hc2=> ?_)
   ·
    replace h:=aF hc2 h;refine aN [] [] ⟨25,[(2,.i (n2:Int)),(3,.i r3),(4,.i (0:Int))],[],[],0⟩ trivial ?_;have hret:=Option.some.inj h;subst hret;refine AWp.ret (kR (tR (tR (kR (aQ ?_)))));exact bR _ rfl ⟨rfl,rfl⟩ rfl
   ·
    replace h:=aG hc2 h;refine AWp.skip (kN (tN ?_));obtain⟨ob2p,h⟩:=aB h;have ob2: -9223372036854775808≤((n2:Int)+(1:Int))∧((n2:Int)+(1:Int))≤9223372036854775807:=⟨by omega,ob2p⟩;refine aX [] [] ⟨25,[(0,aI x1),(5,.i (((n2+1):Nat):Int))],[],[],0⟩ (an1 ob2) ?_;rw[hC0]at h;exact lN (_,(n2+1)) LR h (Nat.lt_succ_self _)
  ·
   replace h:=aG hc1 h;refine AWp.exit (tE (tE (kS ?_)));exact jN () LR h
 ·
  rintro⟨⟩ h;replace h:=(congrFun hK1 _).symm.trans h;refine aN [] [] ⟨25,[(2,.i (0:Int)),(3,.i (0:Int)),(4,.i (13:Int))],[],[],0⟩ trivial ?_;have hret:=Option.some.inj h;subst hret;refine AWp.ret ?_;exact bR _ rfl ⟨rfl,rfl⟩ rfl
abbrev f47z0 (r15:Int×dZ×dY×Ty5×eF×Ty5×Ty2×Ty3):aK:=[(2000,.cells 115 [.own 2001,.own 2002,.own 2003,.own 2004,.own 2005,.own 2006,.own 2007]),(2001,bP (V.int .i64) 0 cQ [] r15.2.1),(2002,bP (V.int .i64) 0 cT false r15.2.2.1),(2003,bP aJ (default:Tq1) bH [] r15.2.2.2.1),(2004,bP (V.int .i64) 0 cS 0 r15.2.2.2.2.1),(2005,bP aJ (default:Tq1) bH [] r15.2.2.2.2.2.1),(2006,bP aZ (default:Tq0) cY false r15.2.2.2.2.2.2.1),(2007,bP aY (default:Tq1) cX false r15.2.2.2.2.2.2.2)]
def f47 (x1 x2 x3 x4 x5:Int) (x6 x7:List UInt8) (x8:List Tq4) (x9:List Tq3) (x10:List Ty0) (x11:List Tq1) (x12:List Ty0) (x13:List gS) (x14:List gN):Option Ty8:=
 (f43 x1 x2 x3 x4 x5 x6 x7 x8 x9 x10 x11 x12 x13 x14).bind fun(r15:Int×dZ×dY×Ty5×eF×Ty5×Ty2×Ty3)=>
 some ((r15.1==(3:Int)),r15.2.1,r15.2.2.1,r15.2.2.2.1,r15.2.2.2.2.1,r15.2.2.2.2.2.1,r15.2.2.2.2.2.2.1,r15.2.2.2.2.2.2.2)
theorem f47_ok (x1 x2 x3 x4 x5:Int) (x6 x7:List UInt8) (x8:List Tq4) (x9:List Tq3) (x10:List Ty0) (x11:List Tq1) (x12:List Ty0) (x13:List gS) (x14:List gN) (r:Bool×dZ×dY×Ty5×eF×Ty5×Ty2×Ty3) (h:f47 x1 x2 x3 x4 x5 x6 x7 x8 x9 x10 x11 x12 x13 x14=some r):aE Tryz.prog 47 [(1,.tab .u64 Lib.pow10Tab),(2,bD),(3,bD)] [2000] [(2000,.cells 115 [.own 2001,.own 2002,.own 2003,.own 2004,.own 2005,.own 2006,.own 2007]),(2001,bP (V.int .i64) 0 cQ [] x8),(2002,bP (V.int .i64) 0 cT false x9),(2003,bP aJ (default:Tq1) bH [] x10),(2004,bP (V.int .i64) 0 cS 0 x11),(2005,bP aJ (default:Tq1) bH [] x12),(2006,bP aZ (default:Tq0) cY false x13),(2007,bP aY (default:Tq1) cX false x14)] [.ptr 2000 0,.agg [.int .i64 x1,.int .i64 x2,.int .i64 x3,.int .i64 x4,.int .i64 x5,.str x6,.str x7,.opq,.opq,.opq,.opq,.opq,.opq,.opq,.opq,.opq,.opq,.opq,.opq,.opq,.opq,.opq,.opq,.opq,.opq,.opq,.opq,.opq]] (.bool r.1) [(2000,.cells 115 [.own 2001,.own 2002,.own 2003,.own 2004,.own 2005,.own 2006,.own 2007]),(2001,bP (V.int .i64) 0 cQ [] r.2.1),(2002,bP (V.int .i64) 0 cT false r.2.2.1),(2003,bP aJ (default:Tq1) bH [] r.2.2.2.1),(2004,bP (V.int .i64) 0 cS 0 r.2.2.2.2.1),(2005,bP aJ (default:Tq1) bH [] r.2.2.2.2.2.1),(2006,bP aZ (default:Tq0) cY false r.2.2.2.2.2.2.1),(2007,bP aY (default:Tq1) cX false r.2.2.2.2.2.2.2)]:=by
 unfold f47 at h;refine aE.body 0 _ _ Tryz.func47 rfl Tryz.ntmps47 rfl rfl ?_;refine bF [] [] [0,3,1000001,1000002,1000003] [3,2000,2001,2002,2003,2004,2005,2006,2007] trivial ?_;refine AWp.seq ?_;obtain⟨r15,hr15,h⟩:=bind_ok h;refine aX [] [(2,⟨[.ptr 2000 0,.agg (qpc x1 x2 x3 x4 x5 x6 x7)],[2000,2001,2002,2003,2004,2005,2006,2007],[2000],(f47z0 r15),.i r15.1,[2001,2002,2003,2004,2005,2006,2007],[],[1,2,3]⟩)] ⟨9,[(4,.bool (r15.1==(3:Int)))],(f47z0 r15),[2000],0⟩ (an1 (cpT (f43_ok _ _ _ _ _ _ _ _ _ _ _ _ _ _ _ hr15))) ?_;refine tN ?_;have hret:=Option.some.inj h;subst hret;refine AWp.ret ?_;exact bR _ rfl ⟨rfl,rfl⟩ rfl
def iQ (x1:List Y51) (K1:Unit→Option Tq1):Nat→Ty11→Option Tq1
 |0,_=>none
 |k+1,(n3,l4,l5,l6,l7,l8,l9,l10)=>
  if(decide ((n3:Int)<(((x1).length:Nat):Int)))then(
  chk ((n3:Int)<(((x1).length:Nat):Int))<|
  (f47 ((x1.getD n3 (default:Y51)).1) ((x1.getD n3 (default:Y51)).2.1) ((x1.getD n3 (default:Y51)).2.2.1) ((x1.getD n3 (default:Y51)).2.2.2.1) ((x1.getD n3 (default:Y51)).2.2.2.2.1) ((x1.getD n3 (default:Y51)).2.2.2.2.2.1) ((x1.getD n3 (default:Y51)).2.2.2.2.2.2) l4 l5 l6 l7 l8 l9 l10).bind fun(r11:Bool×dZ×dY×Ty5×eF×Ty5×Ty2×Ty3)=>
  if r11.1 then(
  some ((n3:Int),(0:Int))
  )else(
  (f45 ((x1.getD n3 (default:Y51)).1) ((x1.getD n3 (default:Y51)).2.1) ((x1.getD n3 (default:Y51)).2.2.1) ((x1.getD n3 (default:Y51)).2.2.2.1) ((x1.getD n3 (default:Y51)).2.2.2.2.1) ((x1.getD n3 (default:Y51)).2.2.2.2.2.1) ((x1.getD n3 (default:Y51)).2.2.2.2.2.2) r11.2.1 r11.2.2.1 r11.2.2.2.1 r11.2.2.2.2.1 r11.2.2.2.2.2.1 r11.2.2.2.2.2.2.1 r11.2.2.2.2.2.2.2).bind fun(r12:dZ×dY×Ty5×eF×Ty5×Ty2×Ty3)=>
  chk (((n3:Int)+(1:Int))≤9223372036854775807)<|
  (iQ x1 K1 k) ((n3+1),r12.1,r12.2.1,r12.2.2.1,r12.2.2.2.1,r12.2.2.2.2.1,r12.2.2.2.2.2.1,r12.2.2.2.2.2.2)
  )
  )else(
  K1 ()
  )
abbrev f41az0 (r12:dZ×dY×Ty5×eF×Ty5×Ty2×Ty3):aK:=[(6,.cells 115 [.own 6001,.own 6002,.own 6003,.own 6004,.own 6005,.own 6006,.own 6007]),(6001,bP (V.int .i64) 0 cQ [] r12.1),(6002,bP (V.int .i64) 0 cT false r12.2.1),(6003,bP aJ (default:Tq1) bH [] r12.2.2.1),(6004,bP (V.int .i64) 0 cS 0 r12.2.2.2.1),(6005,bP aJ (default:Tq1) bH [] r12.2.2.2.2.1),(6006,bP aZ (default:Tq0) cY false r12.2.2.2.2.2.1),(6007,bP aY (default:Tq1) cX false r12.2.2.2.2.2.2)]
abbrev f41az1 (r2:dZ×dY×Ty5×eF×Ty5×Ty2×Ty3):aK:=[(6,.cells 115 [.own 6001,.own 6002,.own 6003,.own 6004,.own 6005,.own 6006,.own 6007]),(6001,bP (V.int .i64) 0 cQ [] r2.1),(6002,bP (V.int .i64) 0 cT false r2.2.1),(6003,bP aJ (default:Tq1) bH [] r2.2.2.1),(6004,bP (V.int .i64) 0 cS 0 r2.2.2.2.1),(6005,bP aJ (default:Tq1) bH [] r2.2.2.2.2.1),(6006,bP aZ (default:Tq0) cY false r2.2.2.2.2.2.1),(6007,bP aY (default:Tq1) cX false r2.2.2.2.2.2.2)]
abbrev aAE :List V:=[.own 6001,.own 6002,.own 6003,.own 6004,.own 6005,.own 6006,.own 6007]
end Go.Abs
