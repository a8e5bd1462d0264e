/- Part 25 of the proof: X54A, Pl. -/
import Derived.Test.YtfkhgbcggabkjaaGreatDoorMonmadZ24
namespace Go.Abs
open Go Go.Proofs
set_option maxRecDepth 100000
set_option maxHeartbeats 4000000
abbrev f70z0 :List V:=[.own 2002,.own 2003,.own 2004,.own 2005,.own 2006,.own 2007,.own 2008]
def f70 (x1 x2:Int) (x3:aaA) (x4:List Tq5) (x5:List Tq3) (x6:List Ty0) (x7:List Tq1) (x8:List Ty0) (x9:List iB) (x10:List gZ):Option Ty8:=
 some ((!(gM x9 false (x1,x2,x3))),x4,x5,x6,x7,x8,x9,x10)
theorem f70_ok (x1 x2:Int) (x3:aaA) (x4:List Tq5) (x5:List Tq3) (x6:List Ty0) (x7:List Tq1) (x8:List Ty0) (x9:List iB) (x10:List gZ) (r:Bool×gN×gL×Ty5×iA×Ty5×Ty2×Ty3) (h:f70 x1 x2 x3 x4 x5 x6 x7 x8 x9 x10=some r):aE Tryz.prog 70 [] [2000,2001] [(2000,.cells 105 [.ptr 2001 0]),(2001,.cells 115 [.own 2002,.own 2003,.own 2004,.own 2005,.own 2006,.own 2007,.own 2008]),(2002,bP (V.int .i64) 0 cY [] x4),(2003,bP (V.int .i64) 0 dD false x5),(2004,bP aI (default:Tq1) bU [] x6),(2005,bP (V.int .i64) 0 dC 0 x7),(2006,bP aI (default:Tq1) bU [] x8),(2007,bP bF (default:Tq0) dG false x9),(2008,bP bE (default:Tq1) dF false x10)] [.agg [.i x1,.i x2,.str x3],.ptr 2000 0] (.bool r.1) [(2000,.cells 105 [.ptr 2001 0]),(2001,.cells 115 [.own 2002,.own 2003,.own 2004,.own 2005,.own 2006,.own 2007,.own 2008]),(2002,bP (V.int .i64) 0 cY [] r.2.1),(2003,bP (V.int .i64) 0 dD false r.2.2.1),(2004,bP aI (default:Tq1) bU [] r.2.2.2.1),(2005,bP (V.int .i64) 0 dC 0 r.2.2.2.2.1),(2006,bP aI (default:Tq1) bU [] r.2.2.2.2.2.1),(2007,bP bF (default:Tq0) dG false r.2.2.2.2.2.2.1),(2008,bP bE (default:Tq1) dF false r.2.2.2.2.2.2.2)]:=by
 unfold f70 at h;refine aE.body 0 _ _ Tryz.func70 rfl Tryz.ntmps70 rfl rfl ?_;refine aN [] [] [1,2] [2,2000,2001,2002,2003,2004,2005,2006,2007,2008] trivial ?_;refine bJ [] [(5,⟨[.own 2007,.agg [.i x1,.i x2,.str x3]],[2007],[2007],[(2007,bP bF aZ dG false x9)],.bool (gM x9 false (x1,x2,x3)),[],[],[]⟩)] ⟨11,[(3,.bool (!(gM x9 false (x1,x2,x3))))],((2000,.cells 105 [.ptr 2001 0])::(2001,.cells 115 (f70z0))::qmp 2002 x4 x5 x6 x7 x8 x9 x10),[2000,2001],0⟩ (an1 (aaM (eH (P:=Tryz.prog) Tryz.underlying112 bF kE112 aZ dG false false (by kernel_rfl) (.tmp 7) (.tmp 8) 4 2007 x9 (x1,x2,x3)) (eF.same [.own 2007,.agg [.i x1,.i x2,.str x3]]))) ?_;obtain rfl:=aaD h;refine aaG ?_;exact bK
def fP (x1:List Tq0) (K1:Ty7->Option Ty10):Nat->Ty11->Option Ty10
 |0,_=>none
 |k+1,(n9,l10,l11,l12,l13,l14,l15,l16)=>
  if(decide ((n9:Int)<(((x1).length:Nat):Int)))then(
  (f70 ((x1.getD n9 (default:Tq0)).1) ((x1.getD n9 (default:Tq0)).2.1) ((x1.getD n9 (default:Tq0)).2.2) l10 l11 l12 l13 l14 l15 l16).bind fun r17=>
  chk ((n9:Int)<(((x1).length:Nat):Int))<|
  if r17.1 then(
  some ((n9:Int),r17.2.1,r17.2.2.1,r17.2.2.2.1,r17.2.2.2.2.1,r17.2.2.2.2.2.1,r17.2.2.2.2.2.2.1,r17.2.2.2.2.2.2.2)
  )else(
  chk (((n9:Int)+(1:Int))<=9223372036854775807)<|
  (fP x1 K1 k) ((n9+1),r17.2.1,r17.2.2.1,r17.2.2.2.1,r17.2.2.2.2.1,r17.2.2.2.2.2.1,r17.2.2.2.2.2.2.1,r17.2.2.2.2.2.2.2)
  )
  )else(
  K1 (l10,l11,l12,l13,l14,l15,l16)
  )
abbrev zP (r17:Bool×gN×gL×Ty5×iA×Ty5×Ty2×Ty3):aJ:=[(2000,.cells 105 [.ptr 2001 0]),(2001,.cells 115 [.own 2002,.own 2003,.own 2004,.own 2005,.own 2006,.own 2007,.own 2008]),(2002,bP (V.int .i64) 0 cY [] r17.2.1),(2003,bP (V.int .i64) 0 dD false r17.2.2.1),(2004,bP aI (default:Tq1) bU [] r17.2.2.2.1),(2005,bP (V.int .i64) 0 dC 0 r17.2.2.2.2.1),(2006,bP aI (default:Tq1) bU [] r17.2.2.2.2.2.1),(2007,bP bF (default:Tq0) dG false r17.2.2.2.2.2.2.1),(2008,bP bE (default:Tq1) dF false r17.2.2.2.2.2.2.2)]
abbrev f100az1 (l10:List Tq5) (l11:List Tq3) (l12:List Ty0) (l13:List Tq1) (l14:List Ty0) (l15:List iB) (l16:List gZ):aJ:=[(2000,.cells 105 [.ptr 2001 0]),(2001,.cells 115 [.own 2002,.own 2003,.own 2004,.own 2005,.own 2006,.own 2007,.own 2008]),(2002,bP (V.int .i64) 0 cY [] l10),(2003,bP (V.int .i64) 0 dD false l11),(2004,bP aI (default:Tq1) bU [] l12),(2005,bP (V.int .i64) 0 dC 0 l13),(2006,bP aI (default:Tq1) bU [] l14),(2007,bP bF (default:Tq0) dG false l15),(2008,bP bE (default:Tq1) dF false l16)]
abbrev f100az2 (x2:List Tq5) (x3:List Tq3) (x4:List Ty0) (x5:List Tq1) (x6:List Ty0) (x7:List iB) (x8:List gZ):aJ:=[(2000,.cells 105 [.ptr 2001 0]),(2001,.cells 115 [.own 2002,.own 2003,.own 2004,.own 2005,.own 2006,.own 2007,.own 2008]),(2002,bP (V.int .i64) 0 cY [] x2),(2003,bP (V.int .i64) 0 dD false x3),(2004,bP aI (default:Tq1) bU [] x4),(2005,bP (V.int .i64) 0 dC 0 x5),(2006,bP aI (default:Tq1) bU [] x6),(2007,bP bF (default:Tq0) dG false x7),(2008,bP bE (default:Tq1) dF false x8)]
abbrev f100az3 (l18:List Tq5) (l19:List Tq3) (l20:List Ty0) (l21:List Tq1) (l22:List Ty0) (l23:List iB) (l24:List gZ):aJ:=[(2000,.cells 105 [.ptr 2001 0]),(2001,.cells 115 [.own 2002,.own 2003,.own 2004,.own 2005,.own 2006,.own 2007,.own 2008]),(2002,bP (V.int .i64) 0 cY [] l18),(2003,bP (V.int .i64) 0 dD false l19),(2004,bP aI (default:Tq1) bU [] l20),(2005,bP (V.int .i64) 0 dC 0 l21),(2006,bP aI (default:Tq1) bU [] l22),(2007,bP bF (default:Tq0) dG false l23),(2008,bP bE (default:Tq1) dF false l24)]
abbrev tK :=Ty5
def f100a (x1:List Tq0) (x2:List Tq5) (x3:List Tq3) (x4:List Ty0) (x5:List Tq1) (x6:List Ty0) (x7:List iB) (x8:List gZ):Option Ty10:=
 jn (fun((l18,l19,l20,l21,l22,l23,l24):gN×gL×Ty5×iA×Ty5×Ty2×Ty3)=>
 some ((-1:Int),l18,l19,l20,l21,l22,l23,l24)
 ) fun(K1:Ty7->Option Ty10)=>
 fP x1 K1 bB (0,x2,x3,x4,x5,x6,x7,x8)
theorem f100a_ok (x1:List Tq0) (x2:List Tq5) (x3:List Tq3) (x4:List Ty0) (x5:List Tq1) (x6:List Ty0) (x7:List iB) (x8:List gZ) (r:Int×gN×gL×Ty5×iA×Ty5×Ty2×Ty3) (h:f100a x1 x2 x3 x4 x5 x6 x7 x8=some r):aE Tryz.prog 100 [] [2000,2001] [(2000,.cells 105 [.ptr 2001 0]),(2001,.cells 115 [.own 2002,.own 2003,.own 2004,.own 2005,.own 2006,.own 2007,.own 2008]),(2002,bP (V.int .i64) 0 cY [] x2),(2003,bP (V.int .i64) 0 dD false x3),(2004,bP aI (default:Tq1) bU [] x4),(2005,bP (V.int .i64) 0 dC 0 x5),(2006,bP aI (default:Tq1) bU [] x6),(2007,bP bF (default:Tq0) dG false x7),(2008,bP bE (default:Tq1) dF false x8)] [vL 3 bX (default:Tq0) x1,.fn (.func 70) [.ptr 2000 0]] (.i r.1) [(2000,.cells 105 [.ptr 2001 0]),(2001,.cells 115 [.own 2002,.own 2003,.own 2004,.own 2005,.own 2006,.own 2007,.own 2008]),(2002,bP (V.int .i64) 0 cY [] r.2.1),(2003,bP (V.int .i64) 0 dD false r.2.2.1),(2004,bP aI (default:Tq1) bU [] r.2.2.2.1),(2005,bP (V.int .i64) 0 dC 0 r.2.2.2.2.1),(2006,bP aI (default:Tq1) bU [] r.2.2.2.2.2.1),(2007,bP bF (default:Tq0) dG false r.2.2.2.2.2.2.1),(2008,bP bE (default:Tq1) dF false r.2.2.2.2.2.2.2)]:=by
 unfold f100a at h;refine aE.body 0 _ _ Tryz.func100 rfl Tryz.ntmps100 rfl rfl ?_;refine aN [] [] [0,1] [2000,2001,2002,2003,2004,2005,2006,2007,2008] trivial ?_;obtain⟨K1,hK1,h⟩:=aO h;refine aaU (fun(x:gN×gL×(tK)×iA×(tK)×Ty2×Ty3)=>match x with|(l18,l19,l20,l21,l22,l23,l24)=>⟨19,[],(f100az3 l18 l19 l20 l21 l22 l23 l24),[2000,2001],0⟩) (fun x=>K1 x=some r) ?_ ?_
 ·refine bJ [] [] ⟨19,[(0,bC x1),(1,.fn (.func 70) [.ptr 2000 0]),(7,.i (lZ x1)),(8,.i (0:Int))],(f100az2 x2 x3 x4 x5 x6 x7 x8),[2000,2001],0⟩ trivial ?_;refine aaJ (abI (α:=Nat×(Nat×gN×gL×(tK)×iA×(tK)×Ty2×Ty3)) (fun x=>match x with|(_,n9,l10,l11,l12,l13,l14,l15,l16)=>⟨19,[(0,bC x1),(1,.fn (.func 70) [.ptr 2000 0]),(7,.i (lZ x1)),(8,.i (n9:Int))],(f100az1 l10 l11 l12 l13 l14 l15 l16),[2000,2001],0⟩) (fun x=>fP x1 K1 x.1 x.2=some r) (fun x=>x.1) (bB,0,x2,x3,x4,x5,x6,x7,x8) LR h ?_)
  rintro⟨k0,n9,l10,l11,l12,l13,l14,l15,l16⟩ h
  cases k0 with
  |zero=>exact nEx h
  |succ k0=>
  obtain⟨C0,hC0⟩:∃C,C=fP x1 K1 k0:=⟨_,rfl⟩;replace h:=(fP.eq_2 ..).symm.trans h
  try rw[<-hC0]at h
  refine aN [] [] [0,1,7,8,9] [2000,2001,2002,2003,2004,2005,2006,2007,2008] trivial ?_;refine aaE (cK (decide ((n9:Int)<(lZ x1))) (fun hc1=> ?_) fun hc1=> ?_)
  ·replace h:=aF hc1 h;refine aaF (tN (aaE (aaJ (aN [] [] [0,1,5,7,8] [2000,2001,2002,2003,2004,2005,2006,2007,2008] trivial ?_))));refine aaE ?_;obtain⟨r17,hr17,h⟩:=bind_ok h;obtain⟨ob0p,h⟩:=aB h;refine bH [] [(5,⟨[.agg [.i (x1.getD n9 aZ).1,.i (x1.getD n9 aZ).2.1,.str (x1.getD n9 aZ).2.2],.ptr 2000 0],[2000,2001,2002,2003,2004,2005,2006,2007,2008],[2000,2001],(zP r17),.bool r17.1,[2002,2003,2004,2005,2006,2007,2008],[],[]⟩)] ⟨19,[(0,bC x1),(1,.fn (.func 70) [.ptr 2000 0]),(5,.i (n9:Int)),(7,.i (lZ x1)),(8,.i (n9:Int)),(16,.bool r17.1)],(zP r17),[2000,2001],0⟩ (an2 (iN ob0p) (cpT (f70_ok _ _ _ _ _ _ _ _ _ _ _ hr17))) ?_;refine tN (cK r17.1 (fun hc2=> ?_) fun hc2=> ?_)
   ·replace h:=aF hc2 h;refine aN [] [] [4] [2000,2001,2002,2003,2004,2005,2006,2007,2008] trivial ?_;obtain rfl:=aaD h;refine aaG (kR (tR (tR (kR (aS ?_)))));exact bK
   ·replace h:=aG hc2 h;refine aaF (kN (tN ?_));obtain⟨ob1p,h⟩:=aB h;refine bH [] [] ⟨19,[(0,bC x1),(1,.fn (.func 70) [.ptr 2000 0]),(7,.i (lZ x1)),(8,.i (((n9+1):Nat):Int))],(zP r17),[2000,2001],0⟩ (an1 (iP ob1p)) ?_;rw[hC0]at h;exact lN (_,(n9+1),r17.2.1,r17.2.2.1,r17.2.2.2.1,r17.2.2.2.2.1,r17.2.2.2.2.2.1,r17.2.2.2.2.2.2.1,r17.2.2.2.2.2.2.2) LR h (aaK _)
  ·replace h:=aG hc1 h;refine abK (tE (tE (kS ?_)));exact jN (l10,l11,l12,l13,l14,l15,l16) LR h
 ·rintro⟨l18,l19,l20,l21,l22,l23,l24⟩ h;replace h:=(congrFun hK1 _).symm.trans h;refine aN [] [] [4] [2000,2001,2002,2003,2004,2005,2006,2007,2008] trivial ?_;obtain rfl:=aaD h;refine aaG ?_;exact bK
abbrev f69az0 (r9:Int×gN×gL×Ty5×iA×Ty5×Ty2×Ty3):aJ:=[(2000,.cells 105 [.ptr 2001 0]),(2001,.cells 115 [.own 2002,.own 2003,.own 2004,.own 2005,.own 2006,.own 2007,.own 2008]),(2002,bP (V.int .i64) 0 cY [] r9.2.1),(2003,bP (V.int .i64) 0 dD false r9.2.2.1),(2004,bP aI (default:Tq1) bU [] r9.2.2.2.1),(2005,bP (V.int .i64) 0 dC 0 r9.2.2.2.2.1),(2006,bP aI (default:Tq1) bU [] r9.2.2.2.2.2.1),(2007,bP bF (default:Tq0) dG false r9.2.2.2.2.2.2.1),(2008,bP bE (default:Tq1) dF false r9.2.2.2.2.2.2.2)]
def f69a (x1:List Tq0) (x2:List Tq5) (x3:List Tq3) (x4:List Ty0) (x5:List Tq1) (x6:List Ty0) (x7:List iB) (x8:List gZ):Option Ty8:=
 (f100a x1 x2 x3 x4 x5 x6 x7 x8).bind fun r9=>
 some ((decide (r9.1>=(0:Int))),r9.2.1,r9.2.2.1,r9.2.2.2.1,r9.2.2.2.2.1,r9.2.2.2.2.2.1,r9.2.2.2.2.2.2.1,r9.2.2.2.2.2.2.2)
theorem f69a_ok (x1:List Tq0) (x2:List Tq5) (x3:List Tq3) (x4:List Ty0) (x5:List Tq1) (x6:List Ty0) (x7:List iB) (x8:List gZ) (r:Bool×gN×gL×Ty5×iA×Ty5×Ty2×Ty3) (h:f69a x1 x2 x3 x4 x5 x6 x7 x8=some r):aE Tryz.prog 69 [] [2000,2001] [(2000,.cells 105 [.ptr 2001 0]),(2001,.cells 115 [.own 2002,.own 2003,.own 2004,.own 2005,.own 2006,.own 2007,.own 2008]),(2002,bP (V.int .i64) 0 cY [] x2),(2003,bP (V.int .i64) 0 dD false x3),(2004,bP aI (default:Tq1) bU [] x4),(2005,bP (V.int .i64) 0 dC 0 x5),(2006,bP aI (default:Tq1) bU [] x6),(2007,bP bF (default:Tq0) dG false x7),(2008,bP bE (default:Tq1) dF false x8)] [vL 3 bX (default:Tq0) x1,.fn (.func 70) [.ptr 2000 0]] (.bool r.1) [(2000,.cells 105 [.ptr 2001 0]),(2001,.cells 115 [.own 2002,.own 2003,.own 2004,.own 2005,.own 2006,.own 2007,.own 2008]),(2002,bP (V.int .i64) 0 cY [] r.2.1),(2003,bP (V.int .i64) 0 dD false r.2.2.1),(2004,bP aI (default:Tq1) bU [] r.2.2.2.1),(2005,bP (V.int .i64) 0 dC 0 r.2.2.2.2.1),(2006,bP aI (default:Tq1) bU [] r.2.2.2.2.2.1),(2007,bP bF (default:Tq0) dG false r.2.2.2.2.2.2.1),(2008,bP bE (default:Tq1) dF false r.2.2.2.2.2.2.2)]:=by
 unfold f69a at h;refine aE.body 0 _ _ Tryz.func69 rfl Tryz.ntmps69 rfl rfl ?_;refine aN [] [] [0,1] [2000,2001,2002,2003,2004,2005,2006,2007,2008] trivial ?_;refine aaE ?_;obtain⟨r9,hr9,h⟩:=bind_ok h;refine bH [] [(2,⟨[bC x1,.fn (.func 70) [.ptr 2000 0]],[2000,2001,2002,2003,2004,2005,2006,2007,2008],[2000,2001],(f69az0 r9),.i r9.1,[2002,2003,2004,2005,2006,2007,2008],[],[]⟩)] ⟨9,[(4,.bool (decide (r9.1>=(0:Int))))],(f69az0 r9),[2000,2001],0⟩ (an1 (cpT (f100a_ok _ _ _ _ _ _ _ _ _ hr9))) ?_;refine tN ?_;obtain rfl:=aaD h;refine aaG ?_;exact bK
abbrev f48z0 :List V:=[.own 2001,.own 2002,.own 2003,.own 2004,.own 2005,.own 2006,.own 2007]
abbrev f48z1 (x1 x2 x3 x4 x5:Int) (x6 x7:aaA):List V:=[.i x1,.i x2,.i x3,.i x4,.i x5,.str x6,.str x7,.opq,.opq,.opq,.opq,.opq,.opq,.opq,.opq,.opq,.opq,.opq,.opq,.opq,.opq,.opq,.opq,.opq,.opq,.opq,.opq,.opq]
abbrev f48z2 (r15:Int×Int×Ty4×Int):List V:=[.i r15.1,.i r15.2.1,vL 3 bX (default:Tq0) r15.2.2.1]
def f48 (x1 x2 x3 x4 x5:Int) (x6 x7:aaA) (x8:List Tq5) (x9:List Tq3) (x10:List Ty0) (x11:List Tq1) (x12:List Ty0) (x13:List iB) (x14:List gZ):Option Ty8:=
 (f68 x6).bind fun r15=>
 (f50 x1 x2 x3 x4 x5 x6 x7).bind fun r16=>
 if((!r16.2)||(r15.2.2.2 !=(0:Int)))then(
 some (false,x8,x9,x10,x11,x12,x13,x14)
 )else(
 (f69a r15.2.2.1 x8 x9 x10 x11 x12 x13 x14).bind fun r17=>
 some (r17.1,r17.2.1,r17.2.2.1,r17.2.2.2.1,r17.2.2.2.2.1,r17.2.2.2.2.2.1,r17.2.2.2.2.2.2.1,r17.2.2.2.2.2.2.2)
 )
theorem f48_ok (x1 x2 x3 x4 x5:Int) (x6 x7:aaA) (x8:List Tq5) (x9:List Tq3) (x10:List Ty0) (x11:List Tq1) (x12:List Ty0) (x13:List iB) (x14:List gZ) (r:Bool×gN×gL×Ty5×iA×Ty5×Ty2×Ty3) (h:f48 x1 x2 x3 x4 x5 x6 x7 x8 x9 x10 x11 x12 x13 x14=some r):aE Tryz.prog 48 [(1,pT),(2,bV),(3,bV)] [2000] [(2000,.cells 115 [.own 2001,.own 2002,.own 2003,.own 2004,.own 2005,.own 2006,.own 2007]),(2001,bP (V.int .i64) 0 cY [] x8),(2002,bP (V.int .i64) 0 dD false x9),(2003,bP aI (default:Tq1) bU [] x10),(2004,bP (V.int .i64) 0 dC 0 x11),(2005,bP aI (default:Tq1) bU [] x12),(2006,bP bF (default:Tq0) dG false x13),(2007,bP bE (default:Tq1) dF false x14)] [.ptr 2000 0,.agg [.i x1,.i x2,.i x3,.i x4,.i x5,.str x6,.str x7,.opq,.opq,.opq,.opq,.opq,.opq,.opq,.opq,.opq,.opq,.opq,.opq,.opq,.opq,.opq,.opq,.opq,.opq,.opq,.opq,.opq]] (.bool r.1) [(2000,.cells 115 [.own 2001,.own 2002,.own 2003,.own 2004,.own 2005,.own 2006,.own 2007]),(2001,bP (V.int .i64) 0 cY [] r.2.1),(2002,bP (V.int .i64) 0 dD false r.2.2.1),(2003,bP aI (default:Tq1) bU [] r.2.2.2.1),(2004,bP (V.int .i64) 0 dC 0 r.2.2.2.2.1),(2005,bP aI (default:Tq1) bU [] r.2.2.2.2.2.1),(2006,bP bF (default:Tq0) dG false r.2.2.2.2.2.2.1),(2007,bP bE (default:Tq1) dF false r.2.2.2.2.2.2.2)]:=by
 unfold f48 at h;refine aE.body 0 _ _ Tryz.func48 rfl Tryz.ntmps48 rfl rfl ?_;refine aN [] [] [2,3,1000001,1000002,1000003] [2,3,2000,2001,2002,2003,2004,2005,2006,2007] trivial ?_;refine aaE ?_;obtain⟨r15,hr15,h⟩:=bind_ok h;refine bG [] [(2,⟨[.str x6],[],[],[],.tup [.agg (f48z2 r15),.i r15.2.2.2],[],[],[1,2,3]⟩)] [2,3,5,6,1000001,1000002,1000003] [2,3,5,2000,2001,2002,2003,2004,2005,2006,2007] (an2 (cpT (f68_ok _ _ hr15)) trivial) ?_;refine tN (aaE (aaE ?_));obtain⟨r16,hr16,h⟩:=bind_ok h;refine bG [] [(1,⟨[.agg (f48z1 x1 x2 x3 x4 x5 x6 x7)],[],[],[],.tup [.i r16.1,.bool r16.2],[],[],[]⟩)] [2,5,6,8,1000001,1000002,1000003] [2,5,2000,2001,2002,2003,2004,2005,2006,2007] (an1 (cpT (wG _ _ _ _ _ _ _ _ hr16))) ?_;refine tN (aaE (bG [] [] [2,5,25,1000001,1000002,1000003] [2,5,2000,2001,2002,2003,2004,2005,2006,2007] (an2 (an1 (idA (((!r16.2)==false)=true))) (bqA (!r16.2) false)) ?_));refine tN (cK ((!r16.2)||(r15.2.2.2 !=(0:Int))) (fun hc1=> ?_) fun hc1=> ?_)
 ·replace h:=aF hc1 h;refine bJ [] [] ⟨30,[(4,.bool false)],((2000,.cells 115 (f48z0))::qmp 2001 x8 x9 x10 x11 x12 x13 x14),[2000],0⟩ trivial ?_;obtain rfl:=aaD h;refine aaG (tR ?_);exact bK
 ·replace h:=aG hc1 h;refine aaF (tN (aaE ?_));obtain⟨r17,hr17,h⟩:=bind_ok h;refine bH [] [(3,⟨[bC r15.2.2.1,.fn (.func 70) [.ptr 2 0]],[2,2000,2001,2002,2003,2004,2005,2006,2007],[2,2000],((2,.cells 105 [.ptr 2000 0])::(2000,.cells 115 (f48z0))::qmp 2001 r17.2.1 r17.2.2.1 r17.2.2.2.1 r17.2.2.2.2.1 r17.2.2.2.2.2.1 r17.2.2.2.2.2.2.1 r17.2.2.2.2.2.2.2),.bool r17.1,[2001,2002,2003,2004,2005,2006,2007],[],[]⟩)] ⟨30,[(4,.bool r17.1)],((2000,.cells 115 (f48z0))::qmp 2001 r17.2.1 r17.2.2.1 r17.2.2.2.1 r17.2.2.2.2.1 r17.2.2.2.2.2.1 r17.2.2.2.2.2.2.1 r17.2.2.2.2.2.2.2),[2000],0⟩ (an1 (cpT (aE.ren (aT 2008 2007) (aD 2008 2007) rfl (aE.ren (aT 2007 2006) (aD 2007 2006) rfl (aE.ren (aT 2006 2005) (aD 2006 2005) rfl (aE.ren (aT 2005 2004) (aD 2005 2004) rfl (aE.ren (aT 2004 2003) (aD 2004 2003) rfl (aE.ren (aT 2003 2002) (aD 2003 2002) rfl (aE.ren (aT 2002 2001) (aD 2002 2001) rfl (aE.ren (aT 2001 2000) (aD 2001 2000) rfl (aE.ren (aT 2000 2) (aD 2000 2) rfl (f69a_ok _ _ _ _ _ _ _ _ _ hr17)))))))))))) ?_;refine tN ?_;obtain rfl:=aaD h;refine aaG ?_;exact bK
def jC (x1:List Y51) (K1:Unit->Option Tq1):Nat->Ty11->Option Tq1
 |0,_=>none
 |k+1,(n3,l4,l5,l6,l7,l8,l9,l10)=>
  if(decide ((n3:Int)<(((x1).length:Nat):Int)))then(
  chk ((n3:Int)<(((x1).length:Nat):Int))<|
  (f48 ((x1.getD n3 (default:Y51)).1) ((x1.getD n3 (default:Y51)).2.1) ((x1.getD n3 (default:Y51)).2.2.1) ((x1.getD n3 (default:Y51)).2.2.2.1) ((x1.getD n3 (default:Y51)).2.2.2.2.1) ((x1.getD n3 (default:Y51)).2.2.2.2.2.1) ((x1.getD n3 (default:Y51)).2.2.2.2.2.2) l4 l5 l6 l7 l8 l9 l10).bind fun r11=>
  if r11.1 then(
  some ((n3:Int),(0:Int))
  )else(
  (f45 ((x1.getD n3 (default:Y51)).1) ((x1.getD n3 (default:Y51)).2.1) ((x1.getD n3 (default:Y51)).2.2.1) ((x1.getD n3 (default:Y51)).2.2.2.1) ((x1.getD n3 (default:Y51)).2.2.2.2.1) ((x1.getD n3 (default:Y51)).2.2.2.2.2.1) ((x1.getD n3 (default:Y51)).2.2.2.2.2.2) r11.2.1 r11.2.2.1 r11.2.2.2.1 r11.2.2.2.2.1 r11.2.2.2.2.2.1 r11.2.2.2.2.2.2.1 r11.2.2.2.2.2.2.2).bind fun r12=>
  chk (((n3:Int)+(1:Int))<=9223372036854775807)<|
  (jC x1 K1 k) ((n3+1),r12.1,r12.2.1,r12.2.2.1,r12.2.2.2.1,r12.2.2.2.2.1,r12.2.2.2.2.2.1,r12.2.2.2.2.2.2)
  )
  )else(
  K1 ()
  )
abbrev f41bz0 (r12:gN×gL×Ty5×iA×Ty5×Ty2×Ty3):aJ:=[(6,.cells 115 [.own 6001,.own 6002,.own 6003,.own 6004,.own 6005,.own 6006,.own 6007]),(6001,bP (V.int .i64) 0 cY [] r12.1),(6002,bP (V.int .i64) 0 dD false r12.2.1),(6003,bP aI (default:Tq1) bU [] r12.2.2.1),(6004,bP (V.int .i64) 0 dC 0 r12.2.2.2.1),(6005,bP aI (default:Tq1) bU [] r12.2.2.2.2.1),(6006,bP bF (default:Tq0) dG false r12.2.2.2.2.2.1),(6007,bP bE (default:Tq1) dF false r12.2.2.2.2.2.2)]
abbrev f41bz1 (r2:gN×gL×Ty5×iA×Ty5×Ty2×Ty3):aJ:=[(6,.cells 115 [.own 6001,.own 6002,.own 6003,.own 6004,.own 6005,.own 6006,.own 6007]),(6001,bP (V.int .i64) 0 cY [] r2.1),(6002,bP (V.int .i64) 0 dD false r2.2.1),(6003,bP aI (default:Tq1) bU [] r2.2.2.1),(6004,bP (V.int .i64) 0 dC 0 r2.2.2.2.1),(6005,bP aI (default:Tq1) bU [] r2.2.2.2.2.1),(6006,bP bF (default:Tq0) dG false r2.2.2.2.2.2.1),(6007,bP bE (default:Tq1) dF false r2.2.2.2.2.2.2)]
abbrev aAJ :List V:=[.own 6001,.own 6002,.own 6003,.own 6004,.own 6005,.own 6006,.own 6007]
def f41b (x1:List Y51):Option Tq1:=
 (f44).bind fun r2=>
 jn (fun(_:Unit)=>
 some ((0:Int),(13:Int))
 ) fun(K1:Unit->Option Tq1)=>
 jC x1 K1 bB (0,r2.1,r2.2.1,r2.2.2.1,r2.2.2.2.1,r2.2.2.2.2.1,r2.2.2.2.2.2.1,r2.2.2.2.2.2.2)
theorem f41b_ok (x1:List Y51) (r:Tq1) (h:f41b x1=some r):aE Tryz.prog 41 [(1,pT),(2,bV),(3,bV)] [] [] [vL 28 kT (default:Y51) x1,.fn (.func 48) []] (.tup [.i r.1,.i r.2]) []:=by
 unfold f41b at h;refine aE.body 0 _ _ Tryz.func41 rfl Tryz.ntmps41 rfl rfl ?_;refine aN [] [] [0,1,1000001,1000002,1000003] [] trivial ?_;refine aaE ?_;obtain⟨r2,hr2,h⟩:=bind_ok h;refine bH [] [(0,⟨[],[],[],(qmp 6001 r2.1 r2.2.1 r2.2.2.1 r2.2.2.2.1 r2.2.2.2.2.1 r2.2.2.2.2.2.1 r2.2.2.2.2.2.2),.agg (aAJ),[6001,6002,6003,6004,6005,6006,6007],[],[]⟩)] ⟨24,[(0,aQ x1),(1,.fn (.func 48) []),(6,.ptr 6 0),(1000001,pT),(1000002,bV),(1000003,bV)],(f41bz1 r2),[],0⟩ (an2 (cpT (aE.ren (aT 3006 6007) (aD 3006 6007) rfl (aE.ren (aT 3005 6006) (aD 3005 6006) rfl (aE.ren (aT 3004 6005) (aD 3004 6005) rfl (aE.ren (aT 3003 6004) (aD 3003 6004) rfl (aE.ren (aT 3002 6003) (aD 3002 6003) rfl (aE.ren (aT 3001 6002) (aD 3001 6002) rfl (aE.ren (aT 3000 6001) (aD 3000 6001) rfl (aAI _ hr2))))))))) trivial) ?_;refine tN ?_;obtain⟨K1,hK1,h⟩:=aO h;refine aaU (fun(x:Unit)=>match x with|()=>⟨24,[(1000001,pT),(1000002,bV),(1000003,bV)],[],[],0⟩) (fun x=>K1 x=some r) ?_ ?_
 ·refine aN [] [] [1,6,10,11,12,1000001,1000002,1000003] [6,6001,6002,6003,6004,6005,6006,6007] trivial ?_;refine aaJ (abI (α:=Nat×Ty11) (fun x=>match x with|(_,n3,l4,l5,l6,l7,l8,l9,l10)=>⟨24,[(1,.fn (.func 48) []),(6,.ptr 6 0),(10,aQ x1),(11,.i (lZ x1)),(12,.i (n3:Int)),(1000001,pT),(1000002,bV),(1000003,bV)],((6,.cells 115 (aAJ))::qmp 6001 l4 l5 l6 l7 l8 l9 l10),[],0⟩) (fun x=>jC x1 K1 x.1 x.2=some r) (fun x=>x.1) (bB,0,r2.1,r2.2.1,r2.2.2.1,r2.2.2.2.1,r2.2.2.2.2.1,r2.2.2.2.2.2.1,r2.2.2.2.2.2.2) LR h ?_)
  rintro⟨k0,n3,l4,l5,l6,l7,l8,l9,l10⟩ h
  cases k0 with
  |zero=>exact nEx h
  |succ k0=>
  obtain⟨C0,hC0⟩:∃C,C=jC x1 K1 k0:=⟨_,rfl⟩;replace h:=(jC.eq_2 ..).symm.trans h
  try rw[<-hC0]at h
  refine bJ [] [] ⟨24,[(1,.fn (.func 48) []),(6,.ptr 6 0),(10,aQ x1),(11,.i (lZ x1)),(12,.i (n3:Int)),(13,.bool (decide ((n3:Int)<(lZ x1)))),(1000001,pT),(1000002,bV),(1000003,bV)],((6,.cells 115 (aAJ))::qmp 6001 l4 l5 l6 l7 l8 l9 l10),[],0⟩ trivial ?_;refine aaE (cK (decide ((n3:Int)<(lZ x1))) (fun hc1=> ?_) fun hc1=> ?_)
  ·replace h:=aF hc1 h;refine aaF (tN (aaE (aaJ (aaE ?_))));obtain⟨ob0p,h⟩:=aB h;refine bG [] [] [1,6,7,8,10,11,12,1000001,1000002,1000003] [6,8,6001,6002,6003,6004,6005,6006,6007] (an2 (iN ob0p) trivial) ?_;refine tN (aaE (aaE ?_));obtain⟨r11,hr11,h⟩:=bind_ok h;refine bG [] [(2,⟨[.ptr 6 0,.agg (qpt (x1.getD n3 aH))],[6,6001,6002,6003,6004,6005,6006,6007],[6],((6,.cells 115 (aAJ))::qmp 6001 r11.2.1 r11.2.2.1 r11.2.2.2.1 r11.2.2.2.2.1 r11.2.2.2.2.2.1 r11.2.2.2.2.2.2.1 r11.2.2.2.2.2.2.2),.bool r11.1,[6001,6002,6003,6004,6005,6006,6007],[],[1,2,3]⟩)] [1,6,7,8,10,11,12,19,1000001,1000002,1000003] [6,8,6001,6002,6003,6004,6005,6006,6007] (an1 (cpT (aE.ren (aT 2007 6007) (aD 2007 6007) rfl (aE.ren (aT 2006 6006) (aD 2006 6006) rfl (aE.ren (aT 2005 6005) (aD 2005 6005) rfl (aE.ren (aT 2004 6004) (aD 2004 6004) rfl (aE.ren (aT 2003 6003) (aD 2003 6003) rfl (aE.ren (aT 2002 6002) (aD 2002 6002) rfl (aE.ren (aT 2001 6001) (aD 2001 6001) rfl (aE.ren (aT 2000 6) (aD 2000 6) rfl (f48_ok _ _ _ _ _ _ _ _ _ _ _ _ _ _ _ hr11))))))))))) ?_;refine tN (cK r11.1 (fun hc2=> ?_) fun hc2=> ?_)
   ·replace h:=aF hc2 h;refine bJ [] [] ⟨24,[(4,.i (n3:Int)),(5,.i (0:Int))],[],[],0⟩ trivial ?_;obtain rfl:=aaD h;refine aaG (tR (kR (tR (tR (kR (aS ?_))))));exact bK
   ·replace h:=aG hc2 h;refine aaF (tN ?_);obtain⟨r12,hr12,h⟩:=bind_ok h;refine bG [] [(1,⟨[.ptr 6 0,.agg (qpt (x1.getD n3 aH))],[6,6001,6002,6003,6004,6005,6006,6007],[6],(f41bz0 r12),.tup [],[6001,6002,6003,6004,6005,6006,6007],[],[]⟩)] [1,6,10,11,12,1000001,1000002,1000003] [6,6001,6002,6003,6004,6005,6006,6007] (an1 (cpT (aE.ren (aT 2007 6007) (aD 2007 6007) rfl (aE.ren (aT 2006 6006) (aD 2006 6006) rfl (aE.ren (aT 2005 6005) (aD 2005 6005) rfl (aE.ren (aT 2004 6004) (aD 2004 6004) rfl (aE.ren (aT 2003 6003) (aD 2003 6003) rfl (aE.ren (aT 2002 6002) (aD 2002 6002) rfl (aE.ren (aT 2001 6001) (aD 2001 6001) rfl (aE.ren (aT 2000 6) (aD 2000 6) rfl (aAH _ _ _ _ _ _ _ _ _ _ _ _ _ _ _ hr12))))))))))) ?_;refine kN (tN ?_);obtain⟨ob1p,h⟩:=aB h;refine bH [] [] ⟨24,[(1,.fn (.func 48) []),(6,.ptr 6 0),(10,aQ x1),(11,.i (lZ x1)),(12,.i (((n3+1):Nat):Int)),(1000001,pT),(1000002,bV),(1000003,bV)],(f41bz0 r12),[],0⟩ (an1 (iP ob1p)) ?_;rw[hC0]at h;exact lN (_,(n3+1),r12.1,r12.2.1,r12.2.2.1,r12.2.2.2.1,r12.2.2.2.2.1,r12.2.2.2.2.2.1,r12.2.2.2.2.2.2) LR h (aaK _)
  ·replace h:=aG hc1 h;refine abK (tE (tE (kS ?_)));exact jN () LR h
 ·rintro⟨⟩ h;replace h:=(congrFun hK1 _).symm.trans h;refine aN [] [] [4,5] [] trivial ?_;obtain rfl:=aaD h;refine aaG ?_;exact bK
def f20 (x1:List Ty1) (x2:List (aaA×BitVec 16)) (x3:BitVec 16) (x4:List Ty9) (x5:List Int) (x6:List (aaA×Bool×(List Tq7))) (x7:List Y51):Option Tq1:=
 (f41b x7).bind fun r8=>
 some (r8.1,r8.2)
theorem f20_ok (x1:List Ty1) (x2:List (aaA×BitVec 16)) (x3:BitVec 16) (x4:List Ty9) (x5:List Int) (x6:List (aaA×Bool×(List Tq7))) (x7:List Y51) (r:Tq1) (h:f20 x1 x2 x3 x4 x5 x6 x7=some r):aE Tryz.prog 20 [(1,pT),(2,bV),(3,bV)] [] [] [.agg [vL 1 eS [] x1,vL 2 eSW (default:aaA×BitVec 16) x2,.b16 x3,vL 6 eT73 (default:aaA×Int×BitVec 16×aaB×aaB×(List Tq7)) x4,vL 1 eI 0 x5,vL 3 fZ (default:aaA×Bool×(List Tq7)) x6],vL 28 kT (default:Y51) x7] (.tup [.i r.1,.i r.2]) []:=by
 unfold f20 at h;refine aE.body 0 _ _ Tryz.func20 rfl Tryz.ntmps20 rfl rfl ?_;refine aN [] [] [1,1000001,1000002,1000003] [] trivial ?_;refine aaE ?_;obtain⟨r8,hr8,h⟩:=bind_ok h;refine bH [] [(1,⟨[aQ x7,.fn (.func 48) []],[],[],[],.tup [.i r8.1,.i r8.2],[],[],[1,2,3]⟩)] ⟨10,[(4,.i r8.1),(5,.i r8.2)],[],[],0⟩ (an1 (cpT (f41b_ok _ _ hr8))) ?_;refine tN ?_;obtain rfl:=aaD h;refine aaG ?_;exact bK
def nG (x1:List Y51) (r10:Int×Int×Ty4×Int) (n11:Nat) (K2:Bool->Option Bool):Nat->(Bool×Nat)->Option Bool
 |0,_=>none
 |k+1,(b12,n13)=>
  if(decide ((n13:Int)<(((x1).length:Nat):Int)))then(
  chk ((n13:Int)<(((x1).length:Nat):Int))<|
  chk ((b12==false)=true->(b12==false)=true->((x1.getD n13 (default:Y51)).2.1==(1:Int))=true->((b12==false)&&(((x1.getD n13 (default:Y51)).2.1==(1:Int))==true))=true)<|
  chk ((b12==false)=true->(b12==false)=true->(((x1.getD n13 (default:Y51)).2.1==(1:Int))&&((x1.getD n13 (default:Y51)).2.2.1==(r10.2.2.1.getD n11 (default:Tq0)).1))=true->((b12==false)&&((((x1.getD n13 (default:Y51)).2.1==(1:Int))&&((x1.getD n13 (default:Y51)).2.2.1==(r10.2.2.1.getD n11 (default:Tq0)).1))==true))=true)<|
  chk ((b12==false)=true->(b12==false)=true->((((x1.getD n13 (default:Y51)).2.1==(1:Int))&&((x1.getD n13 (default:Y51)).2.2.1==(r10.2.2.1.getD n11 (default:Tq0)).1))&&((x1.getD n13 (default:Y51)).2.2.2.2.1==(r10.2.2.1.getD n11 (default:Tq0)).2.1))=true->((b12==false)&&(((((x1.getD n13 (default:Y51)).2.1==(1:Int))&&((x1.getD n13 (default:Y51)).2.2.1==(r10.2.2.1.getD n11 (default:Tq0)).1))&&((x1.getD n13 (default:Y51)).2.2.2.2.1==(r10.2.2.1.getD n11 (default:Tq0)).2.1))==true))=true)<|
  chk (((n13:Int)+(1:Int))<=9223372036854775807)<|
  (nG x1 r10 n11 K2 k) ((b12||(((((x1.getD n13 (default:Y51)).2.1==(1:Int))&&((x1.getD n13 (default:Y51)).2.2.1==(r10.2.2.1.getD n11 (default:Tq0)).1))&&((x1.getD n13 (default:Y51)).2.2.2.2.1==(r10.2.2.1.getD n11 (default:Tq0)).2.1))&&(((x1.getD n13 (default:Y51)).2.2.2.2.2.1)==((r10.2.2.1.getD n11 (default:Tq0)).2.2)))),(n13+1))
  )else(
  K2 b12
  )
def nH (x1:List Y51) (r10:Int×Int×Ty4×Int) (K1:Unit->Option Bool):Nat->Nat->Option Bool
 |0,_=>none
 |k+1,n11=>
  if(decide ((n11:Int)<(((r10.2.2.1).length:Nat):Int)))then(
  chk ((n11:Int)<(((r10.2.2.1).length:Nat):Int))<|
  jn (fun(b14:Bool)=>
  if(!b14)then(
  some true
  )else(
  chk (((n11:Int)+(1:Int))<=9223372036854775807)<|
  (nH x1 r10 K1 k) (n11+1)
  )
  ) fun(K2:Bool->Option Bool)=>
  nG x1 r10 n11 K2 bB (false,0)
  )else(
  K1 ()
  )
abbrev fV (r10:Int×Int×Ty4×Int) (n11:Nat):=(r10.2.2.1.getD n11 (default:Tq0))
abbrev f49z1 (r10:Int×Int×Ty4×Int):List V:=[.i r10.1,.i r10.2.1,vL 3 bX (default:Tq0) r10.2.2.1]
abbrev f49z2 (r10:Int×Int×Ty4×Int) (n11:Nat):aJ:=[(5,.cells 100 (f49z1 r10)),(8,.cells 88 [.i (fV r10 n11).1,.i (fV r10 n11).2.1,.str (fV r10 n11).2.2])]
abbrev f49z3 (x2 x3 x4 x5 x6:Int) (x7 x8:aaA):List V:=[.i x2,.i x3,.i x4,.i x5,.i x6,.str x7,.str x8,.opq,.opq,.opq,.opq,.opq,.opq,.opq,.opq,.opq,.opq,.opq,.opq,.opq,.opq,.opq,.opq,.opq,.opq,.opq,.opq,.opq]
abbrev f49z4 (r10:Int×Int×Ty4×Int):aJ:=[(5,.cells 100 (f49z1 r10))]
def f49 (x1:List Y51) (x2 x3 x4 x5 x6:Int) (x7 x8:aaA):Option Bool:=
 (f52 x2 x3 x4 x5 x6 x7 x8).bind fun r9=>
 if(decide (r9<(0:Int)))then(
 some false
 )else(
 (f61 x7).bind fun r10=>
 if(r10.2.2.2 !=(0:Int))then(
 some false
 )else(
 jn (fun(_:Unit)=>
 some false
 ) fun(K1:Unit->Option Bool)=>
 nH x1 r10 K1 bB 0
 )
 )
theorem f49_ok (x1:List Y51) (x2 x3 x4 x5 x6:Int) (x7 x8:aaA) (r:Bool) (h:f49 x1 x2 x3 x4 x5 x6 x7 x8=some r):aE Tryz.prog 49 [] [] [] [vL 28 kT (default:Y51) x1,.agg [.i x2,.i x3,.i x4,.i x5,.i x6,.str x7,.str x8,.opq,.opq,.opq,.opq,.opq,.opq,.opq,.opq,.opq,.opq,.opq,.opq,.opq,.opq,.opq,.opq,.opq,.opq,.opq,.opq,.opq]] (.bool r) []:=by
 unfold f49 at h;refine aE.body 0 _ _ Tryz.func49 rfl Tryz.ntmps49 rfl rfl ?_;refine aN [] [] [0,3] [3] trivial ?_;refine aaE (aaE ?_);obtain⟨r9,hr9,h⟩:=bind_ok h;refine bG [] [(1,⟨[.agg (f49z3 x2 x3 x4 x5 x6 x7 x8)],[],[],[],.i r9,[],[],[]⟩)] [0,3,14] [3] (an1 (cpT (wE _ _ _ _ _ _ _ _ hr9))) ?_;refine tN (cK (decide (r9<(0:Int))) (fun hc1=> ?_) fun hc1=> ?_)
 ·replace h:=aF hc1 h;refine bJ [] [] ⟨74,[(4,.bool false)],[],[],0⟩ trivial ?_;obtain rfl:=aaD h;refine aaG (tR ?_);exact bK
 ·replace h:=aG hc1 h;refine aaF (tN (aaE ?_));obtain⟨r10,hr10,h⟩:=bind_ok h;refine bG [] [(2,⟨[.str x7],[],[],[],.tup [.agg (f49z1 r10),.i r10.2.2.2],[],[],[]⟩)] [0,5,6] [5] (an2 (cpT (f61_ok _ _ hr10)) trivial) ?_;refine tN (aaE (bJ [] [] ⟨74,[(0,aQ x1),(5,.ptr 5 0),(22,.bool (r10.2.2.2 !=(0:Int)))],(f49z4 r10),[],0⟩ trivial ?_));refine cK (r10.2.2.2 !=(0:Int)) (fun hc2=> ?_) fun hc2=> ?_
  ·replace h:=aF hc2 h;refine aN [] [] [4] [] trivial ?_;obtain rfl:=aaD h;refine aaG (tR ?_);exact bK
  ·replace h:=aG hc2 h;refine aaF (tN ?_);obtain⟨K1,hK1,h⟩:=aO h;refine aaU (fun(x:Unit)=>match x with|()=>⟨74,[],[],[],0⟩) (fun x=>K1 x=some r) ?_ ?_
   ·refine bJ [] [] ⟨74,[(0,aQ x1),(5,.ptr 5 0),(7,.i (0:Int))],(f49z4 r10),[],0⟩ trivial ?_;refine aaJ (abI (α:=Nat×Nat) (fun x=>match x with|(_,n11)=>⟨74,[(0,aQ x1),(5,.ptr 5 0),(7,.i (n11:Int))],(f49z4 r10),[],0⟩) (fun x=>nH x1 r10 K1 x.1 x.2=some r) (fun x=>x.1) (bB,0) LR h ?_)
    rintro⟨k0,n11⟩ h
    cases k0 with
    |zero=>exact nEx h
    |succ k0=>
    obtain⟨C0,hC0⟩:∃C,C=nH x1 r10 K1 k0:=⟨_,rfl⟩;replace h:=(nH.eq_2 ..).symm.trans h
    try rw[<-hC0]at h
    refine aaE (aN [] [] [0,5,7,27] [5] trivial ?_);refine cK (decide ((n11:Int)<(lZ r10.2.2.1))) (fun hc3=> ?_) fun hc3=> ?_
    ·replace h:=aF hc3 h;refine aaF (tN (aaE (aaJ (aaE ?_))));obtain⟨ob0p,h⟩:=aB h;refine bG [] [] [0,5,7,8] [5,8] (an2 (iN ob0p) trivial) ?_;refine tN (bJ [] [] ⟨74,[(0,aQ x1),(5,.ptr 5 0),(7,.i (n11:Int)),(8,.ptr 8 0),(9,.bool false)],(f49z2 r10 n11),[],0⟩ trivial ?_);obtain⟨K2,hK2,h⟩:=aO h;refine aaU (α:=Bool) (fun(b14:Bool)=>⟨74,[(0,aQ x1),(5,.ptr 5 0),(7,.i (n11:Int)),(9,.bool b14)],(f49z4 r10),[],0⟩) (fun x=>K2 x=some r) ?_ ?_
     ·refine aN [] [] [0,5,7,8,9,10] [5,8] trivial ?_;refine aaJ (abI (α:=Nat×(Bool×Nat)) (fun x=>match x with|(_,b12,n13)=>⟨74,[(0,aQ x1),(5,.ptr 5 0),(7,.i (n11:Int)),(8,.ptr 8 0),(9,.bool b12),(10,.i (n13:Int))],(f49z2 r10 n11),[],0⟩) (fun x=>nG x1 r10 n11 K2 x.1 x.2=some r) (fun x=>x.1) (bB,false,0) LR h ?_)
      rintro⟨k1,b12,n13⟩ h
      cases k1 with
      |zero=>exact nEx h
      |succ k1=>
      obtain⟨C1,hC1⟩:∃C,C=nG x1 r10 n11 K2 k1:=⟨_,rfl⟩;replace h:=(nG.eq_2 ..).symm.trans h
      try rw[<-hC1]at h
      refine aaE (aN [] [] [0,5,7,8,9,10,38] [5,8] trivial ?_);refine cK (decide ((n13:Int)<(lZ x1))) (fun hc4=> ?_) fun hc4=> ?_
      ·replace h:=aF hc4 h;refine aaF (tN (aaE (aaJ (aaE ?_))));obtain⟨ob1p,h⟩:=aB h;refine bG [] [] [0,5,7,8,9,10,11] [5,8,11] (an2 (iN ob1p) trivial) ?_;refine tN ?_;obtain⟨ob9,h⟩:=aB h;obtain⟨ob16,h⟩:=aB h;obtain⟨ob23,h⟩:=aB h;refine bH [] [] ⟨74,[(0,aQ x1),(5,.ptr 5 0),(7,.i (n11:Int)),(8,.ptr 8 0),(9,.bool (b12||(((((x1.getD n13 aH).2.1==(1:Int))&&((x1.getD n13 aH).2.2.1==(fV r10 n11).1))&&((x1.getD n13 aH).2.2.2.2.1==(fV r10 n11).2.1))&&(((x1.getD n13 aH).2.2.2.2.2.1)==((fV r10 n11).2.2))))),(10,.i (n13:Int))],(f49z2 r10 n11),[],0⟩ (ac6 (an1 (idA ((b12==false)=true))) (an1 (idA ((b12==false)=true))) (an1 (idA ((b12==false)=true))) (an1 (idA (((b12==false)&&(((x1.getD n13 aH).2.1==(1:Int))==true))=true))) (an1 (idA (((b12==false)&&(((x1.getD n13 aH).2.1==(1:Int))==true))=true))) (an2 (idA (((b12==false)&&(((x1.getD n13 aH).2.1==(1:Int))==true))=true)) (idA (((b12==false)&&(((x1.getD n13 aH).2.1==(1:Int))==true))=true))) (ac6 (aaM ob9 (an1 (idA ((b12==false)=true)))) (an1 (idA ((b12==false)=true))) (an1 (idA (((b12==false)&&((((x1.getD n13 aH).2.1==(1:Int))&&((x1.getD n13 aH).2.2.1==(fV r10 n11).1))==true))=true))) (an1 (idA (((b12==false)&&((((x1.getD n13 aH).2.1==(1:Int))&&((x1.getD n13 aH).2.2.1==(fV r10 n11).1))==true))=true))) (an2 (idA (((b12==false)&&((((x1.getD n13 aH).2.1==(1:Int))&&((x1.getD n13 aH).2.2.1==(fV r10 n11).1))==true))=true)) (idA (((b12==false)&&((((x1.getD n13 aH).2.1==(1:Int))&&((x1.getD n13 aH).2.2.1==(fV r10 n11).1))==true))=true))) (aaM ob16 (an1 (idA ((b12==false)=true)))) (an6 (an1 (idA ((b12==false)=true))) (an1 (idA (((b12==false)&&(((((x1.getD n13 aH).2.1==(1:Int))&&((x1.getD n13 aH).2.2.1==(fV r10 n11).1))&&((x1.getD n13 aH).2.2.2.2.1==(fV r10 n11).2.1))==true))=true))) (an1 (idA (((b12==false)&&(((((x1.getD n13 aH).2.1==(1:Int))&&((x1.getD n13 aH).2.2.1==(fV r10 n11).1))&&((x1.getD n13 aH).2.2.2.2.1==(fV r10 n11).2.1))==true))=true))) (an2 (idA (((b12==false)&&(((((x1.getD n13 aH).2.1==(1:Int))&&((x1.getD n13 aH).2.2.1==(fV r10 n11).1))&&((x1.getD n13 aH).2.2.2.2.1==(fV r10 n11).2.1))==true))=true)) (idA (((b12==false)&&(((((x1.getD n13 aH).2.1==(1:Int))&&((x1.getD n13 aH).2.2.1==(fV r10 n11).1))&&((x1.getD n13 aH).2.2.2.2.1==(fV r10 n11).2.1))==true))=true))) (aaM ob23 (an1 (idA ((b12==false)=true)))) (bqA b12 false)))) ?_;refine kN (tN ?_);obtain⟨ob26p,h⟩:=aB h;refine bG [] [] [0,5,7,8,9,10] [5,8] (an1 (iP ob26p)) ?_;rw[hC1]at h;exact lN (_,(b12||(((((x1.getD n13 aH).2.1==(1:Int))&&((x1.getD n13 aH).2.2.1==(fV r10 n11).1))&&((x1.getD n13 aH).2.2.2.2.1==(fV r10 n11).2.1))&&(((x1.getD n13 aH).2.2.2.2.2.1)==((fV r10 n11).2.2)))),(n13+1)) LR h (aaK _)
      ·replace h:=aG hc4 h;refine abK (tE (tE (kS ?_)));exact jN (b12) LR h
     ·rintro b14 h;replace h:=(congrFun hK2 _).symm.trans h;refine aN [] [] [0,5,7,73] [5] trivial ?_;refine cK (!b14) (fun hc5=> ?_) fun hc5=> ?_
      ·replace h:=aF hc5 h;refine bJ [] [] ⟨74,[(4,.bool true)],[],[],0⟩ trivial ?_;obtain rfl:=aaD h;refine aaG (kR (tR (tR (kR (aS ?_)))));exact bK
      ·replace h:=aG hc5 h;refine aaF (kN (tN ?_));obtain⟨ob27p,h⟩:=aB h;refine bG [] [] [0,5,7] [5] (an1 (iP ob27p)) ?_;rw[hC0]at h;exact lN (_,(n11+1)) LR h (aaK _)
    ·replace h:=aG hc3 h;refine abK (tE (tE (kS ?_)));exact jN () LR h
   ·rintro⟨⟩ h;replace h:=(congrFun hK1 _).symm.trans h;refine aN [] [] [4] [] trivial ?_;obtain rfl:=aaD h;refine aaG ?_;exact bK
def nL (x1:List Y51) (K1:Unit->Option Tq1):Nat->Nat->Option Tq1
 |0,_=>none
 |k+1,n2=>
  if(decide ((n2:Int)<(((x1).length:Nat):Int)))then(
  (f49 (x1.take n2) ((x1.getD n2 (default:Y51)).1) ((x1.getD n2 (default:Y51)).2.1) ((x1.getD n2 (default:Y51)).2.2.1) ((x1.getD n2 (default:Y51)).2.2.2.1) ((x1.getD n2 (default:Y51)).2.2.2.2.1) ((x1.getD n2 (default:Y51)).2.2.2.2.2.1) ((x1.getD n2 (default:Y51)).2.2.2.2.2.2)).bind fun r3=>
  chk ((n2:Int)<=(((x1).length:Nat):Int))<|
  chk ((n2:Int)<(((x1).length:Nat):Int))<|
  if r3 then(
  some ((n2:Int),(0:Int))
  )else(
  chk (((n2:Int)+(1:Int))<=9223372036854775807)<|
  (nL x1 K1 k) (n2+1)
  )
  )else(
  K1 ()
  )
def f21 (x1:List Y51):Option Tq1:=
 jn (fun(_:Unit)=>
 some ((0:Int),(13:Int))
 ) fun(K1:Unit->Option Tq1)=>
 nL x1 K1 bB 0
theorem f21_ok (x1:List Y51) (r:Tq1) (h:f21 x1=some r):aE Tryz.prog 21 [] [] [] [vL 28 kT (default:Y51) x1] (.tup [.i r.1,.i r.2]) []:=by
 unfold f21 at h;refine aE.body 0 _ _ Tryz.func21 rfl Tryz.ntmps21 rfl rfl ?_;refine aN [] [] [0] [] trivial ?_;obtain⟨K1,hK1,h⟩:=aO h;refine aaU (fun(x:Unit)=>match x with|()=>⟨20,[],[],[],0⟩) (fun x=>K1 x=some r) ?_ ?_
 ·refine bJ [] [] ⟨20,[(0,aQ x1),(4,.i (0:Int))],[],[],0⟩ trivial ?_;refine aaJ (abI (α:=Nat×Nat) (fun x=>match x with|(_,n2)=>⟨20,[(0,aQ x1),(4,.i (n2:Int))],[],[],0⟩) (fun x=>nL x1 K1 x.1 x.2=some r) (fun x=>x.1) (bB,0) LR h ?_)
  rintro⟨k0,n2⟩ h
  cases k0 with
  |zero=>exact nEx h
  |succ k0=>
  obtain⟨C0,hC0⟩:∃C,C=nL x1 K1 k0:=⟨_,rfl⟩;replace h:=(nL.eq_2 ..).symm.trans h
  try rw[<-hC0]at h
  refine aaE (aN [] [] [0,4,8] [] trivial ?_);refine cK (decide ((n2:Int)<(lZ x1))) (fun hc1=> ?_) fun hc1=> ?_
  ·replace h:=aF hc1 h;refine aaF (tN (aaE (aaJ (aaE ?_))));obtain⟨r3,hr3,h⟩:=bind_ok h;obtain⟨ob0p,h⟩:=aB h;obtain⟨ob1p,h⟩:=aB h;refine bH [] [(7,⟨[aQ (x1.take n2),.agg (qpt (x1.getD n2 aH))],[],[],[],.bool r3,[],[],[]⟩)] ⟨20,[(0,aQ x1),(4,.i (n2:Int)),(18,.bool r3)],[],[],0⟩ (an3 (iL ob0p) (iN ob1p) (cpL (c:=true) [] [] [.arr 28 n2 (cE kT aH x1),.agg (qpt (x1.getD n2 aH))] (fun _=>(f49_ok _ _ _ _ _ _ _ _ _ hr3)) (fun _=>⟨(VLe.takeL (by first|omega|(simp only[aaH,aaS,abT,abG,aaZ]at *;omega)|(simp;done)|(simp_all;done)|(simp_all;omega)|rfl)),.refl _,trivial⟩) (.inl rfl))) ?_;refine tN (cK r3 (fun hc2=> ?_) fun hc2=> ?_)
   ·replace h:=aF hc2 h;refine aN [] [] [2,3] [] trivial ?_;obtain rfl:=aaD h;refine aaG (kR (tR (tR (kR (aS ?_)))));exact bK
   ·replace h:=aG hc2 h;refine aaF (kN (tN ?_));obtain⟨ob2p,h⟩:=aB h;refine bH [] [] ⟨20,[(0,aQ x1),(4,.i (((n2+1):Nat):Int))],[],[],0⟩ (an1 (iP ob2p)) ?_;rw[hC0]at h;exact lN (_,(n2+1)) LR h (aaK _)
  ·replace h:=aG hc1 h;refine abK (tE (tE (kS ?_)));exact jN () LR h
 ·rintro⟨⟩ h;replace h:=(congrFun hK1 _).symm.trans h;refine aN [] [] [2,3] [] trivial ?_;obtain rfl:=aaD h;refine aaG ?_;exact bK
abbrev f5z0 (r5 r6:Tq6):=(((r5.1==r6.1)&&(r5.2.1==r6.2.1))&&(r5.2.2==r6.2.2))
abbrev f5z1 (r5 r6:Tq6) (r7 r8:Tq1):=(((f5z0 r5 r6)&&(r7.1==r8.1))&&(r7.2==r8.2))
abbrev f5z2 :=(List Tq7)
abbrev f5z3 (r5 r6:Tq6):=(((r5.1==r6.1)&&(r5.2.1==r6.2.1))==true)
def f5 (x1:List Y51):Option Bool:=
 (f11).bind fun r2=>
 gB ((!r2)==false) (f16 x1) fun r3=>
 if((!r2)||(!r3))then(
 (f11).bind fun r4=>
 some r4
 )else(
 (f13 [] [] (BitVec.ofInt 16 0) [] [] [] x1).bind fun r5=>
 (f17 x1).bind fun r6=>
 (f18 [] [] (BitVec.ofInt 16 0) [] [] [] x1).bind fun r7=>
 (f19 x1).bind fun r8=>
 (f20 [] [] (BitVec.ofInt 16 0) [] [] [] x1).bind fun r9=>
 (f21 x1).bind fun r10=>
 some (((((((r5.1==r6.1)&&(r5.2.1==r6.2.1))&&(r5.2.2==r6.2.2))&&(r7.1==r8.1))&&(r7.2==r8.2))&&(r9.1==r10.1))&&(r9.2==r10.2))
 )
theorem f5_ok (x1:List Y51) (r:Bool) (h:f5 x1=some r):aE Tryz.prog 5 [(1,pT),(2,bV),(3,bV)] [] [] [vL 28 kT (default:Y51) x1] (.bool r) []:=by
 unfold f5 at h;refine aE.body 0 _ _ Tryz.func5 rfl Tryz.ntmps5 rfl rfl ?_;refine aN [] [] [0,1000001,1000002,1000003] [] trivial ?_;refine aaE (aaE ?_);obtain⟨r2,hr2,h⟩:=bind_ok h;obtain⟨r3,hr3,h⟩:=cF h;refine bG [] [(0,⟨[],[],[],[],.bool r2,[],[],[1,2,3]⟩),(4,⟨[aQ x1],[],[],[],.bool r3,[],[],[]⟩)] [0,23,1000001,1000002,1000003] [] (an4 (cpT (f11_ok _ hr2)) (aaM (cpC fun hc=>(f16_ok _ _ (hr3 hc))) (an1 (idA (((!r2)==false)=true)))) (an1 (idA (((!r2)==false)=true))) (bqA (!r2) false)) ?_;refine tN (cK ((!r2)||(!r3)) (fun hc1=> ?_) fun hc1=> ?_)
 ·replace h:=aF hc1 h;refine aaE ?_;obtain⟨r4,hr4,h⟩:=bind_ok h;refine bH [] [(0,⟨[],[],[],[],.bool r4,[],[],[1,2,3]⟩)] ⟨93,[(2,.bool r4)],[],[],0⟩ (an1 (cpT (f11_ok _ hr4))) ?_;refine tN ?_;obtain rfl:=aaD h;refine aaG (tR ?_);exact bK
 ·replace h:=aG hc1 h;refine aaF (tN (aaE ?_));obtain⟨r5,hr5,h⟩:=bind_ok h;refine bG [] [(2,⟨[.agg [eC [],yB [],.b16 (iD 0),vL 6 eT73 (default:aaA×Int×BitVec 16×aaB×aaB×(f5z2)) [],oU [],vL 3 fZ (default:aaA×Bool×(f5z2)) []],aQ x1],[],[],[],.tup [.i r5.1,.i r5.2.1,.i r5.2.2],[],[],[1,2,3]⟩)] [0,3,4,5,1000001,1000002,1000003] [] (an1 (cpL (c:=true) [] [] [.agg [.nils,.nils,.b16 (iD 0),.nils,.nils,.nils],aQ x1] (fun _=>(wU _ _ _ _ _ _ _ _ hr5)) (fun _=>⟨(.aggs ⟨.nilL,.nilL,.refl _,.nilL,.nilL,.nilL,trivial⟩),.refl _,trivial⟩) (.inl rfl))) ?_;refine tN (aaE ?_);obtain⟨r6,hr6,h⟩:=bind_ok h;refine bG [] [(1,⟨[aQ x1],[],[],[],.tup [.i r6.1,.i r6.2.1,.i r6.2.2],[],[],[]⟩)] [0,3,4,5,6,7,8,1000001,1000002,1000003] [] (an1 (cpT (f17_ok _ _ hr6))) ?_;refine tN (aaE ?_);obtain⟨r7,hr7,h⟩:=bind_ok h;refine bG [] [(2,⟨[.agg [eC [],yB [],.b16 (iD 0),vL 6 eT73 (default:aaA×Int×BitVec 16×aaB×aaB×(f5z2)) [],oU [],vL 3 fZ (default:aaA×Bool×(f5z2)) []],aQ x1],[],[],[],.tup [.i r7.1,.i r7.2],[],[],[1,2,3]⟩)] [0,3,4,5,6,7,8,9,10,1000001,1000002,1000003] [] (an1 (cpL (c:=true) [] [] [.agg [.nils,.nils,.b16 (iD 0),.nils,.nils,.nils],aQ x1] (fun _=>(f18_ok _ _ _ _ _ _ _ _ hr7)) (fun _=>⟨(.aggs ⟨.nilL,.nilL,.refl _,.nilL,.nilL,.nilL,trivial⟩),.refl _,trivial⟩) (.inl rfl))) ?_;refine tN (aaE ?_);obtain⟨r8,hr8,h⟩:=bind_ok h;refine bG [] [(1,⟨[aQ x1],[],[],[],.tup [.i r8.1,.i r8.2],[],[],[]⟩)] [0,3,4,5,6,7,8,9,10,11,12,1000001,1000002,1000003] [] (an1 (cpT (f19_ok _ _ hr8))) ?_;refine tN (aaE ?_);obtain⟨r9,hr9,h⟩:=bind_ok h;refine bG [] [(2,⟨[.agg [eC [],yB [],.b16 (iD 0),vL 6 eT73 (default:aaA×Int×BitVec 16×aaB×aaB×(f5z2)) [],oU [],vL 3 fZ (default:aaA×Bool×(f5z2)) []],aQ x1],[],[],[],.tup [.i r9.1,.i r9.2],[],[],[1,2,3]⟩)] [0,3,4,5,6,7,8,9,10,11,12,13,14,1000001,1000002,1000003] [] (an1 (cpL (c:=true) [] [] [.agg [.nils,.nils,.b16 (iD 0),.nils,.nils,.nils],aQ x1] (fun _=>(f20_ok _ _ _ _ _ _ _ _ hr9)) (fun _=>⟨(.aggs ⟨.nilL,.nilL,.refl _,.nilL,.nilL,.nilL,trivial⟩),.refl _,trivial⟩) (.inl rfl))) ?_;refine tN (aaE ?_);obtain⟨r10,hr10,h⟩:=bind_ok h;refine bG [] [(1,⟨[aQ x1],[],[],[],.tup [.i r10.1,.i r10.2],[],[],[]⟩)] [3,4,5,6,7,8,9,10,11,12,13,14,15,16,1000001,1000002,1000003] [] (an1 (cpT (f21_ok _ _ hr10))) ?_;refine tN (aaE ?_);have ob8:true=true->((r5.1==r6.1)&&(r5.2.1==r6.2.1))=true->(f5z3 r5 r6)=true:=fun _ h=>beq_iff_eq.2 h;refine bH [] [] ⟨93,[(2,.bool (((f5z1 r5 r6 r7 r8)&&(r9.1==r10.1))&&(r9.2==r10.2)))],[],[],0⟩ (ac6 (an2 (idA (((r5.1==r6.1)==true)=true)) (idA (((r5.1==r6.1)==true)=true))) (bqA (r5.1==r6.1) true) (an2 (idA ((f5z3 r5 r6)=true)) (idA ((f5z3 r5 r6)=true))) ob8 (an2 (idA (((f5z0 r5 r6)==true)=true)) (idA (((f5z0 r5 r6)==true)=true))) (bqA (f5z0 r5 r6) true) (an6 (an2 (idA ((((f5z0 r5 r6)&&(r7.1==r8.1))==true)=true)) (idA ((((f5z0 r5 r6)&&(r7.1==r8.1))==true)=true))) (bqA ((f5z0 r5 r6)&&(r7.1==r8.1)) true) (an2 (idA (((f5z1 r5 r6 r7 r8)==true)=true)) (idA (((f5z1 r5 r6 r7 r8)==true)=true))) (bqA (f5z1 r5 r6 r7 r8) true) (an2 (idA ((((f5z1 r5 r6 r7 r8)&&(r9.1==r10.1))==true)=true)) (idA ((((f5z1 r5 r6 r7 r8)&&(r9.1==r10.1))==true)=true))) (bqA ((f5z1 r5 r6 r7 r8)&&(r9.1==r10.1)) true))) ?_;refine tN ?_;obtain rfl:=aaD h;refine aaG ?_;exact bK
def f6 (x1:List Tq4):Option Bool:=
 (f12 x1).bind fun r2=>
 (f5 r2).bind fun r3=>
 some r3
theorem f6_ok (x1:List Tq4) (r:Bool) (h:f6 x1=some r):aE Tryz.prog 6 [(1,pT),(2,bV),(3,bV)] [] [] [vL 4 cP (default:Tq4) x1] (.bool r) []:=by
 unfold f6 at h;refine aE.body 0 _ _ Tryz.func6 rfl Tryz.ntmps6 rfl rfl ?_;refine aN [] [] [0,1000001,1000002,1000003] [] trivial ?_;refine aaE ?_;obtain⟨r2,hr2,h⟩:=bind_ok h;obtain⟨r3,hr3,h⟩:=bind_ok h;refine bH [] [(1,⟨[bZ x1],[],[],[(6001,aU r2)],.own 6001,[6001],[],[]⟩),(2,⟨[aQ r2],[],[],[],.bool r3,[],[6001],[1,2,3]⟩)] ⟨6,[(2,.bool r3)],[],[],0⟩ (an2 (cpT (aE.ren (aT 3000 6001) (aD 3000 6001) rfl (f12_ok _ _ hr2))) (cpL (c:=true) [(6001,aU r2)] [6001] [.own 6001] (fun _=>(f5_ok _ _ hr3)) (fun _=>⟨.refl _,trivial⟩) (.inr ⟨rfl,trivial⟩))) ?_;refine tN ?_;obtain rfl:=aaD h;refine aaG ?_;exact bK
end Go.Abs
namespace Go.Abs
abbrev abA:=@List.drop_eq_nil_of_le
abbrev agQ:=@List.drop_eq_getElem_cons
theorem aA {p:Prop} [Decidable p] {α:Type} {x:Option α} (h:p):chk p x=x:=if_pos h
theorem aP {p:Prop} [Decidable p] {α:Type} {x y:α} (h:p):(if decide p=true then x else y)=x:=if_pos (abL h)
theorem aL {p:Prop} [Decidable p] {α:Type} {x y:α} (h:¬p):(if decide p=true then x else y)=y:=if_neg (by simpa using h)
theorem bO {α β:Type} (K:α->Option β) (x:(α->Option β)->Option β):jn K x=x K:=rfl
theorem hJ {α β:Type} [Inhabited α] {x:Option α} {k:α->Option β}:gB true x k=x.bind k:=rfl
theorem iO {α β:Type} [Inhabited α] {x:Option α} {k:α->Option β}:gB false x k=k default:=rfl
theorem aC {α β:Type} (a:α) (f:α->Option β):(some a).bind f=f a:=rfl
theorem abc_eq {α:Type} [DecidableEq α] {q:Prop} [Decidable q] {x y:Option α} (h:q->x=y):abc q x y=y:=by
 unfold abc both;split
 ·rename_i hq;rw[h hq];simp
 ·rfl
theorem fuel_lt {n:Nat} (h:n<=18446744073709551615):n<bB:=by unfold bB;omega
theorem getD_drop {α:Type} (x:List α) (n:Nat) (d:α) (h:n<x.length):x.drop n=x.getD n d::x.drop (n+1):=by
 rw[agQ h];simp[aaC,h]
theorem sU {α S R:Type} (L:Nat->Nat×S->Option R) (x:List α) (d:α) (Inv:Nat->S->Prop) (g:S->α->S) (K:S->Option R)
  (h:∀k n s,n<x.length->Inv n s->L (k+1) (n,s)=L k (n+1,g s (x.getD n d)))
  (hI:∀n s,n<x.length->Inv n s->Inv (n+1) (g s (x.getD n d)))
  (he:∀k s,Inv x.length s->L (k+1) (x.length,s)=K s):∀c k n s,n+c=x.length->c<k->Inv n s->L k (n,s)=K ((x.drop n).foldl g s)
 |0,k,n,s,hn,hk,hi=>by
  obtain⟨k,rfl⟩:∃q,k=q+1:=⟨k-1,by omega⟩
  obtain rfl:n=x.length:=by omega
  rw[he k s hi,abA (abD _)];rfl
 |c+1,k,n,s,hn,hk,hi=>by
  obtain⟨k,rfl⟩:∃q,k=q+1:=⟨k-1,by omega⟩
  have hlt:n<x.length:=by omega
  rw[h k n s hlt hi,getD_drop x n d hlt]
  exact sU L x d Inv g K h hI he c k (n+1) _ (by omega) (by omega) (hI n s hlt hi)
theorem foldl_inv {α S:Type} (Inv:Nat->S->Prop) (g:S->α->S) (d:α) (x:List α) (hI:∀n s,n<x.length->Inv n s->Inv (n+1) (g s (x.getD n d))) (s:S) (h0:Inv 0 s):Inv x.length (x.foldl g s):=by
 suffices H:∀c n s,n+c=x.length->Inv n s->Inv x.length ((x.drop n).foldl g s) by simpa using H x.length 0 s (by omega) h0
 intro c
 induction c with
 |zero=>
  intro n s hn hi;obtain rfl:n=x.length:=by omega
  rw[abA (abD _)];exact hi
 |succ c ih=>
  intro n s hn hi;have hlt:n<x.length:=by omega
  rw[getD_drop x n d hlt];exact ih (n+1) _ (by omega) (hI n s hlt hi)
theorem sW {α R:Type} (L:Nat->Nat->Option R) (x:List α) (d:α) (p:α->Bool) (r:Nat->Option R) (K:Option R)
  (h:∀k n,n<x.length->L (k+1) n=if p (x.getD n d)=true then r n else L k (n+1))
  (he:∀k,L (k+1) x.length=K):∀c k n,n+c=x.length->c<k->
   (∃m,n<=m/\m<x.length/\p (x.getD m d)=true/\L k n=r m/\(x.drop n).any p=true)\/(L k n=K/\(x.drop n).any p=false)
 |0,k,n,hn,hk=>by
  obtain⟨k,rfl⟩:∃q,k=q+1:=⟨k-1,by omega⟩
  obtain rfl:n=x.length:=by omega
  exact .inr ⟨he k,by rw[abA (abD _)];rfl⟩
 |c+1,k,n,hn,hk=>by
  obtain⟨k,rfl⟩:∃q,k=q+1:=⟨k-1,by omega⟩
  have hlt:n<x.length:=by omega
  rw[h k n hlt,getD_drop x n d hlt]
  by_cases hp:p (x.getD n d)=true
  ·rw[if_pos hp];exact .inl ⟨n,abD _,hlt,hp,rfl,by rw[acO,hp];rfl⟩
  ·rw[if_neg hp]
   have hp':p (x.getD n d)=false:=by simpa using hp
   rw[acO,hp',adC]
   rcases sW L x d p r K h he c k (n+1) (by omega) (by omega)with⟨m,h1,h2⟩|h2
   ·exact .inl ⟨m,by omega,h2⟩
   ·exact .inr h2
theorem aBa {α R:Type} (L:Nat->Nat->Option R) (x:List α) (d:α) (p:α->Bool) (r:Option R) (K:Option R)
  (h:∀k n,n<x.length->L (k+1) n=if p (x.getD n d)=true then r else L k (n+1))
  (he:∀k,L (k+1) x.length=K) (k:Nat) (hk:x.length<k):L k 0=if x.any p=true then r else K:=by
 rcases sW L x d p (fun _=>r) K h he x.length k 0 (by omega) hk with⟨m,_,_,_,h1,h2⟩|⟨h1,h2⟩
 ·rw[h1,if_pos (by simpa using h2)]
 ·rw[h1,if_neg (by simpa using h2)]
end Go.Abs
