/- Part 23 of the proof: X54A. -/
import Derived.Test.YtfkhgbcggabkjaaGreatDoorMonmadZ22
namespace Go.Abs
open Go Go.Proofs
set_option maxRecDepth 100000
set_option maxHeartbeats 4000000
abbrev aaF:=@AWp.skip
abbrev aaG:=@AWp.ret
abbrev aaJ:=@AWp.block
abbrev aaK:=@Nat.lt_succ_self
abbrev aaM:=@And.intro
abbrev aaU:=@AWp.join
abbrev aaX:=@AWp.le
abbrev abI:=@AWp.loopL
abbrev abK:=@AWp.exit
abbrev acK:=@BLe.of
abbrev acQ:=@Le.ren
abbrev acV:=@RL.lst
abbrev acX:=@RL.self
abbrev adM:=@Le.nilOwn
abbrev adQ:=@RL.app
abbrev aeG:=@Bool.eq_false_iff
abbrev aeU:=@Le.freeze
theorem nEx {α:Type} {r:α} {C:Prop} (h:(none:Option α)=some r):C:=nomatch h
abbrev Y51 :Type:=Int×Int×Int×Int×Int×aaA×aaA
abbrev Ty0 :=Tq1×aaA
abbrev Ty1 :=aaA
abbrev Ty2 :=List (Tq0×Bool)
abbrev Ty3 :=List (Tq1×Bool)
abbrev Ty4 :=List Tq0
abbrev Ty5 :=List Ty0
abbrev Ty6 :=List Tq2
abbrev Ty7 :=(List Tq5)×(List Tq3)×Ty5×(List Tq1)×Ty5×Ty2×Ty3
abbrev Ty8 :=Bool×(List Tq5)×(List Tq3)×Ty5×(List Tq1)×Ty5×Ty2×Ty3
abbrev Ty9 :=aaA×Int×BitVec 16×aaB×aaB×(List Tq7)
abbrev Ty10 :=Int×(List Tq5)×(List Tq3)×Ty5×(List Tq1)×Ty5×Ty2×Ty3
abbrev Ty11 :=Nat×(List Tq5)×(List Tq3)×Ty5×(List Tq1)×Ty5×Ty2×Ty3
abbrev gZ :=Tq1×Bool
abbrev gN :=List Tq5
abbrev gL :=List Tq3
abbrev iB :=Tq0×Bool
abbrev iA :=List Tq1
abbrev aBZ :=Ty6×Ty4×aaA
abbrev kS := @zR
abbrev kR := @aBW
abbrev tR := @thenQ_ret
abbrev tE := @aBd
abbrev kN := @tV
abbrev lN := @uU
abbrev jN := @uZ
abbrev tN := @mN
theorem jU :Tryz.prog.follows .mixedOrders=true:=by kernel_rfl
def T4 :List Nat:=[0,1,28,2,29,14,24,3,30,22,20,15,25,17,4,8,31,27,13,23,21,19,16,7,26,12,18,6,11,5,10,9]
def T5 :List Nat:=[0,1,56,2,57,49,28,3,61,58,42,50,38,29,17,4,62,47,59,36,45,43,51,22,53,39,33,30,24,18,12,5,63,55,48,27,60,41,37,16,46,35,44,21,52,32,23,11,54,26,40,15,34,20,31,10,25,14,19,9,13,8,7,6]
def T1 :List Nat:=[1,10,100,1000,10000,100000,1000000,10000000,100000000,1000000000,10000000000,100000000000,1000000000000,10000000000000,100000000000000,1000000000000000,10000000000000000,100000000000000000,1000000000000000000,10000000000000000000]
def T8 :List Nat:=[128,191,160,191,128,159,144,191,128,143,0,0,0,0,0,0,0,0,0,0,0,0,0,0,0,0,0,0,0,0,0,0]
instance :DecidableEq Y51:= @instDecidableEqProd Int _ inferInstance (@instDecidableEqProd Int _ inferInstance (@instDecidableEqProd Int _ inferInstance (@instDecidableEqProd Int _ inferInstance (@instDecidableEqProd Int _ inferInstance (@instDecidableEqProd Ty1 _ inferInstance (inferInstance))))))
def kT (x:Y51):List V:=[.i x.1,.i x.2.1,.i x.2.2.1,.i x.2.2.2.1,.i x.2.2.2.2.1,.str x.2.2.2.2.2.1,.str x.2.2.2.2.2.2,.opq,.opq,.opq,.opq,.opq,.opq,.opq,.opq,.opq,.opq,.opq,.opq,.opq,.opq,.opq,.opq,.opq,.opq,.opq,.opq,.opq]
def eI (x:Int):List V:=[.i x]
def eS (x:aaA):List V:=[.str x]
theorem eS_flat (x:aaA) (j:Nat):((eS x).getD j .any).flat=true:=by
 match j with
 |0=>rfl
 |_+1=>rfl
def eSW (x:aaA×BitVec 16):List V:=[.str x.1,.b16 x.2]
def eW (x:BitVec 16):List V:=[.b16 x]
def eWW (x:Tq7):List V:=[.b16 x.1,.b16 x.2]
instance :DecidableEq Ty9:= @instDecidableEqProd Ty1 _ inferInstance (@instDecidableEqProd Int _ inferInstance (@instDecidableEqProd (BitVec 16) _ inferInstance (@instDecidableEqProd aaB _ inferInstance (@instDecidableEqProd aaB _ inferInstance (inferInstance)))))
def eT73 (x:aaA×Int×BitVec 16×aaB×aaB×(List Tq7)):List V:=[.str x.1,.i x.2.1,.b16 x.2.2.1,vL 1 eW 0#16 x.2.2.2.1,vL 1 eW 0#16 x.2.2.2.2.1,vL 2 eWW (default:Tq7) x.2.2.2.2.2]
instance :DecidableEq (aaA×Bool×(List Tq7)):= @instDecidableEqProd Ty1 _ inferInstance (@instDecidableEqProd Bool _ inferInstance (inferInstance))
def fZ (x:aaA×Bool×(List Tq7)):List V:=[.str x.1,.bool x.2.1,vL 2 eWW (default:Tq7) x.2.2]
def cY (x:aaA):V:= .str x
theorem kE108 :aB0 Tryz.prog 3 (V.int .i64):=mA Tryz.underlying3 (dP .i64) (fun _=>rfl) (fun _=>rfl)
def dD (x:Bool):V:= .bool x
theorem kE109 :aB0 Tryz.prog 3 (V.int .i64):=mA Tryz.underlying3 (dP .i64) (fun _=>rfl) (fun _=>rfl)
def aI (x:Tq1):V:= .agg [.i x.1,.i x.2]
def bU (x:aaA):V:= .str x
theorem yD :aB0 Tryz.prog 145 aI:=kI (default:Tq1) (fun _=>⟨_,rfl,rfl⟩) Tryz.underlying145 (fun a b=>(show eqV Tryz.prog 10000 145 (aI a) (aI b)=some ((a.1==b.1)&&((a.2==b.2)&&true))from by kernel_rfl).trans (congrArg some (by rw[aeO];simp[Prod.ext_iff]))) (fun _=>rfl)
def dC (x:Int):V:= .i x
theorem kE111 :aB0 Tryz.prog 3 (V.int .i64):=mA Tryz.underlying3 (dP .i64) (fun _=>rfl) (fun _=>rfl)
def bX (x:Tq0):List V:=[.i x.1,.i x.2.1,.str x.2.2]
def bF (x:Tq0):V:= .agg [.i x.1,.i x.2.1,.str x.2.2]
def dG (x:Bool):V:= .bool x
theorem kE112 :aB0 Tryz.prog 88 bF:=kI (default:Tq0) (fun _=>⟨_,rfl,rfl⟩) Tryz.underlying88 (fun a b=>(show eqV Tryz.prog 10000 88 (bF a) (bF b)=some ((a.1==b.1)&&((a.2.1==b.2.1)&&((a.2.2==b.2.2)&&true)))from by kernel_rfl).trans (congrArg some (by rw[aeO];simp[Prod.ext_iff]))) (fun _=>rfl)
def bE (x:Tq1):V:= .agg [.i x.1,.i x.2]
def dF (x:Bool):V:= .bool x
theorem kE113 :aB0 Tryz.prog 145 bE:=kI (default:Tq1) (fun _=>⟨_,rfl,rfl⟩) Tryz.underlying145 (fun a b=>(show eqV Tryz.prog 10000 145 (bE a) (bE b)=some ((a.1==b.1)&&((a.2==b.2)&&true))from by kernel_rfl).trans (congrArg some (by rw[aeO];simp[Prod.ext_iff]))) (fun _=>rfl)
def cs0 :aaA:=[0,1,2,2,3,3,3,3,4,4,4,4,4,4,4,4,5,5,5,5,5,5,5,5,5,5,5,5,5,5,5,5,6,6,6,6,6,6,6,6,6,6,6,6,6,6,6,6,6,6,6,6,6,6,6,6,6,6,6,6,6,6,6,6,7,7,7,7,7,7,7,7,7,7,7,7,7,7,7,7,7,7,7,7,7,7,7,7,7,7,7,7,7,7,7,7,7,7,7,7,7,7,7,7,7,7,7,7,7,7,7,7,7,7,7,7,7,7,7,7,7,7,7,7,7,7,7,7,8,8,8,8,8,8,8,8,8,8,8,8,8,8,8,8,8,8,8,8,8,8,8,8,8,8,8,8,8,8,8,8,8,8,8,8,8,8,8,8,8,8,8,8,8,8,8,8,8,8,8,8,8,8,8,8,8,8,8,8,8,8,8,8,8,8,8,8,8,8,8,8,8,8,8,8,8,8,8,8,8,8,8,8,8,8,8,8,8,8,8,8,8,8,8,8,8,8,8,8,8,8,8,8,8,8,8,8,8,8,8,8,8,8,8,8,8,8,8,8,8,8,8,8,8,8,8,8]
def cs1 :aaA:=[102,105,110,105,115,104]
def cs2 :aaA:=[98,97,116,99,104]
def cH (x:Tq2):List V:=[.str x.1,.str x.2.1,.i x.2.2]
def cs3 :aaA:=[105,110,118,97,108,105,100]
def cs4 :aaA:=[115,116,97,108,101]
def cs5 :aaA:=[109,97,108,102,111,114,109,101,100]
def iE (x:Tq8):V:= .agg [.str x.1,.bool x.2.1,.bool x.2.2.1,.bool x.2.2.2]
def cs6 :aaA:=[100,101,108,101,116,101]
def cs7 :aaA:=[97,112,112,101,110,100]
def cs8 :aaA:=[99,111,117,110,116]
def bY :List (Int):=(((((([]++[(1:Int)])++[(2:Int)])++[(3:Int)])++[(4:Int)])++[(5:Int)])++[(6:Int)])
def bS :List Tq8:=(((((([]++[(([112,117,116]:aaA),true,false,true)])++[(([103,101,116]:aaA),true,false,false)])++[(cs6,true,false,false)])++[(cs7,true,false,true)])++[(([99,97,115]:aaA),true,true,true)])++[(cs8,false,false,false)])
def cs9 :aaA:=[99,111,117,110,116,32]
def qI :aaA:=[118,97,108,117,101,32]
def cP (x:Tq4):List V:=[.int .u8 x.1,.int .u8 x.2.1,.int .u8 x.2.2.1,.int .u8 x.2.2.2]
def cs11 :aaA:=[112,117,116,32,97,32,49]
def cs12 :aaA:=[103,101,116,32,97]
def cs13 :aaA:=[97,112,112,101,110,100,32,97,32,50]
abbrev aQ (l:List (Y51)):V:=vL 28 kT (default:Y51) l
abbrev aU (l:List (Y51)):Blk:=bL 51 28 kT (default:Y51) l
abbrev aH :Y51:=default
abbrev oU (l:List (Int)):V:=vL 1 eI 0 l
abbrev aX (l:List (Int)):Blk:=bL 3 1 eI 0 l
abbrev eC (l:List Ty1):V:=vL 1 eS [] l
abbrev aK (l:List Ty1):Blk:=bL 9 1 eS [] l
abbrev yB (l:List (aaA×BitVec 16)):V:=vL 2 eSW (default:aaA×BitVec 16) l
abbrev bN :Int×Int:=default
abbrev bC (l:List Tq0):V:=vL 3 bX (default:Tq0) l
abbrev bI (l:List Tq0):Blk:=bL 160 3 bX (default:Tq0) l
abbrev aM (l:List Tq0):Blk:=bL 88 3 bX (default:Tq0) l
abbrev bR (l:List Tq0):Blk:=bL 98 3 bX (default:Tq0) l
abbrev aZ :Int×Int×aaA:=default
abbrev aY (l:List Tq2):V:=vL 3 cH (default:Tq2) l
abbrev aV (l:List Tq2):Blk:=bL 202 3 cH (default:Tq2) l
abbrev aR :aaA×aaA×Int:=default
abbrev aW :aaA×Bool×Bool×Bool:=default
abbrev bZ (l:List Tq4):V:=vL 4 cP (default:Tq4) l
abbrev iD (i:Int):BitVec 16:=BitVec.ofInt 16 i
theorem bJ {Q:Exit->S->Prop} {id:Nat} {draw:Bool} {y:Code} (W:List Nat) (calls:List (Nat×CC)) {l:List Oper} {s:S} (s':S) {φ:Prop} (hφ:φ) (hQ:AWp Tryz.prog y Q s') (h:Abs.regC Tryz.prog W draw calls (s'.t.map (·.1)) (s'.h.map (·.1)) l s=some (s',φ):=by kernel_rfl):AWp Tryz.prog (.seq (.region id l.toArray draw) y) Q s:=AWp.sq W calls _ _ s' φ jU h hφ hQ
theorem bH {Q:Exit->S->Prop} {id:Nat} {draw:Bool} (W:List Nat) (calls:List (Nat×CC)) {l:List Oper} {s:S} (s':S) {φ:Prop} (hφ:φ) (hQ:Q .normal s') (h:Abs.regC Tryz.prog W draw calls (s'.t.map (·.1)) (s'.h.map (·.1)) l s=some (s',φ):=by kernel_rfl):AWp Tryz.prog (.region id l.toArray draw) Q s:=AWp.regC W calls _ _ s' φ jU h hφ hQ
theorem aN {Q:Exit->S->Prop} {id:Nat} {draw:Bool} {y:Code} (W:List Nat) (calls:List (Nat×CC)) {l:List Oper} {s:S} (kt kh:List Nat) {φ:Prop} (hφ:φ) (hQ:AWp Tryz.prog y Q (rS (Abs.regC Tryz.prog W draw calls kt kh l s))) (h:(Abs.regC Tryz.prog W draw calls kt kh l s).map (·.2)=some φ:=by kernel_rfl):AWp Tryz.prog (.seq (.region id l.toArray draw) y) Q s:=AWp.sq W calls _ _ _ φ jU (rS_eq h) hφ hQ
theorem bG {Q:Exit->S->Prop} {id:Nat} {draw:Bool} (W:List Nat) (calls:List (Nat×CC)) {l:List Oper} {s:S} (kt kh:List Nat) {φ:Prop} (hφ:φ) (hQ:Q .normal (rS (Abs.regC Tryz.prog W draw calls kt kh l s))) (h:(Abs.regC Tryz.prog W draw calls kt kh l s).map (·.2)=some φ:=by kernel_rfl):AWp Tryz.prog (.region id l.toArray draw) Q s:=AWp.regC W calls _ _ _ φ jU (rS_eq h) hφ hQ
abbrev f57z0 (x3:Int):=(decide (x3>=(0:Int)))
abbrev qpt (p:Y51):List V:=[.i p.1,.i p.2.1,.i p.2.2.1,.i p.2.2.2.1,.i p.2.2.2.2.1,.str p.2.2.2.2.2.1,.str p.2.2.2.2.2.2,.opq,.opq,.opq,.opq,.opq,.opq,.opq,.opq,.opq,.opq,.opq,.opq,.opq,.opq,.opq,.opq,.opq,.opq,.opq,.opq,.opq]
abbrev qpc (a b c d e:Int) (s t:aaA):List V:=[.i a,.i b,.i c,.i d,.i e,.str s,.str t,.opq,.opq,.opq,.opq,.opq,.opq,.opq,.opq,.opq,.opq,.opq,.opq,.opq,.opq,.opq,.opq,.opq,.opq,.opq,.opq,.opq]
abbrev qmp (n:Nat) (a:List Tq5) (b:List Tq3) (c:List Ty0) (d:List Tq1) (e:List Ty0) (f:List iB) (g:List gZ):List (Nat×Blk):=[(n,bP (V.int .i64) 0 cY [] a),(n+1,bP (V.int .i64) 0 dD false b),(n+2,bP aI bN bU [] c),(n+3,bP (V.int .i64) 0 dC 0 d),(n+4,bP aI bN bU [] e),(n+5,bP bF aZ dG false f),(n+6,bP bE bN dF false g)]
def f57 (x1 x2 x3 x4 x5:Int) (x6 x7:aaA):Option Bool:=
 some ((decide (x3>=(0:Int)))&&(decide (x3<(6:Int))))
theorem wD (x1 x2 x3 x4 x5:Int) (x6 x7:aaA) (r:Bool) (h:f57 x1 x2 x3 x4 x5 x6 x7=some r):aE Tryz.prog 57 [] [] [] [.agg [.i x1,.i x2,.i x3,.i x4,.i x5,.str x6,.str x7,.opq,.opq,.opq,.opq,.opq,.opq,.opq,.opq,.opq,.opq,.opq,.opq,.opq,.opq,.opq,.opq,.opq,.opq,.opq,.opq,.opq]] (.bool r) []:=by
 unfold f57 at h;refine aE.body 0 _ _ Tryz.func57 rfl Tryz.ntmps57 rfl rfl ?_;refine aN [] [] [1] [1] trivial ?_;refine aaE (bH [] [] ⟨11,[(2,.bool ((f57z0 x3)&&(decide (x3<(6:Int)))))],[],[],0⟩ (an3 (an1 (idA (((f57z0 x3)==true)=true))) (an1 (idA (((f57z0 x3)==true)=true))) (bqA (f57z0 x3) true)) ?_);refine tN ?_;obtain rfl:=aaD h;refine aaG ?_;exact bK
abbrev f50z0 (x1 x2 x3 x4 x5:Int) (x6 x7:aaA):List V:=[.i x1,.i x2,.i x3,.i x4,.i x5,.str x6,.str x7,.opq,.opq,.opq,.opq,.opq,.opq,.opq,.opq,.opq,.opq,.opq,.opq,.opq,.opq,.opq,.opq,.opq,.opq,.opq,.opq,.opq]
abbrev f50z1 (x2 x3:Int):=((x2==(4:Int))&&(decide (x3>=(0:Int))))
def f50 (x1 x2 x3 x4 x5:Int) (x6 x7:aaA):Option Tq3:=
 if(((x2==(4:Int))&&(decide (x3>=(0:Int))))&&(decide (x3<(12:Int))))then(
 some (x3,true)
 )else(
 gB ((x2==(3:Int))==true) (f57 x1 x2 x3 x4 x5 x6 x7) fun r8=>
 if((x2==(3:Int))&&r8)then(
 chk (-9223372036854775808<=((12:Int)+x3)/\((12:Int)+x3)<=9223372036854775807)<|
 some (((12:Int)+x3),true)
 )else(
 some ((0:Int),false)
 )
 )
theorem wG (x1 x2 x3 x4 x5:Int) (x6 x7:aaA) (r:Tq3) (h:f50 x1 x2 x3 x4 x5 x6 x7=some r):aE Tryz.prog 50 [] [] [] [.agg [.i x1,.i x2,.i x3,.i x4,.i x5,.str x6,.str x7,.opq,.opq,.opq,.opq,.opq,.opq,.opq,.opq,.opq,.opq,.opq,.opq,.opq,.opq,.opq,.opq,.opq,.opq,.opq,.opq,.opq]] (.tup [.i r.1,.bool r.2]) []:=by
 unfold f50 at h;refine aE.body 0 _ _ Tryz.func50 rfl Tryz.ntmps50 rfl rfl ?_;refine aN [] [] [1] [1] trivial ?_;refine aaE (aaJ (aaE (bG [] [] [1,4] [1] (an6 (an1 (idA (((x2==(4:Int))==true)=true))) (an1 (idA (((x2==(4:Int))==true)=true))) (bqA (x2==(4:Int)) true) (an1 (idA (((f50z1 x2 x3)==true)=true))) (an1 (idA (((f50z1 x2 x3)==true)=true))) (bqA (f50z1 x2 x3) true)) ?_)));refine tN (cK ((f50z1 x2 x3)&&(decide (x3<(12:Int)))) (fun hc1=> ?_) fun hc1=> ?_)
 ·replace h:=aF hc1 h;refine bJ [] [] ⟨31,[(2,.i x3),(3,.bool true)],[],[],0⟩ trivial ?_;obtain rfl:=aaD h;refine aaG (kR (tR ?_));exact bK
 ·replace h:=aG hc1 h;refine aaE ?_;obtain⟨r8,hr8,h⟩:=cF h;refine bG [] [(5,⟨[.agg (f50z0 x1 x2 x3 x4 x5 x6 x7)],[],[],[],.bool r8,[],[],[]⟩)] [1,20] [1] (an2 (aaM (cpC fun hc=>(wD _ _ _ _ _ _ _ _ (hr8 hc))) (an1 (idA (((x2==(3:Int))==true)=true)))) (bqA (x2==(3:Int)) true)) ?_;refine tN (cK ((x2==(3:Int))&&r8) (fun hc2=> ?_) fun hc2=> ?_)
  ·replace h:=aF hc2 h;refine aaE ?_;obtain⟨ob8,h⟩:=aB h;refine bH [] [] ⟨31,[(2,.i ((12:Int)+x3)),(3,.bool true)],[],[],0⟩ (an1 ob8) ?_;refine tN ?_;obtain rfl:=aaD h;refine aaG (kR (tR ?_));exact bK
  ·replace h:=aG hc2 h;refine aaF (kN (tN (aN [] [] [2,3] [] trivial ?_)));obtain rfl:=aaD h;refine aaG ?_;exact bK
def f101 (x1:Int):Option Bool:=
 some (x1 !=x1)
theorem f101_ok (x1:Int) (r:Bool) (h:f101 x1=some r):aE Tryz.prog 101 [] [] [] [.i x1] (.bool r) []:=by
 unfold f101 at h;refine aE.body 0 _ _ Tryz.func101 rfl Tryz.ntmps101 rfl rfl ?_;refine aN [] [] [0] [] trivial ?_;refine bJ [] [] ⟨6,[(2,.bool (x1 !=x1))],[],[],0⟩ trivial ?_;obtain rfl:=aaD h;refine aaG ?_;exact bK
def f71 (x1 x2:Int):Option Int:=
 (f101 x1).bind fun r3=>
 (f101 x2).bind fun r4=>
 if r3 then(
 if r4 then(
 some (0:Int)
 )else(
 some (-1:Int)
 )
 )else(
 if r4 then(
 some (1:Int)
 )else(
 if(decide (x1<x2))then(
 some (-1:Int)
 )else(
 if(decide (x1>x2))then(
 some (1:Int)
 )else(
 some (0:Int)
 )
 )
 )
 )
theorem f71_ok (x1 x2 r:Int) (h:f71 x1 x2=some r):aE Tryz.prog 71 [] [] [] [.i x1,.i x2] (.i r) []:=by
 unfold f71 at h;refine aE.body 0 _ _ Tryz.func71 rfl Tryz.ntmps71 rfl rfl ?_;refine aN [] [] [0,1] [] trivial ?_;refine aaE ?_;obtain⟨r3,hr3,h⟩:=bind_ok h;refine bG [] [(1,⟨[.i x1],[],[],[],.bool r3,[],[],[]⟩)] [0,1,5] [] (an1 (cpT (f101_ok _ _ hr3))) ?_;refine tN (aaE ?_);obtain⟨r4,hr4,h⟩:=bind_ok h;refine bG [] [(1,⟨[.i x2],[],[],[],.bool r4,[],[],[]⟩)] [0,1,5,6] [] (an1 (cpT (f101_ok _ _ hr4))) ?_;refine tN (aaE (aN [] [] [0,1,6,11] [] trivial ?_));refine cK r3 (fun hc1=> ?_) fun hc1=> ?_
 ·replace h:=aF hc1 h;refine aaE (aN [] [] [12] [] trivial ?_);refine cK r4 (fun hc2=> ?_) fun hc2=> ?_
  ·replace h:=aF hc2 h;refine bJ [] [] ⟨20,[(4,.i (0:Int))],[],[],0⟩ trivial ?_;obtain rfl:=aaD h;refine aaG (tR (tR ?_));exact bK
  ·replace h:=aG hc2 h;refine aaF (tN (aN [] [] [4] [] trivial ?_));obtain rfl:=aaD h;refine aaG (tR ?_);exact bK
 ·replace h:=aG hc1 h;refine aaF (tN (aaE (aN [] [] [0,1,13] [] trivial ?_)));refine cK r4 (fun hc3=> ?_) fun hc3=> ?_
  ·replace h:=aF hc3 h;refine bJ [] [] ⟨20,[(4,.i (1:Int))],[],[],0⟩ trivial ?_;obtain rfl:=aaD h;refine aaG (tR ?_);exact bK
  ·replace h:=aG hc3 h;refine aaF (tN (aaE (aN [] [] [0,1,16] [] trivial ?_)));refine cK (decide (x1<x2)) (fun hc4=> ?_) fun hc4=> ?_
   ·replace h:=aF hc4 h;refine bJ [] [] ⟨20,[(4,.i (-1:Int))],[],[],0⟩ trivial ?_;obtain rfl:=aaD h;refine aaG (tR ?_);exact bK
   ·replace h:=aG hc4 h;refine aaF (tN (aaE (aN [] [] [19] [] trivial ?_)));refine cK (decide (x1>x2)) (fun hc5=> ?_) fun hc5=> ?_
    ·replace h:=aF hc5 h;refine bJ [] [] ⟨20,[(4,.i (1:Int))],[],[],0⟩ trivial ?_;obtain rfl:=aaD h;refine aaG (tR ?_);exact bK
    ·replace h:=aG hc5 h;refine aaF (tN (aN [] [] [4] [] trivial ?_));obtain rfl:=aaD h;refine aaG ?_;exact bK
def wF (x1 x2:List Int) (K1:Unit->Option Int):Nat->Nat->Option Int
 |0,_=>none
 |k+1,n3=>
  if(decide ((n3:Int)<(((x1).length:Nat):Int)))then(
  chk ((n3:Int)<(((x1).length:Nat):Int))<|
  if(decide ((n3:Int)>=(((x2).length:Nat):Int)))then(
  some (1:Int)
  )else(
  chk ((n3:Int)<(((x2).length:Nat):Int))<|
  (f71 (x1.getD n3 0) (x2.getD n3 0)).bind fun r4=>
  if(r4 !=(0:Int))then(
  some r4
  )else(
  chk (((n3:Int)+(1:Int))<=9223372036854775807)<|
  (wF x1 x2 K1 k) (n3+1)
  )
  )
  )else(
  K1 ()
  )
def f51 (x1 x2:List Int):Option Int:=
 jn (fun(_:Unit)=>
 if(decide ((((x1).length:Nat):Int)<(((x2).length:Nat):Int)))then(
 some (-1:Int)
 )else(
 some (0:Int)
 )
 ) fun(K1:Unit->Option Int)=>
 wF x1 x2 K1 bB 0
theorem f51_ok (x1 x2:List Int) (r:Int) (h:f51 x1 x2=some r):aE Tryz.prog 51 [] [] [] [vL 1 eI 0 x1,vL 1 eI 0 x2] (.i r) []:=by
 unfold f51 at h;refine aE.body 0 _ _ Tryz.func51 rfl Tryz.ntmps51 rfl rfl ?_;refine aN [] [] [0,1] [] trivial ?_;obtain⟨K1,hK1,h⟩:=aO h;refine aaU (fun(x:Unit)=>match x with|()=>⟨36,[(0,oU x1),(1,oU x2)],[],[],0⟩) (fun x=>K1 x=some r) ?_ ?_
 ·refine bJ [] [] ⟨36,[(0,oU x1),(1,oU x2),(9,oU x1),(10,.i (lZ x1)),(11,.i (0:Int))],[],[],0⟩ trivial ?_;refine aaJ (abI (α:=Nat×Nat) (fun x=>match x with|(_,n3)=>⟨36,[(0,oU x1),(1,oU x2),(9,oU x1),(10,.i (lZ x1)),(11,.i (n3:Int))],[],[],0⟩) (fun x=>wF x1 x2 K1 x.1 x.2=some r) (fun x=>x.1) (bB,0) LR h ?_)
  rintro⟨k0,n3⟩ h
  cases k0 with
  |zero=>exact nEx h
  |succ k0=>
  obtain⟨C0,hC0⟩:∃C,C=wF x1 x2 K1 k0:=⟨_,rfl⟩;replace h:=(wF.eq_2 ..).symm.trans h
  try rw[<-hC0]at h
  refine aN [] [] [0,1,9,10,11,12] [] trivial ?_;refine aaE (cK (decide ((n3:Int)<(lZ x1))) (fun hc1=> ?_) fun hc1=> ?_)
  ·replace h:=aF hc1 h;refine aaF (tN (aaE (aaJ (aaE ?_))));obtain⟨ob0p,h⟩:=aB h;refine bG [] [] [0,1,5,6,9,10,11] [] (an1 (iN ob0p)) ?_;refine tN (aaE (aN [] [] [0,1,5,6,9,10,11,19] [] trivial ?_));refine cK (decide ((n3:Int)>=(lZ x2))) (fun hc2=> ?_) fun hc2=> ?_
   ·replace h:=aF hc2 h;refine bJ [] [] ⟨36,[(4,.i (1:Int))],[],[],0⟩ trivial ?_;obtain rfl:=aaD h;refine aaG (tR (kR (tR (tR (kR (aS ?_))))));exact bK
   ·replace h:=aG hc2 h;refine aaF (tN (aaE ?_));obtain⟨ob1p,h⟩:=aB h;refine bG [] [] [0,1,6,7,9,10,11] [] (an1 (iN ob1p)) ?_;refine tN (aaE ?_);obtain⟨r4,hr4,h⟩:=bind_ok h;refine bG [] [(2,⟨[.i (x1.getD n3 0),.i (x2.getD n3 0)],[],[],[],.i r4,[],[],[]⟩)] [0,1,8,9,10,11] [] (an1 (cpT (f71_ok _ _ _ hr4))) ?_;refine tN (bJ [] [] ⟨36,[(0,oU x1),(1,oU x2),(8,.i r4),(9,oU x1),(10,.i (lZ x1)),(11,.i (n3:Int)),(28,.bool (r4 !=(0:Int)))],[],[],0⟩ trivial ?_);refine cK (r4 !=(0:Int)) (fun hc3=> ?_) fun hc3=> ?_
    ·replace h:=aF hc3 h;refine aN [] [] [4] [] trivial ?_;obtain rfl:=aaD h;refine aaG (kR (tR (tR (kR (aS ?_)))));exact bK
    ·replace h:=aG hc3 h;refine aaF (kN (tN ?_));obtain⟨ob2p,h⟩:=aB h;refine bH [] [] ⟨36,[(0,oU x1),(1,oU x2),(9,oU x1),(10,.i (lZ x1)),(11,.i (((n3+1):Nat):Int))],[],[],0⟩ (an1 (iP ob2p)) ?_;rw[hC0]at h;exact lN (_,(n3+1)) LR h (aaK _)
  ·replace h:=aG hc1 h;refine abK (tE (tE (kS ?_)));exact jN () LR h
 ·rintro⟨⟩ h;replace h:=(congrFun hK1 _).symm.trans h;refine aaE (aN [] [] [35] [] trivial ?_);refine cK (decide ((lZ x1)<(lZ x2))) (fun hc4=> ?_) fun hc4=> ?_
  ·replace h:=aF hc4 h;refine bJ [] [] ⟨36,[(4,.i (-1:Int))],[],[],0⟩ trivial ?_;obtain rfl:=aaD h;refine aaG (tR ?_);exact bK
  ·replace h:=aG hc4 h;refine aaF (tN (aN [] [] [4] [] trivial ?_));obtain rfl:=aaD h;refine aaG ?_;exact bK
def wM (x1:List Y51) (n2:Nat) (K2:Tq6->Option Tq4) (r6:Tq3):Nat->(Nat×Int×Int×Int)->Option Tq4
 |0,_=>none
 |k+1,(n11,i12,i13,i14)=>
  if(decide ((n11:Int)<(((x1).length:Nat):Int)))then(
  jn (fun((i17,i18,i19):Tq6)=>
  chk (((n11:Int)+(1:Int))<=9223372036854775807)<|
  (wM x1 n2 K2 r6 k) ((n11+1),i17,i18,i19)
  ) fun(K3:Tq6->Option Tq4)=>
  chk ((n11:Int)<(((x1).length:Nat):Int))<|
  (f50 ((x1.getD n11 (default:Y51)).1) ((x1.getD n11 (default:Y51)).2.1) ((x1.getD n11 (default:Y51)).2.2.1) ((x1.getD n11 (default:Y51)).2.2.2.1) ((x1.getD n11 (default:Y51)).2.2.2.2.1) ((x1.getD n11 (default:Y51)).2.2.2.2.2.1) ((x1.getD n11 (default:Y51)).2.2.2.2.2.2)).bind fun r15=>
  if((((!r15.2)||(decide (r15.1<r6.1)))||((x1.getD n2 (default:Y51)).2.2.2.1 !=(x1.getD n11 (default:Y51)).2.2.2.1))||(((x1.getD n2 (default:Y51)).2.2.2.2.2.1)==((x1.getD n11 (default:Y51)).2.2.2.2.2.1)))then(
  K3 (i12,i13,i14)
  )else(
  if(decide (i13<(0:Int)))=true then(
  K3 ((x1.getD n2 (default:Y51)).2.2.2.1,r6.1,r15.1)
  )else(
  (f51 [(x1.getD n2 (default:Y51)).2.2.2.1,r6.1,r15.1] [i12,i13,i14]).bind fun r20=>
  if(decide (r20<(0:Int)))then(
  K3 ((x1.getD n2 (default:Y51)).2.2.2.1,r6.1,r15.1)
  )else(
  K3 (i12,i13,i14)
  )
  )
  )
  )else(
  K2 (i12,i13,i14)
  )
def wN (x1:List Y51) (K1:Tq6->Option Tq4):Nat->(Nat×Int×Int×Int)->Option Tq4
 |0,_=>none
 |k+1,(n2,i3,i4,i5)=>
  if(decide ((n2:Int)<(((x1).length:Nat):Int)))then(
  jn (fun((i7,i9,i10):Tq6)=>
  chk (((n2:Int)+(1:Int))<=9223372036854775807)<|
  (wN x1 K1 k) ((n2+1),i7,i9,i10)
  ) fun(K2:Tq6->Option Tq4)=>
  chk ((n2:Int)<(((x1).length:Nat):Int))<|
  (f50 ((x1.getD n2 (default:Y51)).1) ((x1.getD n2 (default:Y51)).2.1) ((x1.getD n2 (default:Y51)).2.2.1) ((x1.getD n2 (default:Y51)).2.2.2.1) ((x1.getD n2 (default:Y51)).2.2.2.2.1) ((x1.getD n2 (default:Y51)).2.2.2.2.2.1) ((x1.getD n2 (default:Y51)).2.2.2.2.2.2)).bind fun r6=>
  if(!r6.2)then(
  K2 (i3,i4,i5)
  )else(
  wM x1 n2 K2 r6 bB (0,i3,i4,i5)
  )
  )else(
  K1 (i3,i4,i5)
  )
abbrev mH :List V:=[.i (0:Int),.i (0:Int),.i (0:Int)]
abbrev nT (r15 r6:Tq3):=((!r15.2)||(decide (r15.1<r6.1)))
abbrev f22z2 (i12 i13 i14:Int):List V:=[.i i12,.i i13,.i i14]
abbrev f22z3 :aJ:=[(2,.cells 60 (mH)),(4,.cells 60 [.i (0:Int),.i (-1:Int),.i (0:Int)])]
abbrev f22z4 (i3 i4 i5:Int):List V:=[.i i3,.i i4,.i i5]
abbrev f22z5 (i7 i9 i10:Int):aJ:=[(2,.cells 60 (mH)),(4,.cells 60 [.i i7,.i i9,.i i10])]
abbrev f22z6 (i3 i4 i5:Int):aJ:=[(2,.cells 60 (mH)),(4,.cells 60 (f22z4 i3 i4 i5))]
def f22 (x1:List Y51):Option Tq4:=
 jn (fun((i21,i22,i23):Tq6)=>
 if(decide (i22<(0:Int)))then(
 some ((0:Int),(0:Int),(0:Int),(13:Int))
 )else(
 some (i21,i22,i23,(0:Int))
 )
 ) fun(K1:Tq6->Option Tq4)=>
 wN x1 K1 bB (0,(0:Int),(-1:Int),(0:Int))
theorem f22_ok (x1:List Y51) (r:Tq4) (h:f22 x1=some r):aE Tryz.prog 22 [] [] [] [vL 28 kT (default:Y51) x1] (.tup [.agg [.i r.1,.i r.2.1,.i r.2.2.1],.i r.2.2.2]) []:=by
 unfold f22 at h;refine aE.bodyD [2] 0 _ _ Tryz.func22 rfl Tryz.ntmps22 rfl rfl ?_;refine aN [] [] [0,2] [2] trivial ?_;refine bJ [] [] ⟨94,[(0,aQ x1),(2,.ptr 2 0),(4,.ptr 4 0)],(f22z3),[],0⟩ (an1 trivial) ?_;obtain⟨K1,hK1,h⟩:=aO h;refine aaU (fun(x:Tq6)=>match x with|(i21,i22,i23)=>⟨94,[(2,.ptr 2 0),(4,.ptr 4 0)],[(2,.cells 60 (mH)),(4,.cells 60 [.i i21,.i i22,.i i23])],[],0⟩) (fun x=>K1 x=some r) ?_ ?_
 ·refine aN [] [] [0,2,4,15,16,17] [2,4] trivial ?_;refine aaJ (abI (α:=Nat×(Nat×Int×Int×Int)) (fun x=>match x with|(_,n2,i3,i4,i5)=>⟨94,[(0,aQ x1),(2,.ptr 2 0),(4,.ptr 4 0),(15,aQ x1),(16,.i (lZ x1)),(17,.i (n2:Int))],(f22z6 i3 i4 i5),[],0⟩) (fun x=>wN x1 K1 x.1 x.2=some r) (fun x=>x.1) (bB,0,(0:Int),(-1:Int),(0:Int)) LR h ?_)
  rintro⟨k0,n2,i3,i4,i5⟩ h
  cases k0 with
  |zero=>exact nEx h
  |succ k0=>
  obtain⟨C0,hC0⟩:∃C,C=wN x1 K1 k0:=⟨_,rfl⟩;replace h:=(wN.eq_2 ..).symm.trans h
  try rw[<-hC0]at h
  refine aN [] [] [0,2,4,15,16,17,18] [2,4] trivial ?_;refine aaE (cK (decide ((n2:Int)<(lZ x1))) (fun hc1=> ?_) fun hc1=> ?_)
  ·replace h:=aF hc1 h;refine aaF (tN ?_);obtain⟨K2,hK2,h⟩:=aO h;refine aaU (fun(x:Tq6)=>match x with|(i7,i9,i10)=>⟨94,[(0,aQ x1),(2,.ptr 2 0),(4,.ptr 4 0),(15,aQ x1),(16,.i (lZ x1)),(17,.i (n2:Int))],(f22z5 i7 i9 i10),[],0⟩) (fun x=>K2 x=some r) ?_ ?_
   ·refine aaJ (aaE ?_);obtain⟨ob0p,h⟩:=aB h;refine bG [] [] [0,2,4,6,15,16,17] [2,4,6] (an2 (iN ob0p) trivial) ?_;refine tN (aaE ?_);obtain⟨r6,hr6,h⟩:=bind_ok h;refine bG [] [(1,⟨[.agg (qpt (x1.getD n2 aH))],[],[],[],.tup [.i r6.1,.bool r6.2],[],[],[]⟩)] [0,2,4,6,7,8,15,16,17] [2,4,6] (an1 (cpT (wG _ _ _ _ _ _ _ _ hr6))) ?_;refine tN (aaE (bJ [] [] ⟨94,[(0,aQ x1),(2,.ptr 2 0),(4,.ptr 4 0),(6,.ptr 6 0),(7,.i r6.1),(15,aQ x1),(16,.i (lZ x1)),(17,.i (n2:Int)),(27,.bool (!r6.2))],[(2,.cells 60 (mH)),(4,.cells 60 (f22z4 i3 i4 i5)),(6,.cells 51 (qpt (x1.getD n2 aH)))],[],0⟩ trivial ?_));refine cK (!r6.2) (fun hc2=> ?_) fun hc2=> ?_
    ·replace h:=aF hc2 h;refine abK (tE (kS ?_));exact jN (i3,i4,i5) LR h
    ·replace h:=aG hc2 h;refine aaF (tN (aN [] [] [0,2,4,6,7,15,16,17,28,29,30] [2,4,6] trivial ?_));refine aaJ (abI (α:=Nat×(Nat×Int×Int×Int)) (fun x=>match x with|(_,n11,i12,i13,i14)=>⟨94,[(0,aQ x1),(2,.ptr 2 0),(4,.ptr 4 0),(6,.ptr 6 0),(7,.i r6.1),(15,aQ x1),(16,.i (lZ x1)),(17,.i (n2:Int)),(28,aQ x1),(29,.i (lZ x1)),(30,.i (n11:Int))],[(2,.cells 60 (mH)),(4,.cells 60 (f22z2 i12 i13 i14)),(6,.cells 51 (qpt (x1.getD n2 aH)))],[],0⟩) (fun x=>wM x1 n2 K2 r6 x.1 x.2=some r) (fun x=>x.1) (bB,0,i3,i4,i5) LR h ?_)
     rintro⟨k1,n11,i12,i13,i14⟩ h
     cases k1 with
     |zero=>exact nEx h
     |succ k1=>
     obtain⟨C1,hC1⟩:∃C,C=wM x1 n2 K2 r6 k1:=⟨_,rfl⟩;replace h:=(wM.eq_2 ..).symm.trans h
     try rw[<-hC1]at h
     refine aN [] [] [0,2,4,6,7,15,16,17,28,29,30,31] [2,4,6] trivial ?_;refine aaE (cK (decide ((n11:Int)<(lZ x1))) (fun hc3=> ?_) fun hc3=> ?_)
     ·replace h:=aF hc3 h;refine aaF (tN ?_);obtain⟨K3,hK3,h⟩:=aO h;refine aaU (fun(x:Tq6)=>match x with|(i17,i18,i19)=>⟨94,[(0,aQ x1),(2,.ptr 2 0),(4,.ptr 4 0),(6,.ptr 6 0),(7,.i r6.1),(15,aQ x1),(16,.i (lZ x1)),(17,.i (n2:Int)),(28,aQ x1),(29,.i (lZ x1)),(30,.i (n11:Int))],[(2,.cells 60 (mH)),(4,.cells 60 [.i i17,.i i18,.i i19]),(6,.cells 51 (qpt (x1.getD n2 aH)))],[],0⟩) (fun x=>K3 x=some r) ?_ ?_
      ·refine aaJ (aaE ?_);obtain⟨ob1p,h⟩:=aB h;refine bG [] [] [0,2,4,6,7,10,15,16,17,28,29,30] [2,4,6,10] (an2 (iN ob1p) trivial) ?_;refine tN (aaE ?_);obtain⟨r15,hr15,h⟩:=bind_ok h;refine bG [] [(1,⟨[.agg (qpt (x1.getD n11 aH))],[],[],[],.tup [.i r15.1,.bool r15.2],[],[],[]⟩)] [0,2,4,6,7,10,11,12,15,16,17,28,29,30] [2,4,6,10] (an1 (cpT (wG _ _ _ _ _ _ _ _ hr15))) ?_;refine tN (aaE (aaE (bH [] [] ⟨94,[(0,aQ x1),(2,.ptr 2 0),(4,.ptr 4 0),(6,.ptr 6 0),(7,.i r6.1),(11,.i r15.1),(15,aQ x1),(16,.i (lZ x1)),(17,.i (n2:Int)),(28,aQ x1),(29,.i (lZ x1)),(30,.i (n11:Int)),(59,.bool (((nT r15 r6)||((x1.getD n2 aH).2.2.2.1 !=(x1.getD n11 aH).2.2.2.1))||(((x1.getD n2 aH).2.2.2.2.2.1)==((x1.getD n11 aH).2.2.2.2.2.1))))],[(2,.cells 60 (mH)),(4,.cells 60 (f22z2 i12 i13 i14)),(6,.cells 51 (qpt (x1.getD n2 aH)))],[],0⟩ (ac6 (an2 (idA (((!r15.2)==false)=true)) (idA (((!r15.2)==false)=true))) (bqA (!r15.2) false) (an1 (idA (((nT r15 r6)==false)=true))) (an1 (idA (((nT r15 r6)==false)=true))) (an2 (idA (((nT r15 r6)==false)=true)) (idA (((nT r15 r6)==false)=true))) (bqA (nT r15 r6) false) (an4 (an1 (idA ((((nT r15 r6)||((x1.getD n2 aH).2.2.2.1 !=(x1.getD n11 aH).2.2.2.1))==false)=true))) (an1 (idA ((((nT r15 r6)||((x1.getD n2 aH).2.2.2.1 !=(x1.getD n11 aH).2.2.2.1))==false)=true))) (an2 (idA ((((nT r15 r6)||((x1.getD n2 aH).2.2.2.1 !=(x1.getD n11 aH).2.2.2.1))==false)=true)) (idA ((((nT r15 r6)||((x1.getD n2 aH).2.2.2.1 !=(x1.getD n11 aH).2.2.2.1))==false)=true))) (bqA ((nT r15 r6)||((x1.getD n2 aH).2.2.2.1 !=(x1.getD n11 aH).2.2.2.1)) false))) ?_)));refine tN (cK (((nT r15 r6)||((x1.getD n2 aH).2.2.2.1 !=(x1.getD n11 aH).2.2.2.1))||(((x1.getD n2 aH).2.2.2.2.2.1)==((x1.getD n11 aH).2.2.2.2.2.1))) (fun hc4=> ?_) fun hc4=> ?_)
       ·replace h:=aF hc4 h;refine abK (tE (kS ?_));exact jN (i12,i13,i14) LR h
       ·replace h:=aG hc4 h;refine aaF (tN (bJ [] [] ⟨94,[(0,aQ x1),(2,.ptr 2 0),(4,.ptr 4 0),(6,.ptr 6 0),(7,.i r6.1),(13,.ptr 13 0),(15,aQ x1),(16,.i (lZ x1)),(17,.i (n2:Int)),(28,aQ x1),(29,.i (lZ x1)),(30,.i (n11:Int))],[(2,.cells 60 (mH)),(4,.cells 60 (f22z2 i12 i13 i14)),(6,.cells 51 (qpt (x1.getD n2 aH))),(13,.cells 60 [.i (x1.getD n2 aH).2.2.2.1,.i r6.1,.i r15.1])],[],0⟩ (an1 trivial) ?_));refine aaE ?_;by_cases hg13_3:(decide (i13<(0:Int)))=true
        ·replace h:=vA hg13_3 h;have ob15:=idA (false=true);have ob16:=idA (false=true);have ob17:=idA (false=true);have ob18:=idA (false=true);have ob19:=idA (false=true);have ob20:=idA (false=true);have ob21:=idA (false=true);have ob22:=idA (false=true);have ob23:true=true->true=false->false=true:=by first|decide|omega|simp|(intro h;cases h)
         refine bH [] [(3,⟨[],[],[],[],(.bool true),[],[0],[]⟩),(18,⟨[],[],[],[],.any,[],[],[]⟩)] ⟨94,[(0,aQ x1),(2,.ptr 2 0),(4,.ptr 4 0),(6,.ptr 6 0),(7,.i r6.1),(13,.ptr 13 0),(15,aQ x1),(16,.i (lZ x1)),(17,.i (n2:Int)),(28,aQ x1),(29,.i (lZ x1)),(30,.i (n11:Int)),(85,.bool true)],[(2,.cells 60 (mH)),(4,.cells 60 (f22z2 i12 i13 i14)),(6,.cells 51 (qpt (x1.getD n2 aH))),(13,.cells 60 [.i (x1.getD n2 aH).2.2.2.1,.i r6.1,.i r15.1])],[],0⟩ (ac6 (show((.bool (decide (i13<(0:Int)))):V)=(.bool true)from(congrArg (fun x=>((.bool x):V)) hg13_3)) (an1 ob15) (an1 ob16) (an1 ob17) (an1 ob18) (an1 ob19) (an3 (an1 ob20) (aaM (show(qF Tryz.prog false 51 [] [] [] [] [] [.bool false,.bool false] [] (.any) [])from⟨nofun,nofun,.inl rfl⟩) (an2 ob21 ob22)) ob23)) ?_;refine tN (cK true (fun hc=> ?_) fun hc=> ?_)
         ·clear hc;refine bH [] [] ⟨94,[(0,aQ x1),(2,.ptr 2 0),(4,.ptr 4 0),(6,.ptr 6 0),(7,.i r6.1),(15,aQ x1),(16,.i (lZ x1)),(17,.i (n2:Int)),(28,aQ x1),(29,.i (lZ x1)),(30,.i (n11:Int))],[(2,.cells 60 (mH)),(4,.cells 60 [.i (x1.getD n2 aH).2.2.2.1,.i r6.1,.i r15.1]),(6,.cells 51 (qpt (x1.getD n2 aH)))],[],0⟩ (an1 trivial) ?_;refine kN ?_;have eq29:(x1.getD n2 aH).2.2.2.1=((x1.getD n2 aH).2.2.2.1):=by first|omega|(simp only[aaH,aaS,abT,abG,aaZ]at *;omega)|(simp;done)|(simp_all;done)|(simp_all;omega)|rfl
          exact jN ((x1.getD n2 aH).2.2.2.1,r6.1,r15.1) (acZ rfl rfl ⟨.refl _,.refl _,.refl _,.refl _,.refl _,.refl _,.refl _,.refl _,.refl _,.refl _,.refl _,trivial⟩ ⟨⟨_,rfl,.refl _⟩,⟨_,rfl,(.cellsL ⟨(.int eq29),.refl _,.refl _,trivial⟩)⟩,⟨_,rfl,.refl _⟩,trivial⟩) h
         ·cases hc
        ·replace h:=vB hg13_3 h;obtain⟨r20,hr20,h⟩:=bind_ok h;have ob15:=idA (true=true);have ob16:=idA (true=true);have ob17:=idA (true=true);have ob18:=idA (true=true);have ob19:=idA (true=true);have ob20:=idA (true=true);have ob21:=idA (true=true);have ob22:=idA (true=true);have ob23:=idA (true=true);have ob28:true=true->false=false->true=true:=by first|decide|omega|simp|(intro h;cases h)
         refine bG [] [(3,⟨[],[],[],[],(.bool false),[],[0],[]⟩),(18,⟨[oU [(x1.getD n2 aH).2.2.2.1,r6.1,r15.1],oU [i12,i13,i14]],[],[],[],.i r20,[],[75,82],[]⟩)] [0,2,4,6,7,13,15,16,17,28,29,30,85] [2,4,6,13] (ac6 (show((.bool (decide (i13<(0:Int)))):V)=(.bool false)from(congrArg (fun x=>((.bool x):V)) (aeG.2 hg13_3))) (an1 ob15) (an1 ob16) (an1 ob17) (an3 ob18 ob19 ob20) (an1 ob21) (an6 (an1 ob22) (an1 ob23) (an3 (idA (true=true)) (idA (true=true)) (idA (true=true))) (cpL (c:=true) [(75,.rows 3 1 3 (dN 1 [.i (x1.getD n2 aH).2.2.2.1,.i r6.1,.i r15.1])),(82,.rows 3 1 3 (dN 1 (f22z2 i12 i13 i14)))] [75,82] [.own 75,.own 82] (fun _=>(f51_ok _ _ _ hr20)) (fun _=>⟨(VLe.of (acV (enc:=eI) [(x1.getD n2 aH).2.2.2.1,r6.1,r15.1] rfl rfl (fun _=>rfl))),(VLe.of (acV (enc:=eI) [i12,i13,i14] rfl rfl (fun _=>rfl))),trivial⟩) (.inr ⟨rfl,trivial⟩)) (an1 (idA (true=true))) ob28)) ?_;refine tN (cK (decide (r20<(0:Int))) (fun hc6=> ?_) fun hc6=> ?_)
         ·replace h:=aF hc6 h;refine bH [] [] ⟨94,[(0,aQ x1),(2,.ptr 2 0),(4,.ptr 4 0),(6,.ptr 6 0),(7,.i r6.1),(15,aQ x1),(16,.i (lZ x1)),(17,.i (n2:Int)),(28,aQ x1),(29,.i (lZ x1)),(30,.i (n11:Int))],[(2,.cells 60 (mH)),(4,.cells 60 [.i (x1.getD n2 aH).2.2.2.1,.i r6.1,.i r15.1]),(6,.cells 51 (qpt (x1.getD n2 aH)))],[],0⟩ (an1 trivial) ?_;refine kN ?_;have eq30:(x1.getD n2 aH).2.2.2.1=((x1.getD n2 aH).2.2.2.1):=by first|omega|(simp only[aaH,aaS,abT,abG,aaZ]at *;omega)|(simp;done)|(simp_all;done)|(simp_all;omega)|rfl
          exact jN ((x1.getD n2 aH).2.2.2.1,r6.1,r15.1) (acZ rfl rfl ⟨.refl _,.refl _,.refl _,.refl _,.refl _,.refl _,.refl _,.refl _,.refl _,.refl _,.refl _,trivial⟩ ⟨⟨_,rfl,.refl _⟩,⟨_,rfl,(.cellsL ⟨(.int eq30),.refl _,.refl _,trivial⟩)⟩,⟨_,rfl,.refl _⟩,trivial⟩) h
         ·replace h:=aG hc6 h;refine aaF (kN ?_);exact jN (i12,i13,i14) LR h
      ·rintro⟨i17,i18,i19⟩ h;replace h:=(congrFun hK3 _).symm.trans h;obtain⟨ob31p,h⟩:=aB h;refine bG [] [] [0,2,4,6,7,15,16,17,28,29,30] [2,4,6] (an1 (iP ob31p)) ?_;rw[hC1]at h;exact lN (_,(n11+1),i17,i18,i19) LR h (aaK _)
     ·replace h:=aG hc3 h;refine abK (tE (tE (kS (kN ?_))));exact jN (i12,i13,i14) LR h
   ·rintro⟨i7,i9,i10⟩ h;replace h:=(congrFun hK2 _).symm.trans h;obtain⟨ob32p,h⟩:=aB h;refine bG [] [] [0,2,4,15,16,17] [2,4] (an1 (iP ob32p)) ?_;rw[hC0]at h;exact lN (_,(n2+1),i7,i9,i10) LR h (aaK _)
  ·replace h:=aG hc1 h;refine abK (tE (tE (kS ?_)));exact jN (i3,i4,i5) LR h
 ·rintro⟨i21,i22,i23⟩ h;replace h:=(congrFun hK1 _).symm.trans h;refine aaE (aN [] [] [2,4,91] [2,4] trivial ?_);refine cK (decide (i22<(0:Int))) (fun hc7=> ?_) fun hc7=> ?_
  ·replace h:=aF hc7 h;refine bJ [] [] ⟨94,[(2,.ptr 2 0),(3,.i (13:Int))],[(2,.cells 60 (mH))],[],0⟩ (an1 trivial) ?_;obtain rfl:=aaD h;refine aaG (tR ?_);exact bD
  ·replace h:=aG hc7 h;refine aaF (tN (aN [] [] [2,3] [2] (an1 trivial) ?_));obtain rfl:=aaD h;refine aaG ?_;exact bD
def f44  :Option Ty7:=
 some ([],[],[],[],[],[],[])
theorem aAI (r:gN×gL×Ty5×iA×Ty5×Ty2×Ty3) (h:f44=some r):aE Tryz.prog 44 [] [] [] [] (.agg [.own 3000,.own 3001,.own 3002,.own 3003,.own 3004,.own 3005,.own 3006]) [(3000,bP (V.int .i64) 0 cY [] r.1),(3001,bP (V.int .i64) 0 dD false r.2.1),(3002,bP aI (default:Tq1) bU [] r.2.2.1),(3003,bP (V.int .i64) 0 dC 0 r.2.2.2.1),(3004,bP aI (default:Tq1) bU [] r.2.2.2.2.1),(3005,bP bF (default:Tq0) dG false r.2.2.2.2.2.1),(3006,bP bE (default:Tq1) dF false r.2.2.2.2.2.2)]:=by
 unfold f44 at h;refine aE.bodyD [0] 0 _ _ Tryz.func44 rfl Tryz.ntmps44 rfl rfl ?_;refine aN [] [] [0] [0] trivial ?_;refine bJ [] [(0,⟨[],[],[],[(1,bP (V.int .i64) 0 cY [] [])],.own 1,[1],[],[]⟩),(1,⟨[],[],[],[(2,bP (V.int .i64) 0 dD false [])],.own 2,[2],[],[]⟩),(2,⟨[],[],[],[(3,bP aI bN bU [] [])],.own 3,[3],[],[]⟩),(3,⟨[],[],[],[(4,bP (V.int .i64) 0 dC 0 [])],.own 4,[4],[],[]⟩),(4,⟨[],[],[],[(5,bP aI bN bU [] [])],.own 5,[5],[],[]⟩),(5,⟨[],[],[],[(6,bP bF aZ dG false [])],.own 6,[6],[],[]⟩),(6,⟨[],[],[],[(7,bP bE bN dF false [])],.own 7,[7],[],[]⟩)] ⟨9,[(0,.ptr 0 0)],((0,.cells 115 [.own 1,.own 2,.own 3,.own 4,.own 5,.own 6,.own 7])::qmp 1 ([]) ([]) ([]) ([]) ([]) ([]) ([])),[],0⟩ (ac6 (aaM (eG (P:=Tryz.prog) (V.int .i64) 0 cY [] 108 1 108) (eF.same [])) (aaM (eG (P:=Tryz.prog) (V.int .i64) 0 dD false 109 2 109) (eF.same [])) (aaM (eG (P:=Tryz.prog) aI bN bU [] 110 3 110) (eF.same [])) (aaM (eG (P:=Tryz.prog) (V.int .i64) 0 dC 0 111 4 111) (eF.same [])) (aaM (eG (P:=Tryz.prog) aI bN bU [] 110 5 110) (eF.same [])) (aaM (eG (P:=Tryz.prog) bF aZ dG false 112 6 112) (eF.same [])) (an2 (aaM (eG (P:=Tryz.prog) bE bN dF false 113 7 113) (eF.same [])) trivial)) ?_;refine aaX (aaL (acQ (aT 1 3000) (aD 1 3000) rfl) (LR (s':=⟨9,[(0,.ptr 0 0)],[(0,.cells 115 [.own 3000,.own 2,.own 3,.own 4,.own 5,.own 6,.own 7]),(3000,bP (V.int .i64) 0 cY [] []),(2,bP (V.int .i64) 0 dD false []),(3,bP aI bN bU [] []),(4,bP (V.int .i64) 0 dC 0 []),(5,bP aI bN bU [] []),(6,bP bF aZ dG false []),(7,bP bE bN dF false [])],[],0⟩))) ?_;refine aaX (aaL (acQ (aT 2 3001) (aD 2 3001) rfl) (LR (s':=⟨9,[(0,.ptr 0 0)],[(0,.cells 115 [.own 3000,.own 3001,.own 3,.own 4,.own 5,.own 6,.own 7]),(3000,bP (V.int .i64) 0 cY [] []),(3001,bP (V.int .i64) 0 dD false []),(3,bP aI bN bU [] []),(4,bP (V.int .i64) 0 dC 0 []),(5,bP aI bN bU [] []),(6,bP bF aZ dG false []),(7,bP bE bN dF false [])],[],0⟩))) ?_;refine aaX (aaL (acQ (aT 3 3002) (aD 3 3002) rfl) (LR (s':=⟨9,[(0,.ptr 0 0)],[(0,.cells 115 [.own 3000,.own 3001,.own 3002,.own 4,.own 5,.own 6,.own 7]),(3000,bP (V.int .i64) 0 cY [] []),(3001,bP (V.int .i64) 0 dD false []),(3002,bP aI bN bU [] []),(4,bP (V.int .i64) 0 dC 0 []),(5,bP aI bN bU [] []),(6,bP bF aZ dG false []),(7,bP bE bN dF false [])],[],0⟩))) ?_;refine aaX (aaL (acQ (aT 4 3003) (aD 4 3003) rfl) (LR (s':=⟨9,[(0,.ptr 0 0)],[(0,.cells 115 [.own 3000,.own 3001,.own 3002,.own 3003,.own 5,.own 6,.own 7]),(3000,bP (V.int .i64) 0 cY [] []),(3001,bP (V.int .i64) 0 dD false []),(3002,bP aI bN bU [] []),(3003,bP (V.int .i64) 0 dC 0 []),(5,bP aI bN bU [] []),(6,bP bF aZ dG false []),(7,bP bE bN dF false [])],[],0⟩))) ?_;refine aaX (aaL (acQ (aT 5 3004) (aD 5 3004) rfl) (LR (s':=⟨9,[(0,.ptr 0 0)],[(0,.cells 115 [.own 3000,.own 3001,.own 3002,.own 3003,.own 3004,.own 6,.own 7]),(3000,bP (V.int .i64) 0 cY [] []),(3001,bP (V.int .i64) 0 dD false []),(3002,bP aI bN bU [] []),(3003,bP (V.int .i64) 0 dC 0 []),(3004,bP aI bN bU [] []),(6,bP bF aZ dG false []),(7,bP bE bN dF false [])],[],0⟩))) ?_;refine aaX (aaL (acQ (aT 6 3005) (aD 6 3005) rfl) (LR (s':=⟨9,[(0,.ptr 0 0)],[(0,.cells 115 [.own 3000,.own 3001,.own 3002,.own 3003,.own 3004,.own 3005,.own 7]),(3000,bP (V.int .i64) 0 cY [] []),(3001,bP (V.int .i64) 0 dD false []),(3002,bP aI bN bU [] []),(3003,bP (V.int .i64) 0 dC 0 []),(3004,bP aI bN bU [] []),(3005,bP bF aZ dG false []),(7,bP bE bN dF false [])],[],0⟩))) ?_;refine aaX (aaL (acQ (aT 7 3006) (aD 7 3006) rfl) (LR (s':=⟨9,[(0,.ptr 0 0)],((0,.cells 115 [.own 3000,.own 3001,.own 3002,.own 3003,.own 3004,.own 3005,.own 3006])::qmp 3000 ([]) ([]) ([]) ([]) ([]) ([]) ([])),[],0⟩))) ?_;obtain rfl:=aaD h;refine aaX (LR (s':=⟨9,[(0,.ptr 0 0)],[(3000,bP (V.int .i64) 0 cY [] []),(3001,bP (V.int .i64) 0 dD false []),(3002,bP aI bN bU [] []),(3003,bP (V.int .i64) 0 dC 0 []),(3004,bP aI bN bU [] []),(3005,bP bF aZ dG false []),(3006,bP bE bN dF false []),(0,.cells 115 [.own 3000,.own 3001,.own 3002,.own 3003,.own 3004,.own 3005,.own 3006])],[],0⟩)) ?_;refine aaG ?_;exact bD
def f192 (x1:Int):Option Int:=
 chk (0<=x1/\x1<((cs0.length:Nat):Int))<|
 chk ((((cs0.getD ((x1).toNat) 0).toNat:Nat):Int)<=9223372036854775807)<|
 some (((cs0.getD ((x1).toNat) 0).toNat:Nat):Int)
theorem f192_ok (x1 r:Int) (h:f192 x1=some r):aE Tryz.prog 192 [] [] [] [.int .u8 x1] (.i r) []:=by
 unfold f192 at h;refine aE.body 0 _ _ Tryz.func192 rfl Tryz.ntmps192 rfl rfl ?_;refine aN [] [] [0] [] trivial ?_;refine aaE ?_;obtain⟨ob0,ob1p,h⟩:=ck2 h;have ob1: -9223372036854775808<=(((cs0.getD ((x1).toNat) 0).toNat:Nat):Int)/\(((cs0.getD ((x1).toNat) 0).toNat:Nat):Int)<=9223372036854775807:=⟨by omega,ob1p⟩;refine bH [] [] ⟨6,[(2,.i (((cs0.getD ((x1).toNat) 0).toNat:Nat):Int))],[],[],0⟩ (an2 ob0 ob1) ?_;refine tN ?_;obtain rfl:=aaD h;refine aaG ?_;exact bK
def eA (x1:aaA) (K1:Unit->Option Tq6):Nat->(Int×Nat)->Option Tq6
 |0,_=>none
 |k+1,(i2,n3)=>
  if(decide ((n3:Int)<(min ((x1.length:Nat):Int) (10:Int))))then(
  chk ((n3:Int)<((x1.length:Nat):Int))<|
  if(decide ((((x1.getD n3 0).toNat:Nat):Int)>=(128:Int)))then(
  chk (0<=(dU .and .u8 (((x1.getD n3 0).toNat:Nat):Int) (127:Int))/\(dU .and .u8 (((x1.getD n3 0).toNat:Nat):Int) (127:Int))<=18446744073709551615)<|
  chk (-9223372036854775808<=((7:Int) *(n3:Int))/\((7:Int) *(n3:Int))<=9223372036854775807)<|
  chk (((n3:Int)+(1:Int))<=9223372036854775807)<|
  (eA x1 K1 k) ((dU .or .u64 i2 (IntKind.wrap .u64 ((dU .and .u8 (((x1.getD n3 0).toNat:Nat):Int) (127:Int)) *2^(min (7 *n3) (IntKind.bits .u64))))),(n3+1))
  )else(
  (f192 (((x1.getD n3 0).toNat:Nat):Int)).bind fun r4=>
  chk (-9223372036854775808<=((7:Int) *(n3:Int))/\((7:Int) *(n3:Int))<=9223372036854775807)<|
  chk (-9223372036854775808<=(r4+(((7 *n3):Nat):Int))/\(r4+(((7 *n3):Nat):Int))<=9223372036854775807)<|
  if(decide ((r4+(((7 *n3):Nat):Int))>(64:Int)))then(
  some ((0:Int),(0:Int),(7:Int))
  )else(
  if(((((x1.getD n3 0).toNat:Nat):Int)==(0:Int))&&(decide ((n3:Int)>(0:Int))))then(
  some ((0:Int),(0:Int),(2:Int))
  )else(
  chk ((((x1.getD n3 0).toNat:Nat):Int)<=18446744073709551615)<|
  chk (-9223372036854775808<=((7:Int) *(n3:Int))/\((7:Int) *(n3:Int))<=9223372036854775807)<|
  chk ((7 *n3)<=IntKind.bits .u64/\0<=((((x1.getD n3 0).toNat:Nat):Int) *2^(7 *n3))/\((((x1.getD n3 0).toNat:Nat):Int) *2^(7 *n3))<=18446744073709551615)<|
  chk (((n3:Int)+(1:Int))<=9223372036854775807)<|
  some ((dU .or .u64 i2 ((((x1.getD n3 0).toNat:Nat):Int) *2^(7 *n3))),(((n3+1):Nat):Int),(0:Int))
  )
  )
  )
  )else(
  K1 ()
  )
theorem aBO (x1:aaA) (K1:Unit->Option Tq6) (k:Nat) (i2:Int) (n3:Nat):eA x1 K1 (k+1) (i2,n3)=
  if(decide ((n3:Int)<(min ((x1.length:Nat):Int) (10:Int))))then(
  chk ((n3:Int)<((x1.length:Nat):Int))<|
  if(decide ((((x1.getD n3 0).toNat:Nat):Int)>=(128:Int)))then(
  chk (0<=(dU .and .u8 (((x1.getD n3 0).toNat:Nat):Int) (127:Int))/\(dU .and .u8 (((x1.getD n3 0).toNat:Nat):Int) (127:Int))<=18446744073709551615)<|
  chk (-9223372036854775808<=((7:Int) *(n3:Int))/\((7:Int) *(n3:Int))<=9223372036854775807)<|
  chk (((n3:Int)+(1:Int))<=9223372036854775807)<|
  (eA x1 K1 k) ((dU .or .u64 i2 (IntKind.wrap .u64 ((dU .and .u8 (((x1.getD n3 0).toNat:Nat):Int) (127:Int)) *2^(min (7 *n3) (IntKind.bits .u64))))),(n3+1))
  )else(
  (f192 (((x1.getD n3 0).toNat:Nat):Int)).bind fun(r4:Int)=>
  chk (-9223372036854775808<=((7:Int) *(n3:Int))/\((7:Int) *(n3:Int))<=9223372036854775807)<|
  chk (-9223372036854775808<=(r4+(((7 *n3):Nat):Int))/\(r4+(((7 *n3):Nat):Int))<=9223372036854775807)<|
  if(decide ((r4+(((7 *n3):Nat):Int))>(64:Int)))then(
  some ((0:Int),(0:Int),(7:Int))
  )else(
  if(((((x1.getD n3 0).toNat:Nat):Int)==(0:Int))&&(decide ((n3:Int)>(0:Int))))then(
  some ((0:Int),(0:Int),(2:Int))
  )else(
  chk ((((x1.getD n3 0).toNat:Nat):Int)<=18446744073709551615)<|
  chk (-9223372036854775808<=((7:Int) *(n3:Int))/\((7:Int) *(n3:Int))<=9223372036854775807)<|
  chk ((7 *n3)<=IntKind.bits .u64/\0<=((((x1.getD n3 0).toNat:Nat):Int) *2^(7 *n3))/\((((x1.getD n3 0).toNat:Nat):Int) *2^(7 *n3))<=18446744073709551615)<|
  chk (((n3:Int)+(1:Int))<=9223372036854775807)<|
  some ((dU .or .u64 i2 ((((x1.getD n3 0).toNat:Nat):Int) *2^(7 *n3))),(((n3+1):Nat):Int),(0:Int))
  )
  )
  )
  )else(
  K1 ()
  ):=rfl
abbrev f156z0 :List (Nat×V):=[(2,.int .u64 (0:Int)),(3,.i (0:Int)),(4,.i (7:Int))]
def f156 (x1:aaA):Option Tq6:=
 jn (fun(_:Unit)=>
 if(decide (((x1.length:Nat):Int)<(10:Int)))then(
 some ((0:Int),(0:Int),(9:Int))
 )else(
 some ((0:Int),(0:Int),(7:Int))
 )
 ) fun(K1:Unit->Option Tq6)=>
 eA x1 K1 bB ((0:Int),0)
theorem f156_ok (x1:aaA) (r:Tq6) (h:f156 x1=some r):aE Tryz.prog 156 [] [] [] [.str x1] (.tup [.int .u64 r.1,.i r.2.1,.i r.2.2]) []:=by
 unfold f156 at h;refine aE.body 0 _ _ Tryz.func156 rfl Tryz.ntmps156 rfl rfl ?_;refine aN [25] [] [0] [] trivial ?_;refine bJ [25] [] ⟨52,[(0,.str x1),(5,.int .u64 (0:Int))],[],[],0⟩ trivial ?_;obtain⟨K1,hK1,h⟩:=aO h;refine aaU (fun(x:Unit)=>match x with|()=>⟨52,[(0,.str x1)],[],[],0⟩) (fun x=>K1 x=some r) ?_ ?_
 ·refine aN [25] [] [0,5,10,11] [] trivial ?_;refine aaJ (abI (α:=Nat×(Int×Nat)) (fun x=>match x with|(_,i2,n3)=>⟨52,[(0,.str x1),(5,.int .u64 i2),(10,.i (min (lZ x1) (10:Int))),(11,.i (n3:Int))],[],[],0⟩) (fun x=>eA x1 K1 x.1 x.2=some r) (fun x=>x.1) (bB,(0:Int),0) LR h ?_)
  rintro⟨k0,i2,n3⟩ h
  cases k0 with
  |zero=>exact nEx h
  |succ k0=>
  obtain⟨C0,hC0⟩:∃C,C=eA x1 K1 k0:=⟨_,rfl⟩;replace h:=(aBO ..).symm.trans h
  try rw[<-hC0]at h
  refine aN [25] [] [0,5,10,11,12] [] trivial ?_;refine aaE (cK (decide ((n3:Int)<(min (lZ x1) (10:Int)))) (fun hc1=> ?_) fun hc1=> ?_)
  ·replace h:=aF hc1 h;refine aaF (tN (aaE (aaJ (aN [25] [] [0,5,6,10,11] [] trivial ?_))));refine aaE ?_;obtain⟨ob0p,h⟩:=aB h;refine bG [25] [] [0,5,6,7,10,11] [] (an1 (iN ob0p)) ?_;refine tN (aaE (aN [25] [] [0,5,6,7,10,11,18] [] trivial ?_));refine cK (decide ((((x1.getD n3 0).toNat:Nat):Int)>=(128:Int))) (fun hc2=> ?_) fun hc2=> ?_
   ·replace h:=aF hc2 h;refine aaE ?_;obtain⟨ob1,ob2,h⟩:=ck2 h;have ob3:0<=(((7 *n3):Nat):Int):=by omega
    refine bH [25] [] ⟨52,[(0,.str x1),(5,.int .u64 (dU .or .u64 i2 (IntKind.wrap .u64 ((dU .and .u8 (((x1.getD n3 0).toNat:Nat):Int) (127:Int)) *2^(min (7 *n3) (IntKind.bits .u64)))))),(10,.i (min (lZ x1) (10:Int))),(11,.i (n3:Int))],[],[],0⟩ (an3 ob1 ob2 ob3) ?_;refine tN (abK (tE (kS (tN ?_))));obtain⟨ob4p,h⟩:=aB h;refine bG [25] [] [0,5,10,11] [] (an1 (iP ob4p)) ?_;rw[hC0]at h;exact lN (_,(dU .or .u64 i2 (IntKind.wrap .u64 ((dU .and .u8 (((x1.getD n3 0).toNat:Nat):Int) (127:Int)) *2^(min (7 *n3) (IntKind.bits .u64))))),(n3+1)) LR h (aaK _)
   ·replace h:=aG hc2 h;refine aaF (tN (aaE (aaE ?_)));obtain⟨r4,hr4,h⟩:=bind_ok h;obtain⟨ob5,ob6,h⟩:=ck2 h;refine bG [25] [(1,⟨[.int .u8 (((x1.getD n3 0).toNat:Nat):Int)],[],[],[],.i r4,[],[],[]⟩)] [5,6,7,32] [] (an3 (cpT (f192_ok _ _ hr4)) ob5 ob6) ?_;refine tN (cK (decide ((r4+(((7 *n3):Nat):Int))>(64:Int))) (fun hc3=> ?_) fun hc3=> ?_)
    ·replace h:=aF hc3 h;refine bJ [25] [] ⟨52,(f156z0),[],[],0⟩ trivial ?_;obtain rfl:=aaD h;refine aaG (tR (kR (tR (tR (kR (aS ?_))))));exact bK
    ·replace h:=aG hc3 h;refine aaF (tN (aaE (aaE (bG [25] [] [5,6,7,38] [] (an2 (an1 (idA ((((((x1.getD n3 0).toNat:Nat):Int)==(0:Int))==true)=true))) (bqA ((((x1.getD n3 0).toNat:Nat):Int)==(0:Int)) true)) ?_))));refine tN (cK (((((x1.getD n3 0).toNat:Nat):Int)==(0:Int))&&(decide ((n3:Int)>(0:Int)))) (fun hc4=> ?_) fun hc4=> ?_)
     ·replace h:=aF hc4 h;refine bJ [25] [] ⟨52,[(2,.int .u64 (0:Int)),(3,.i (0:Int)),(4,.i (2:Int))],[],[],0⟩ trivial ?_;obtain rfl:=aaD h;refine aaG (tR (kR (tR (tR (kR (aS ?_))))));exact bK
     ·replace h:=aG hc4 h;refine aaF (tN (aaE ?_));obtain⟨ob9p,h⟩:=aB h;have ob9:0<=(((x1.getD n3 0).toNat:Nat):Int)/\(((x1.getD n3 0).toNat:Nat):Int)<=18446744073709551615:=⟨by omega,ob9p⟩;obtain⟨ob10,ob11p,h⟩:=ck2 h;have ob11:0<=(((7 *n3):Nat):Int)/\(7 *n3)<=IntKind.bits .u64/\0<=((((x1.getD n3 0).toNat:Nat):Int) *2^(7 *n3))/\((((x1.getD n3 0).toNat:Nat):Int) *2^(7 *n3))<=18446744073709551615:=⟨by omega,ob11p.1,ob11p.2.1,ob11p.2.2⟩;obtain⟨ob12p,h⟩:=aB h;refine bG [25] [] [2,3,4] [] (an4 ob9 ob10 ob11 (iP ob12p)) ?_;refine tN ?_;obtain rfl:=aaD h;refine aaG (kR (tR (tR (kR (aS ?_)))));exact bK
  ·replace h:=aG hc1 h;refine abK (tE (tE (kS ?_)));exact jN () LR h
 ·rintro⟨⟩ h;replace h:=(congrFun hK1 _).symm.trans h;refine aaE (aN [25] [] [51] [] trivial ?_);refine cK (decide ((lZ x1)<(10:Int))) (fun hc5=> ?_) fun hc5=> ?_
  ·replace h:=aF hc5 h;refine bJ [25] [] ⟨52,[(2,.int .u64 (0:Int)),(3,.i (0:Int)),(4,.i (9:Int))],[],[],0⟩ trivial ?_;obtain rfl:=aaD h;refine aaG (tR ?_);exact bK
  ·replace h:=aG hc5 h;refine aaF (tN (aN [25] [] [2,3,4] [] trivial ?_));obtain rfl:=aaD h;refine aaG ?_;exact bK
def f126 (x1:aaA):Option (aaA×Int×Int):=
 (f156 x1).bind fun r2=>
 if(r2.2.2 !=(0:Int))then(
 some ([],(0:Int),r2.2.2)
 )else(
 chk (-9223372036854775808<=(((x1.length:Nat):Int)-r2.2.1)/\(((x1.length:Nat):Int)-r2.2.1)<=9223372036854775807)<|
 chk (0<=(((x1.length:Nat):Int)-r2.2.1)/\(((x1.length:Nat):Int)-r2.2.1)<=18446744073709551615)<|
 if(decide (r2.1>(((x1.length:Nat):Int)-r2.2.1)))then(
 some ([],(0:Int),(9:Int))
 )else(
 chk (-9223372036854775808<=r2.1/\r2.1<=9223372036854775807)<|
 chk (-9223372036854775808<=(r2.2.1+r2.1)/\(r2.2.1+r2.1)<=9223372036854775807)<|
 chk (0<=r2.2.1/\r2.2.1<=(r2.2.1+r2.1)/\(r2.2.1+r2.1)<=((x1.length:Nat):Int))<|
 some (((x1.take (((r2.2.1+r2.1)).toNat)).drop ((r2.2.1).toNat)),(r2.2.1+r2.1),(0:Int))
 )
 )
theorem f126_ok (x1:aaA) (r:aaA×Int×Int) (h:f126 x1=some r):aE Tryz.prog 126 [] [] [] [.str x1] (.tup [.str r.1,.i r.2.1,.i r.2.2]) []:=by
 unfold f126 at h;refine aE.body 0 _ _ Tryz.func126 rfl Tryz.ntmps126 rfl rfl ?_;refine aN [] [] [0] [] trivial ?_;refine aaE ?_;obtain⟨r2,hr2,h⟩:=bind_ok h;refine bG [] [(1,⟨[.str x1],[],[],[],.tup [.int .u64 r2.1,.i r2.2.1,.i r2.2.2],[],[],[]⟩)] [0,5,6,7] [] (an1 (cpT (f156_ok _ _ hr2))) ?_;refine tN (aaE (aN [] [] [0,5,6,7,16] [] trivial ?_));refine cK (r2.2.2 !=(0:Int)) (fun hc1=> ?_) fun hc1=> ?_
 ·replace h:=aF hc1 h;refine bJ [] [] ⟨34,[(2,.str []),(3,.i (0:Int)),(4,.i r2.2.2)],[],[],0⟩ trivial ?_;obtain rfl:=aaD h;refine aaG (tR ?_);exact bK
 ·replace h:=aG hc1 h;refine aaF (tN (aaE (aaE ?_)));obtain⟨ob0,ob1,h⟩:=ck2 h;refine bG [] [] [0,5,6,24] [] (an2 ob0 ob1) ?_;refine tN (cK (decide (r2.1>((lZ x1)-r2.2.1))) (fun hc2=> ?_) fun hc2=> ?_)
  ·replace h:=aF hc2 h;refine bJ [] [] ⟨34,[(2,.str []),(3,.i (0:Int)),(4,.i (9:Int))],[],[],0⟩ trivial ?_;obtain rfl:=aaD h;refine aaG (tR ?_);exact bK
  ·replace h:=aG hc2 h;refine aaF (tN (aaE ?_));obtain⟨ob2,ob3,h⟩:=ck2 h;refine bG [] [] [0,6,8] [] (an2 ob2 ob3) ?_;refine tN (aaE ?_);obtain⟨ob4,h⟩:=aB h;refine bH [] [] ⟨34,[(2,.str ((x1.take (((r2.2.1+r2.1)).toNat)).drop ((r2.2.1).toNat))),(3,.i (r2.2.1+r2.1)),(4,.i (0:Int))],[],[],0⟩ (an1 ob4) ?_;refine tN ?_;obtain rfl:=aaD h;refine aaG ?_;exact bK
def eK (x1:aaA) (r2:Tq6) (K1:(Int×List Ty1)->Option (Int×Int×List Ty1)):Nat->(Int×Nat×List Ty1)->Option (Int×Int×List Ty1)
 |0,_=>none
 |k+1,(i3,n4,l5)=>
  if(decide ((n4:Int)<r2.1))then(
  (f126 (x1.drop ((i3).toNat))).bind fun r6=>
  chk (0<=i3/\i3<=((x1.length:Nat):Int))<|
  if(r6.2.2 !=(0:Int))then(
  some ((0:Int),r6.2.2,[])
  )else(
  chk (((l5).length+1) *16<=140737488355328)<|
  chk (-9223372036854775808<=(i3+r6.2.1)/\(i3+r6.2.1)<=9223372036854775807)<|
  chk (((n4:Int)+(1:Int))<=18446744073709551615)<|
  (eK x1 r2 K1 k) ((i3+r6.2.1),(n4+1),(l5++[r6.1]))
  )
  )else(
  K1 (i3,l5)
  )
def f125 (x1:aaA):Option (Int×Int×List Ty1):=
 (f156 x1).bind fun r2=>
 if(r2.2.2 !=(0:Int))then(
 some ((0:Int),r2.2.2,[])
 )else(
 jn (fun((i7,l8):Int×List Ty1)=>
 some (i7,(0:Int),l8)
 ) fun(K1:(Int×List Ty1)->Option (Int×Int×List Ty1))=>
 eK x1 r2 K1 bB (r2.2.1,0,[])
 )
theorem f125_ok (x1:aaA) (r:Int×Int×List Ty1) (h:f125 x1=some r):aE Tryz.prog 125 [] [] [] [.str x1,.fn (.func 126) []] (.tup [.own 3000,.i r.1,.i r.2.1]) [(3000,bL 9 1 eS [] r.2.2)]:=by
 unfold f125 at h;refine aE.body 0 _ _ Tryz.func125 rfl Tryz.ntmps125 rfl rfl ?_;refine aN [] [] [0,1] [] trivial ?_;refine aaE ?_;obtain⟨r2,hr2,h⟩:=bind_ok h;refine bG [] [(1,⟨[.str x1],[],[],[],.tup [.int .u64 r2.1,.i r2.2.1,.i r2.2.2],[],[],[]⟩)] [0,1,7,8,9] [] (an1 (cpT (f156_ok _ _ hr2))) ?_;refine tN (aaE (aN [] [] [0,1,7,8,9,21] [] trivial ?_));refine cK (r2.2.2 !=(0:Int)) (fun hc1=> ?_) fun hc1=> ?_
 ·replace h:=aF hc1 h;refine bJ [] [] ⟨48,[(4,.nils),(5,.i (0:Int)),(6,.i r2.2.2)],[],[],0⟩ trivial ?_;refine aaX (aaL (adM 4 3000 9 1 (cE eS [] []) rfl rfl (aaW rfl)) (LR (s':=⟨48,[(4,.own 3000),(5,.i (0:Int)),(6,.i r2.2.2)],[(3000,aK [])],[],0⟩))) ?_;obtain rfl:=aaD h;refine aaX (LR (s':=⟨48,[(4,.own 3000),(5,.i (0:Int)),(6,.i r2.2.2)],[(3000,aK [])],[],0⟩)) ?_;refine aaG (tR ?_);exact bK
 ·replace h:=aG hc1 h;refine aaF (tN (aN [] [] [0,1,7,8,10] [] trivial ?_));obtain⟨K1,hK1,h⟩:=aO h;refine aaU (fun(x:Int×List Ty1)=>match x with|(i7,l8)=>⟨48,[(8,.i i7),(10,.own 5010)],[(5010,aK l8)],[],0⟩) (fun x=>K1 x=some r) ?_ ?_
  ·refine bJ [] [] ⟨48,[(0,.str x1),(1,.fn (.func 126) []),(8,.i r2.2.1),(10,.nils),(23,.int .u64 r2.1),(24,.int .u64 (0:Int))],[],[],0⟩ trivial ?_;refine aaJ (abI (α:=Nat×(Int×Nat×List Ty1)) (fun x=>match x with|(_,i3,n4,l5)=>⟨48,[(0,.str x1),(1,.fn (.func 126) []),(8,.i i3),(10,.own 5010),(23,.int .u64 r2.1),(24,.int .u64 (n4:Int))],[(5010,aK l5)],[],0⟩) (fun x=>eK x1 r2 K1 x.1 x.2=some r) (fun x=>x.1) (bB,r2.2.1,0,[]) (aaL (aaL (adM 10 5010 9 1 (cE eS [] []) rfl rfl (aaW rfl)) (LR (s':=⟨48,[(0,.str x1),(1,.fn (.func 126) []),(8,.i r2.2.1),(10,.own 5010),(23,.int .u64 r2.1),(24,.int .u64 (0:Int))],[(5010,aK [])],[],0⟩))) LR) h ?_)
   rintro⟨k0,i3,n4,l5⟩ h
   cases k0 with
   |zero=>exact nEx h
   |succ k0=>
   obtain⟨C0,hC0⟩:∃C,C=eK x1 r2 K1 k0:=⟨_,rfl⟩;replace h:=(eK.eq_2 ..).symm.trans h
   try rw[<-hC0]at h
   refine aN [] [] [0,1,8,10,23,24,25] [5010] trivial ?_;refine aaE (cK (decide ((n4:Int)<r2.1)) (fun hc2=> ?_) fun hc2=> ?_)
   ·replace h:=aF hc2 h;refine aaF (tN (aaE (aaJ (aaE ?_))));obtain⟨r6,hr6,h⟩:=bind_ok h;obtain⟨ob0,h⟩:=aB h;refine bG [] [(4,⟨[.str (x1.drop ((i3).toNat))],[],[],[],.tup [.str r6.1,.i r6.2.1,.i r6.2.2],[],[],[]⟩)] [0,1,8,10,11,12,13,23,24] [5010] (an2 ob0 (cpT (f126_ok _ _ hr6))) ?_;refine tN (aaE (aN [] [] [0,1,8,10,11,12,13,23,24,36] [5010] trivial ?_));refine cK (r6.2.2 !=(0:Int)) (fun hc3=> ?_) fun hc3=> ?_
    ·replace h:=aF hc3 h;refine bJ [] [] ⟨48,[(4,.nils),(5,.i (0:Int)),(6,.i r6.2.2)],[],[],0⟩ trivial ?_;refine aaX (aaL (adM 4 3000 9 1 (cE eS [] []) rfl rfl (aaW rfl)) (LR (s':=⟨48,[(4,.own 3000),(5,.i (0:Int)),(6,.i r6.2.2)],[(3000,aK [])],[],0⟩))) ?_;obtain rfl:=aaD h;refine aaX (LR (s':=⟨48,[(4,.own 3000),(5,.i (0:Int)),(6,.i r6.2.2)],[(3000,aK [])],[],0⟩)) ?_;refine aaG (tR (kR (tR (tR (kR (aS ?_))))));exact bK
    ·replace h:=aG hc3 h;refine aaF (tN (aaE ?_));obtain⟨ob1,h⟩:=aB h;refine bH [] [] ⟨48,[(0,.str x1),(1,.fn (.func 126) []),(8,.i i3),(10,.own 5010),(12,.i r6.2.1),(23,.int .u64 r2.1),(24,.int .u64 (n4:Int))],[(5010,.rows 9 1 ((l5).length+1) (gK (l5).length (cE eS [] l5) (dN 1 [.str r6.1])))],[],0⟩ (an1 ob1) ?_;refine tN (aaX (acZ (s':=⟨48,[(0,.str x1),(1,.fn (.func 126) []),(8,.i i3),(10,.own 5010),(12,.i r6.2.1),(23,.int .u64 r2.1),(24,.int .u64 (n4:Int))],[(5010,aK (l5++[r6.1]))],[],0⟩) rfl rfl ⟨.refl _,.refl _,.refl _,.refl _,.refl _,.refl _,.refl _,trivial⟩ ⟨⟨_,rfl,(acK (adQ (acX _) (acV (enc:=eS) [r6.1] rfl rfl (fun _=>rfl))))⟩,trivial⟩) ?_);obtain⟨ob2,h⟩:=aB h;refine bG [] [] [0,1,8,10,23,24] [5010] (an1 ob2) ?_;refine kN (tN ?_);obtain⟨ob3p,h⟩:=aB h;have ob3:0<=((n4:Int)+(1:Int))/\((n4:Int)+(1:Int))<=18446744073709551615:=⟨by omega,ob3p⟩;refine bH [] [] ⟨48,[(0,.str x1),(1,.fn (.func 126) []),(8,.i (i3+r6.2.1)),(10,.own 5010),(23,.int .u64 r2.1),(24,.int .u64 (((n4+1):Nat):Int))],[(5010,aK (l5++[r6.1]))],[],0⟩ (an1 ob3) ?_;rw[hC0]at h;exact lN (_,(i3+r6.2.1),(n4+1),(l5++[r6.1])) LR h (aaK _)
   ·replace h:=aG hc2 h;refine abK (tE (tE (kS ?_)));exact jN (i3,l5) LR h
  ·rintro⟨i7,l8⟩ h;replace h:=(congrFun hK1 _).symm.trans h;refine bJ [] [] ⟨48,[(4,.own 5010),(5,.i i7),(6,.i (0:Int))],[(5010,aK l8)],[],0⟩ trivial ?_;refine aaX (aaL (acQ (aT 5010 3000) (aD 5010 3000) rfl) (LR (s':=⟨48,[(4,.own 3000),(5,.i i7),(6,.i (0:Int))],[(3000,aK l8)],[],0⟩))) ?_;obtain rfl:=aaD h;refine aaX (LR (s':=⟨48,[(4,.own 3000),(5,.i i7),(6,.i (0:Int))],[(3000,aK l8)],[],0⟩)) ?_;refine aaG ?_;exact bK
def f96 (x1:aaA):Option (Int×Int×List Ty1):=
 (f125 x1).bind fun r2=>
 some (r2.1,r2.2.1,r2.2.2)
theorem f96_ok (x1:aaA) (r:Int×Int×List Ty1) (h:f96 x1=some r):aE Tryz.prog 96 [] [] [] [.str x1] (.tup [.own 3000,.i r.1,.i r.2.1]) [(3000,bL 9 1 eS [] r.2.2)]:=by
 unfold f96 at h;refine aE.body 0 _ _ Tryz.func96 rfl Tryz.ntmps96 rfl rfl ?_;refine aN [] [] [0] [] trivial ?_;refine aaE ?_;obtain⟨r2,hr2,h⟩:=bind_ok h;refine bH [] [(1,⟨[.str x1,.fn (.func 126) []],[],[],[(6001,aK r2.2.2)],.tup [.own 6001,.i r2.1,.i r2.2.1],[6001],[],[]⟩)] ⟨10,[(2,.own 6001),(3,.i r2.1),(4,.i r2.2.1)],[(6001,aK r2.2.2)],[],0⟩ (an1 (cpT (aE.ren (aT 3000 6001) (aD 3000 6001) rfl (f125_ok _ _ hr2)))) ?_;refine tN (aaX (aaL (acQ (aT 6001 3000) (aD 6001 3000) rfl) (LR (s':=⟨10,[(2,.own 3000),(3,.i r2.1),(4,.i r2.2.1)],[(3000,aK r2.2.2)],[],0⟩))) ?_);obtain rfl:=aaD h;refine aaX (LR (s':=⟨10,[(2,.own 3000),(3,.i r2.1),(4,.i r2.2.1)],[(3000,aK r2.2.2)],[],0⟩)) ?_;refine aaG ?_;exact bK
def f97 (x1:aaA):Option Tq3:=zT x1
theorem f97_ok (x1:aaA) (r:Tq3) (h:f97 x1=some r):aE Tryz.prog 97 [(2,bV),(3,bV)] [] [] [.str x1] (.tup [.i r.1,.ifc r.2]) []:=
 atoi_spec Tryz.lays172 rfl rfl rfl x1 r h
def f197 (x1 x2:Int) (x3:aaA) (x4 x5:Int) (x6:aaA):Option Bool:=
 some ((x1==x4)&&(x2==x5))
theorem f197_ok (x1 x2:Int) (x3:aaA) (x4 x5:Int) (x6:aaA) (r:Bool) (h:f197 x1 x2 x3 x4 x5 x6=some r):aE Tryz.prog 197 [] [] [] [.agg [.i x1,.i x2,.str x3],.agg [.i x4,.i x5,.str x6]] (.bool r) []:=by
 unfold f197 at h;refine aE.body 0 _ _ Tryz.func197 rfl Tryz.ntmps197 rfl rfl ?_;refine aN [] [] [2,3] [2,3] trivial ?_;refine aaE (bH [] [] ⟨17,[(4,.bool ((x1==x4)&&(x2==x5)))],[],[],0⟩ (an4 (an1 (idA (((x1==x4)==true)=true))) (an1 (idA (((x1==x4)==true)=true))) (an2 (idA (((x1==x4)==true)=true)) (idA (((x1==x4)==true)=true))) (bqA (x1==x4) true)) ?_);refine tN ?_;obtain rfl:=aaD h;refine aaG ?_;exact bK
def f196 (x1 x2:Int) (x3:aaA) (x4 x5:Int) (x6:aaA):Option (Bool×Int×Int×aaA):=
 (f197 x1 x2 x3 x4 x5 x6).bind fun r7=>
 some (r7,x4,x5,x6)
theorem f196_ok (x1 x2:Int) (x3:aaA) (x4 x5:Int) (x6:aaA) (r:Bool×Int×Int×aaA) (h:f196 x1 x2 x3 x4 x5 x6=some r):aE Tryz.prog 196 [] [2000] [(2000,.cells 88 [.i x4,.i x5,.str x6])] [.agg [.i x1,.i x2,.str x3],.ptr 2000 0] (.bool r.1) [(2000,.cells 88 [.i r.2.1,.i r.2.2.1,.str r.2.2.2])]:=by
 unfold f196 at h;refine aE.body 0 _ _ Tryz.func196 rfl Tryz.ntmps196 rfl rfl ?_;refine aN [] [] [1,2] [2,2000] trivial ?_;refine aaE ?_;obtain⟨r7,hr7,h⟩:=bind_ok h;refine bH [] [(2,⟨[.agg [.i x1,.i x2,.str x3],.agg [.i x4,.i x5,.str x6]],[],[],[],.bool r7,[],[],[]⟩)] ⟨7,[(3,.bool r7)],[(2000,.cells 88 [.i x4,.i x5,.str x6])],[2000],0⟩ (an1 (cpT (f197_ok _ _ _ _ _ _ _ hr7))) ?_;refine tN ?_;obtain rfl:=aaD h;refine aaG ?_;exact bK
def fH (x1:List Tq0) (K1:Tq0->Option (Int×Int×Int×aaA)):Nat->(Nat×Int×Int×aaA)->Option (Int×Int×Int×aaA)
 |0,_=>none
 |k+1,(n5,i6,i7,s8)=>
  if(decide ((n5:Int)<(((x1).length:Nat):Int)))then(
  (f196 ((x1.getD n5 (default:Tq0)).1) ((x1.getD n5 (default:Tq0)).2.1) ((x1.getD n5 (default:Tq0)).2.2) i6 i7 s8).bind fun r9=>
  chk ((n5:Int)<(((x1).length:Nat):Int))<|
  if r9.1 then(
  some ((n5:Int),r9.2.1,r9.2.2.1,r9.2.2.2)
  )else(
  chk (((n5:Int)+(1:Int))<=9223372036854775807)<|
  (fH x1 K1 k) ((n5+1),r9.2.1,r9.2.2.1,r9.2.2.2)
  )
  )else(
  K1 (i6,i7,s8)
  )
abbrev f100z0 (r9:Bool×Int×Int×aaA):aJ:=[(2000,.cells 88 [.i r9.2.1,.i r9.2.2.1,.str r9.2.2.2])]
def f100 (x1:List Tq0) (x2 x3:Int) (x4:aaA):Option (Int×Int×Int×aaA):=
 jn (fun((i10,i11,s12):Tq0)=>
 some ((-1:Int),i10,i11,s12)
 ) fun(K1:Tq0->Option (Int×Int×Int×aaA))=>
 fH x1 K1 bB (0,x2,x3,x4)
theorem f100_ok (x1:List Tq0) (x2 x3:Int) (x4:aaA) (r:Int×Int×Int×aaA) (h:f100 x1 x2 x3 x4=some r):aE Tryz.prog 100 [] [2000] [(2000,.cells 88 [.i x2,.i x3,.str x4])] [vL 3 bX (default:Tq0) x1,.fn (.func 196) [.ptr 2000 0]] (.i r.1) [(2000,.cells 88 [.i r.2.1,.i r.2.2.1,.str r.2.2.2])]:=by
 unfold f100 at h;refine aE.body 0 _ _ Tryz.func100 rfl Tryz.ntmps100 rfl rfl ?_;refine aN [] [] [0,1] [2000] trivial ?_;obtain⟨K1,hK1,h⟩:=aO h;refine aaU (fun(x:Tq0)=>match x with|(i10,i11,s12)=>⟨19,[],[(2000,.cells 88 [.i i10,.i i11,.str s12])],[2000],0⟩) (fun x=>K1 x=some r) ?_ ?_
 ·refine bJ [] [] ⟨19,[(0,bC x1),(1,.fn (.func 196) [.ptr 2000 0]),(7,.i (lZ x1)),(8,.i (0:Int))],[(2000,.cells 88 [.i x2,.i x3,.str x4])],[2000],0⟩ trivial ?_;refine aaJ (abI (α:=Nat×(Nat×Int×Int×aaA)) (fun x=>match x with|(_,n5,i6,i7,s8)=>⟨19,[(0,bC x1),(1,.fn (.func 196) [.ptr 2000 0]),(7,.i (lZ x1)),(8,.i (n5:Int))],[(2000,.cells 88 [.i i6,.i i7,.str s8])],[2000],0⟩) (fun x=>fH x1 K1 x.1 x.2=some r) (fun x=>x.1) (bB,0,x2,x3,x4) LR h ?_)
  rintro⟨k0,n5,i6,i7,s8⟩ h
  cases k0 with
  |zero=>exact nEx h
  |succ k0=>
  obtain⟨C0,hC0⟩:∃C,C=fH x1 K1 k0:=⟨_,rfl⟩;replace h:=(fH.eq_2 ..).symm.trans h
  try rw[<-hC0]at h
  refine aN [] [] [0,1,7,8,9] [2000] trivial ?_;refine aaE (cK (decide ((n5:Int)<(lZ x1))) (fun hc1=> ?_) fun hc1=> ?_)
  ·replace h:=aF hc1 h;refine aaF (tN (aaE (aaJ (aN [] [] [0,1,5,7,8] [2000] trivial ?_))));refine aaE ?_;obtain⟨r9,hr9,h⟩:=bind_ok h;obtain⟨ob0p,h⟩:=aB h;refine bH [] [(5,⟨[.agg [.i (x1.getD n5 aZ).1,.i (x1.getD n5 aZ).2.1,.str (x1.getD n5 aZ).2.2],.ptr 2000 0],[2000],[2000],(f100z0 r9),.bool r9.1,[],[],[]⟩)] ⟨19,[(0,bC x1),(1,.fn (.func 196) [.ptr 2000 0]),(5,.i (n5:Int)),(7,.i (lZ x1)),(8,.i (n5:Int)),(16,.bool r9.1)],(f100z0 r9),[2000],0⟩ (an2 (iN ob0p) (cpT (f196_ok _ _ _ _ _ _ _ hr9))) ?_;refine tN (cK r9.1 (fun hc2=> ?_) fun hc2=> ?_)
   ·replace h:=aF hc2 h;refine aN [] [] [4] [2000] trivial ?_;obtain rfl:=aaD h;refine aaG (kR (tR (tR (kR (aS ?_)))));exact bK
   ·replace h:=aG hc2 h;refine aaF (kN (tN ?_));obtain⟨ob1p,h⟩:=aB h;refine bH [] [] ⟨19,[(0,bC x1),(1,.fn (.func 196) [.ptr 2000 0]),(7,.i (lZ x1)),(8,.i (((n5+1):Nat):Int))],(f100z0 r9),[2000],0⟩ (an1 (iP ob1p)) ?_;rw[hC0]at h;exact lN (_,(n5+1),r9.2.1,r9.2.2.1,r9.2.2.2) LR h (aaK _)
  ·replace h:=aG hc1 h;refine abK (tE (tE (kS ?_)));exact jN (i6,i7,s8) LR h
 ·rintro⟨i10,i11,s12⟩ h;replace h:=(congrFun hK1 _).symm.trans h;refine aN [] [] [4] [2000] trivial ?_;obtain rfl:=aaD h;refine aaG ?_;exact bK
abbrev f69z0 (r5:Int×Int×Int×aaA):aJ:=[(2000,.cells 88 [.i r5.2.1,.i r5.2.2.1,.str r5.2.2.2])]
def f69 (x1:List Tq0) (x2 x3:Int) (x4:aaA):Option (Bool×Int×Int×aaA):=
 (f100 x1 x2 x3 x4).bind fun r5=>
 some ((decide (r5.1>=(0:Int))),r5.2.1,r5.2.2.1,r5.2.2.2)
theorem f69_ok (x1:List Tq0) (x2 x3:Int) (x4:aaA) (r:Bool×Int×Int×aaA) (h:f69 x1 x2 x3 x4=some r):aE Tryz.prog 69 [] [2000] [(2000,.cells 88 [.i x2,.i x3,.str x4])] [vL 3 bX (default:Tq0) x1,.fn (.func 196) [.ptr 2000 0]] (.bool r.1) [(2000,.cells 88 [.i r.2.1,.i r.2.2.1,.str r.2.2.2])]:=by
 unfold f69 at h;refine aE.body 0 _ _ Tryz.func69 rfl Tryz.ntmps69 rfl rfl ?_;refine aN [] [] [0,1] [2000] trivial ?_;refine aaE ?_;obtain⟨r5,hr5,h⟩:=bind_ok h;refine bH [] [(2,⟨[bC x1,.fn (.func 196) [.ptr 2000 0]],[2000],[2000],(f69z0 r5),.i r5.1,[],[],[]⟩)] ⟨9,[(4,.bool (decide (r5.1>=(0:Int))))],(f69z0 r5),[2000],0⟩ (an1 (cpT (f100_ok _ _ _ _ _ hr5))) ?_;refine tN ?_;obtain rfl:=aaD h;refine aaG ?_;exact bK
def f162 (x1:List Tq0) (x2 x3:Int) (x4:aaA):Option Bool:=
 (f69 x1 x2 x3 x4).bind fun r5=>
 some r5.1
theorem f162_ok (x1:List Tq0) (x2 x3:Int) (x4:aaA) (r:Bool) (h:f162 x1 x2 x3 x4=some r):aE Tryz.prog 162 [] [] [] [vL 3 bX (default:Tq0) x1,.agg [.i x2,.i x3,.str x4]] (.bool r) []:=by
 unfold f162 at h;refine aE.body 0 _ _ Tryz.func162 rfl Tryz.ntmps162 rfl rfl ?_;refine aN [] [] [0,3] [3] trivial ?_;refine aaE ?_;obtain⟨r5,hr5,h⟩:=bind_ok h;refine bH [] [(2,⟨[bC x1,.fn (.func 196) [.ptr 3 0]],[3],[3],[(3,.cells 88 [.i r5.2.1,.i r5.2.2.1,.str r5.2.2.2])],.bool r5.1,[],[],[]⟩)] ⟨8,[(4,.bool r5.1)],[],[],0⟩ (an1 (cpT (aE.ren (aT 2000 3) (aD 2000 3) rfl (f69_ok _ _ _ _ _ hr5)))) ?_;refine tN ?_;obtain rfl:=aaD h;refine aaG ?_;exact bK
def gU (x1:List Tq0) (K1:Unit->Option Int):Nat->Nat->Option Int
 |0,_=>none
 |k+1,n2=>
  if(decide ((n2:Int)<(((x1).length:Nat):Int)))then(
  chk ((n2:Int)<(((x1).length:Nat):Int))<|
  if((((decide ((x1.getD n2 (default:Tq0)).1<(0:Int)))||(decide ((x1.getD n2 (default:Tq0)).1>=(6:Int))))||(decide ((x1.getD n2 (default:Tq0)).2.1<(1:Int))))||(decide ((x1.getD n2 (default:Tq0)).2.1>(1000000:Int))))then(
  some (7:Int)
  )else(
  if(((x1.getD n2 (default:Tq0)).2.2)==[])then(
  some (9:Int)
  )else(
  if(decide (((((x1.getD n2 (default:Tq0)).2.2).length:Nat):Int)>(200:Int)))then(
  some (3:Int)
  )else(
  (f162 (x1.take n2) ((x1.getD n2 (default:Tq0)).1) ((x1.getD n2 (default:Tq0)).2.1) ((x1.getD n2 (default:Tq0)).2.2)).bind fun r3=>
  chk ((n2:Int)<=(((x1).length:Nat):Int))<|
  if r3 then(
  some (5:Int)
  )else(
  chk (((n2:Int)+(1:Int))<=9223372036854775807)<|
  (gU x1 K1 k) (n2+1)
  )
  )
  )
  )
  )else(
  K1 ()
  )
theorem aBQ (x1:List Tq0) (K1:Unit->Option Int) (k n2:Nat):gU x1 K1 (k+1) n2=
  if(decide ((n2:Int)<(((x1).length:Nat):Int)))then(
  chk ((n2:Int)<(((x1).length:Nat):Int))<|
  if((((decide ((x1.getD n2 (default:Tq0)).1<(0:Int)))||(decide ((x1.getD n2 (default:Tq0)).1>=(6:Int))))||(decide ((x1.getD n2 (default:Tq0)).2.1<(1:Int))))||(decide ((x1.getD n2 (default:Tq0)).2.1>(1000000:Int))))then(
  some (7:Int)
  )else(
  if(((x1.getD n2 (default:Tq0)).2.2)==[])then(
  some (9:Int)
  )else(
  if(decide (((((x1.getD n2 (default:Tq0)).2.2).length:Nat):Int)>(200:Int)))then(
  some (3:Int)
  )else(
  (f162 (x1.take n2) ((x1.getD n2 (default:Tq0)).1) ((x1.getD n2 (default:Tq0)).2.1) ((x1.getD n2 (default:Tq0)).2.2)).bind fun(r3:Bool)=>
  chk ((n2:Int)<=(((x1).length:Nat):Int))<|
  if r3 then(
  some (5:Int)
  )else(
  chk (((n2:Int)+(1:Int))<=9223372036854775807)<|
  (gU x1 K1 k) (n2+1)
  )
  )
  )
  )
  )else(
  K1 ()
  ):=rfl
abbrev jG (x1:List Tq0) (n2:Nat):=(x1.getD n2 (default:Tq0))
abbrev aAS (x1:List Tq0) (n2:Nat):=((decide ((jG x1 n2).1<(0:Int)))||(decide ((jG x1 n2).1>=(6:Int))))
abbrev f129z2 (x1:List Tq0) (n2:Nat):List V:=[.i (jG x1 n2).1,.i (jG x1 n2).2.1,.str (jG x1 n2).2.2]
abbrev aAR (x1:List Tq0) (n2:Nat):=((aAS x1 n2)||(decide ((jG x1 n2).2.1<(1:Int))))
abbrev f129z4 (x1:List Tq0) (n2:Nat):=((decide ((jG x1 n2).1<(0:Int)))==false)
def f129 (x1:List Tq0):Option Int:=
 jn (fun(_:Unit)=>
 some (0:Int)
 ) fun(K1:Unit->Option Int)=>
 gU x1 K1 bB 0
theorem f129_ok (x1:List Tq0) (r:Int) (h:f129 x1=some r):aE Tryz.prog 129 [] [] [] [vL 3 bX (default:Tq0) x1] (.i r) []:=by
 unfold f129 at h;refine aE.body 0 _ _ Tryz.func129 rfl Tryz.ntmps129 rfl rfl ?_;refine aN [] [] [0] [] trivial ?_;obtain⟨K1,hK1,h⟩:=aO h;refine aaU (fun(x:Unit)=>match x with|()=>⟨47,[],[],[],0⟩) (fun x=>K1 x=some r) ?_ ?_
 ·refine bJ [] [] ⟨47,[(0,bC x1),(5,bC x1),(6,.i (lZ x1)),(7,.i (0:Int))],[],[],0⟩ trivial ?_;refine aaJ (abI (α:=Nat×Nat) (fun x=>match x with|(_,n2)=>⟨47,[(0,bC x1),(5,bC x1),(6,.i (lZ x1)),(7,.i (n2:Int))],[],[],0⟩) (fun x=>gU x1 K1 x.1 x.2=some r) (fun x=>x.1) (bB,0) LR h ?_)
  rintro⟨k0,n2⟩ h
  cases k0 with
  |zero=>exact nEx h
  |succ k0=>
  obtain⟨C0,hC0⟩:∃C,C=gU x1 K1 k0:=⟨_,rfl⟩;replace h:=(aBQ ..).symm.trans h
  try rw[<-hC0]at h
  refine aN [] [] [0,5,6,7,8] [] trivial ?_;refine aaE (cK (decide ((n2:Int)<(lZ x1))) (fun hc1=> ?_) fun hc1=> ?_)
  ·replace h:=aF hc1 h;refine aaF (tN (aaE (aaJ (aaE ?_))));obtain⟨ob0p,h⟩:=aB h;refine bG [] [] [0,3,4,5,6,7] [4] (an2 (iN ob0p) trivial) ?_;refine tN (aaJ (aaE ?_));have ob3:true=true->(decide ((jG x1 n2).1<(0:Int)))=false->(f129z4 x1 n2)=true:=fun _ h=>beq_iff_eq.2 h;refine bG [] [] [0,3,4,5,6,7,12] [4] (ac6 (an1 (idA ((f129z4 x1 n2)=true))) (an1 (idA ((f129z4 x1 n2)=true))) ob3 (an1 (idA (((aAS x1 n2)==false)=true))) (an1 (idA (((aAS x1 n2)==false)=true))) (bqA (aAS x1 n2) false) (an3 (an1 (idA (((aAR x1 n2)==false)=true))) (an1 (idA (((aAR x1 n2)==false)=true))) (bqA (aAR x1 n2) false))) ?_;refine tN (cK ((aAR x1 n2)||(decide ((jG x1 n2).2.1>(1000000:Int)))) (fun hc2=> ?_) fun hc2=> ?_)
   ·replace h:=aF hc2 h;refine bJ [] [] ⟨47,[(2,.i (7:Int))],[],[],0⟩ trivial ?_;obtain rfl:=aaD h;refine aaG (kR (kR (tR (tR (kR (aS ?_))))));exact bK
   ·replace h:=aG hc2 h;refine aN [] [] [0,3,4,5,6,7,31] [4] trivial ?_;refine cK (((jG x1 n2).2.2)==[]) (fun hc3=> ?_) fun hc3=> ?_
    ·replace h:=aF hc3 h;refine bJ [] [] ⟨47,[(2,.i (9:Int))],[],[],0⟩ trivial ?_;obtain rfl:=aaD h;refine aaG (kR (kR (tR (tR (kR (aS ?_))))));exact bK
    ·replace h:=aG hc3 h;refine aN [] [] [0,3,4,5,6,7,35] [4] trivial ?_;refine cK (decide (((((jG x1 n2).2.2).length:Nat):Int)>(200:Int))) (fun hc4=> ?_) fun hc4=> ?_
     ·replace h:=aF hc4 h;refine bJ [] [] ⟨47,[(2,.i (3:Int))],[],[],0⟩ trivial ?_;obtain rfl:=aaD h;refine aaG (kR (kR (tR (tR (kR (aS ?_))))));exact bK
     ·replace h:=aG hc4 h;refine aaE ?_;obtain⟨r3,hr3,h⟩:=bind_ok h;obtain⟨ob10p,h⟩:=aB h;refine bG [] [(4,⟨[bC (x1.take n2),.agg (f129z2 x1 n2)],[],[],[],.bool r3,[],[],[]⟩)] [0,5,6,7,40] [] (an2 (iL ob10p) (cpL (c:=true) [] [] [.arr 3 n2 (cE bX aZ x1),.agg (f129z2 x1 n2)] (fun _=>(f162_ok _ _ _ _ _ hr3)) (fun _=>⟨(VLe.takeL (by first|omega|(simp only[aaH,aaS,abT,abG,aaZ]at *;omega)|(simp;done)|(simp_all;done)|(simp_all;omega)|rfl)),.refl _,trivial⟩) (.inl rfl))) ?_;refine tN (cK r3 (fun hc5=> ?_) fun hc5=> ?_)
      ·replace h:=aF hc5 h;refine bJ [] [] ⟨47,[(2,.i (5:Int))],[],[],0⟩ trivial ?_;obtain rfl:=aaD h;refine aaG (kR (kR (tR (tR (kR (aS ?_))))));exact bK
      ·replace h:=aG hc5 h;refine aaF (kN (kN (tN ?_)));obtain⟨ob11p,h⟩:=aB h;refine bG [] [] [0,5,6,7] [] (an1 (iP ob11p)) ?_;rw[hC0]at h;exact lN (_,(n2+1)) LR h (aaK _)
  ·replace h:=aG hc1 h;refine abK (tE (tE (kS ?_)));exact jN () LR h
 ·rintro⟨⟩ h;replace h:=(congrFun hK1 _).symm.trans h;refine aN [] [] [2] [] trivial ?_;obtain rfl:=aaD h;refine aaG ?_;exact bK
abbrev f98z0 (x1 x2:Int) (x3:List Tq0):aJ:=[(1,.cells 100 [.i x1,.i x2,vL 3 bX (default:Tq0) x3])]
abbrev f98z1 (x2:Int):=((decide (x2<(0:Int)))||(decide (x2>=(6:Int))))
abbrev f98z2 :List (Nat×V):=[(2,.i (1:Int))]
abbrev f98z3 (x2:Int):=((x2 !=(0:Int))==false)
abbrev f98z4 (x2:Int):=((decide (x2<(0:Int)))==false)
def f98 (x1 x2:Int) (x3:List Tq0):Option Int:=
 if(x1==(1:Int))then(
 if(x2 !=(0:Int))then(
 some (1:Int)
 )else(
 if(decide ((((x3).length:Nat):Int)>(8:Int)))then(
 some (3:Int)
 )else(
 (f129 x3).bind fun r4=>
 some r4
 )
 )
 )else(
 if(x1==(2:Int))then(
 if(((decide (x2<(0:Int)))||(decide (x2>=(6:Int))))||(decide ((((x3).length:Nat):Int)>(0:Int))))then(
 some (1:Int)
 )else(
 some (0:Int)
 )
 )else(
 if(x1==(3:Int))then(
 if((x2 !=(0:Int))||(decide ((((x3).length:Nat):Int)>(0:Int))))then(
 some (1:Int)
 )else(
 some (0:Int)
 )
 )else(
 some (1:Int)
 )
 )
 )
theorem f98_ok (x1 x2:Int) (x3:List Tq0) (r:Int) (h:f98 x1 x2 x3=some r):aE Tryz.prog 98 [] [] [] [.agg [.i x1,.i x2,vL 3 bX (default:Tq0) x3]] (.i r) []:=by
 unfold f98 at h;refine aE.body 0 _ _ Tryz.func98 rfl Tryz.ntmps98 rfl rfl ?_;refine aN [] [] [1] [1] trivial ?_;refine aaE (aN [] [] [1,4] [1] trivial ?_);refine aaJ (aN [] [] [1,4,5] [1] trivial ?_);refine cK (x1==(1:Int)) (fun hc1=> ?_) fun hc1=> ?_
 ·replace h:=aF hc1 h;refine aaE (aN [] [] [1,9] [1] trivial ?_);refine cK (x2 !=(0:Int)) (fun hc2=> ?_) fun hc2=> ?_
  ·replace h:=aF hc2 h;refine bJ [] [] ⟨44,(f98z2),[],[],0⟩ trivial ?_;obtain rfl:=aaD h;refine aaG (tR (kR (tR ?_)));exact bK
  ·replace h:=aG hc2 h;refine aaF (tN (aaE (aN [] [] [1,13] [1] trivial ?_)));refine cK (decide ((lZ x3)>(8:Int))) (fun hc3=> ?_) fun hc3=> ?_
   ·replace h:=aF hc3 h;refine bJ [] [] ⟨44,[(2,.i (3:Int))],[],[],0⟩ trivial ?_;obtain rfl:=aaD h;refine aaG (tR (kR (tR ?_)));exact bK
   ·replace h:=aG hc3 h;refine aaF (tN (aaE ?_));obtain⟨r4,hr4,h⟩:=bind_ok h;refine bG [] [(2,⟨[bC x3],[],[],[],.i r4,[],[],[]⟩)] [2] [] (an1 (cpT (f129_ok _ _ hr4))) ?_;refine tN ?_;obtain rfl:=aaD h;refine aaG (kR (tR ?_));exact bK
 ·replace h:=aG hc1 h;refine aN [] [] [1,4,17] [1] trivial ?_;refine cK (x1==(2:Int)) (fun hc4=> ?_) fun hc4=> ?_
  ·replace h:=aF hc4 h;refine aaE (aaE ?_);have ob2:true=true->(decide (x2<(0:Int)))=false->(f98z4 x2)=true:=fun _ h=>beq_iff_eq.2 h;refine bG [] [] [32] [] (ac6 (an1 (idA ((f98z4 x2)=true))) (an1 (idA ((f98z4 x2)=true))) ob2 (an1 (idA (((f98z1 x2)==false)=true))) (an1 (idA (((f98z1 x2)==false)=true))) (an1 (idA (((f98z1 x2)==false)=true))) (an1 (bqA (f98z1 x2) false))) ?_;refine tN (cK ((f98z1 x2)||(decide ((lZ x3)>(0:Int)))) (fun hc5=> ?_) fun hc5=> ?_)
   ·replace h:=aF hc5 h;refine bJ [] [] ⟨44,(f98z2),[],[],0⟩ trivial ?_;obtain rfl:=aaD h;refine aaG (tR (kR (tR ?_)));exact bK
   ·replace h:=aG hc5 h;refine aaF (tN (aN [] [] [2] [] trivial ?_));obtain rfl:=aaD h;refine aaG (kR (tR ?_));exact bK
  ·replace h:=aG hc4 h;refine bJ [] [] ⟨44,[(1,.ptr 1 0),(33,.bool (x1==(3:Int)))],(f98z0 x1 x2 x3),[],0⟩ trivial ?_;refine cK (x1==(3:Int)) (fun hc6=> ?_) fun hc6=> ?_
   ·replace h:=aF hc6 h;refine aaE (aaE ?_);have ob10:true=true->(x2 !=(0:Int))=false->(f98z3 x2)=true:=fun _ h=>beq_iff_eq.2 h;refine bG [] [] [43] [] (an4 (an1 (idA ((f98z3 x2)=true))) (an1 (idA ((f98z3 x2)=true))) (an1 (idA ((f98z3 x2)=true))) ob10) ?_;refine tN (cK ((x2 !=(0:Int))||(decide ((lZ x3)>(0:Int)))) (fun hc7=> ?_) fun hc7=> ?_)
    ·replace h:=aF hc7 h;refine bJ [] [] ⟨44,(f98z2),[],[],0⟩ trivial ?_;obtain rfl:=aaD h;refine aaG (tR (kR (tR ?_)));exact bK
    ·replace h:=aG hc7 h;refine aaF (tN (aN [] [] [2] [] trivial ?_));obtain rfl:=aaD h;refine aaG (kR (tR ?_));exact bK
   ·replace h:=aG hc6 h;refine aaF (kN (tN (bJ [] [] ⟨44,(f98z2),[],[],0⟩ trivial ?_)));obtain rfl:=aaD h;refine aaG ?_;exact bK
def f58 (x1:Int):Option Ty1:=itoaO x1
theorem rQ (x1:Int) (r:aaA) (h:f58 x1=some r):aE Tryz.prog 58 [(1,pT)] [] [] [.i x1] (.str r) []:=
 itoa_spec (by kernel_rfl) (fun n w h0 h1 ht=>Any.strconv_Itoa Tryz.lays171 n h0 h1 w ht) x1 r h
def f130 (x1:List Ty1):Option Ty1:=aAj x1
theorem zI (x1:List Ty1) (r:aaA) (h:f130 x1=some r):aE Tryz.prog 130 [] [] [] [vL 1 eS [] x1] (.str r) []:=aBq x1 r h
def mW (x3:List Tq0) (K1:(List Ty1)->Option Ty1):Nat->(Nat×List Ty1)->Option Ty1
 |0,_=>none
 |k+1,(n7,l8)=>
  if(decide ((n7:Int)<(((x3).length:Nat):Int)))then(
  chk ((n7:Int)<(((x3).length:Nat):Int))<|
  (f58 ((x3.getD n7 (default:Tq0)).1)).bind fun r9=>
  (f58 ((x3.getD n7 (default:Tq0)).2.1)).bind fun r10=>
  chk (((l8).length+3) *16<=140737488355328)<|
  chk (((n7:Int)+(1:Int))<=9223372036854775807)<|
  (mW x3 K1 k) ((n7+1),(l8++[r9,r10,(x3.getD n7 (default:Tq0)).2.2]))
  )else(
  K1 l8
  )
abbrev f99z0 (x3:List Tq0) (n7:Nat):List (Nat×V):=[(3,.own 19),(21,vL 3 bX (default:Tq0) x3),(22,.i (((x3).length:Nat):Int)),(23,.i (n7:Int)),(1000001,pT)]
abbrev aBC (x3:List Tq0) (n7:Nat):=(x3.getD n7 (default:Tq0))
abbrev f99z2 (x1 x2:Int) (x3:List Tq0):List V:=[.i x1,.i x2,vL 3 bX (default:Tq0) x3]
def f99 (x1 x2:Int) (x3:List Tq0):Option Ty1:=
 if(x1==(2:Int))then(
 (f58 x2).bind fun r4=>
 (f130 ([([106,111,105,110]:aaA),r4])).bind fun r5=>
 some r5
 )else(
 if(x1==(3:Int))then(
 (f130 [cs1]).bind fun r6=>
 some r6
 )else(
 jn (fun(l11:List Ty1)=>
 (f130 l11).bind fun r12=>
 some r12
 ) fun(K1:(List Ty1)->Option Ty1)=>
 mW x3 K1 bB (0,[cs2])
 )
 )
theorem f99_ok (x1 x2:Int) (x3:List Tq0) (r:aaA) (h:f99 x1 x2 x3=some r):aE Tryz.prog 99 [(1,pT)] [] [] [.agg [.i x1,.i x2,vL 3 bX (default:Tq0) x3]] (.str r) []:=by
 unfold f99 at h;refine aE.body 0 _ _ Tryz.func99 rfl Tryz.ntmps99 rfl rfl ?_;refine aN [] [] [1,1000001] [1] trivial ?_;refine aaE (aN [] [] [1,7,1000001] [1] trivial ?_);refine aaJ (aN [] [] [1,7,8,1000001] [1] trivial ?_);refine cK (x1==(2:Int)) (fun hc1=> ?_) fun hc1=> ?_
 ·replace h:=aF hc1 h;refine aaE ?_;obtain⟨r4,hr4,h⟩:=bind_ok h;obtain⟨r5,hr5,h⟩:=bind_ok h;refine bH [] [(2,⟨[.i x2],[],[],[],.str r4,[],[],[1]⟩),(4,⟨[eC [([106,111,105,110]:aaA),r4]],[],[],[],.str r5,[],[13],[]⟩)] ⟨41,[(2,.str r5)],[],[],0⟩ (an2 (cpT (rQ _ _ hr4)) (cpL (c:=true) [(13,.rows 9 1 2 (dN 1 [.str ([106,111,105,110]:aaA),.str r4]))] [13] [.own 13] (fun _=>(zI _ _ hr5)) (fun _=>⟨(VLe.of (acV (enc:=eS) [([106,111,105,110]:aaA),r4] rfl rfl (fun _=>rfl))),trivial⟩) (.inr ⟨rfl,trivial⟩))) ?_;refine tN ?_;obtain rfl:=aaD h;refine aaG (kR (tR ?_));exact bK
 ·replace h:=aG hc1 h;refine aN [] [] [1,15,1000001] [1] trivial ?_;refine cK (x1==(3:Int)) (fun hc2=> ?_) fun hc2=> ?_
  ·replace h:=aF hc2 h;refine aaE ?_;obtain⟨r6,hr6,h⟩:=bind_ok h;refine bH [] [(1,⟨[eC [cs1]],[],[],[],.str r6,[],[17],[]⟩)] ⟨41,[(2,.str r6)],[],[],0⟩ (an1 (cpL (c:=true) [(17,.rows 9 1 1 (dN 1 [.str cs1]))] [17] [.own 17] (fun _=>(zI _ _ hr6)) (fun _=>⟨(VLe.of (acV (enc:=eS) [cs1] rfl rfl (fun _=>rfl))),trivial⟩) (.inr ⟨rfl,trivial⟩))) ?_;refine tN ?_;obtain rfl:=aaD h;refine aaG (kR (tR ?_));exact bK
  ·replace h:=aG hc2 h;refine aaF (kN (tN (bJ [] [] ⟨41,[(1,.ptr 1 0),(3,.own 19),(1000001,pT)],[(1,.cells 100 (f99z2 x1 x2 x3)),(19,.rows 9 1 1 (dN 1 [.str cs2]))],[],0⟩ trivial ?_)));refine aaX (acZ (s':=⟨41,[(1,.ptr 1 0),(3,.own 19),(1000001,pT)],[(1,.cells 100 (f99z2 x1 x2 x3)),(19,aK [cs2])],[],0⟩) rfl rfl ⟨.refl _,.refl _,.refl _,trivial⟩ ⟨⟨_,rfl,.refl _⟩,⟨_,rfl,(acK (acV (enc:=eS) [cs2] rfl rfl (fun _=>rfl)))⟩,trivial⟩) ?_;obtain⟨K1,hK1,h⟩:=aO h;refine aaU (α:=List Ty1) (fun(l11:List Ty1)=>⟨41,[(3,.own 19),(1000001,pT)],[(19,aK l11)],[],0⟩) (fun x=>K1 x=some r) ?_ ?_
   ·refine aN [] [] [3,21,22,23,1000001] [19] trivial ?_;refine aaJ (abI (α:=Nat×(Nat×List Ty1)) (fun x=>match x with|(_,n7,l8)=>⟨41,(f99z0 x3 n7),[(19,aK l8)],[],0⟩) (fun x=>mW x3 K1 x.1 x.2=some r) (fun x=>x.1) (bB,0,[cs2]) LR h ?_)
    rintro⟨k0,n7,l8⟩ h
    cases k0 with
    |zero=>exact nEx h
    |succ k0=>
    obtain⟨C0,hC0⟩:∃C,C=mW x3 K1 k0:=⟨_,rfl⟩;replace h:=(mW.eq_2 ..).symm.trans h
    try rw[<-hC0]at h
    refine aN [] [] [3,21,22,23,24,1000001] [19] trivial ?_;refine aaE (cK (decide ((n7:Int)<(lZ x3))) (fun hc3=> ?_) fun hc3=> ?_)
    ·replace h:=aF hc3 h;refine aaF (tN (aaE (aaJ (aaE ?_))));obtain⟨ob0p,h⟩:=aB h;refine bG [] [] [3,5,21,22,23,1000001] [5,19] (an2 (iN ob0p) trivial) ?_;refine tN ?_;obtain⟨r9,hr9,h⟩:=bind_ok h;obtain⟨r10,hr10,h⟩:=bind_ok h;obtain⟨ob1,h⟩:=aB h;refine bH [] [(3,⟨[.i (aBC x3 n7).1],[],[],[],.str r9,[],[],[1]⟩),(6,⟨[.i (aBC x3 n7).2.1],[],[],[],.str r10,[],[],[1]⟩)] ⟨41,(f99z0 x3 n7),[(19,.rows 9 1 ((l8).length+3) (gK (l8).length (cE eS [] l8) (dN 1 [.str r9,.str r10,.str (aBC x3 n7).2.2])))],[],0⟩ (an3 (cpT (rQ _ _ hr9)) (cpT (rQ _ _ hr10)) ob1) ?_;refine kN (tN (aaX (acZ (s':=⟨41,(f99z0 x3 n7),[(19,aK (l8++[r9,r10,(aBC x3 n7).2.2]))],[],0⟩) rfl rfl ⟨.refl _,.refl _,.refl _,.refl _,.refl _,trivial⟩ ⟨⟨_,rfl,(acK (adQ (acX _) (acV (enc:=eS) [r9,r10,(aBC x3 n7).2.2] rfl rfl (fun _=>rfl))))⟩,trivial⟩) ?_));obtain⟨ob2p,h⟩:=aB h;refine bG [] [] [3,21,22,23,1000001] [19] (an1 (iP ob2p)) ?_;rw[hC0]at h;exact lN (_,(n7+1),(l8++[r9,r10,(aBC x3 n7).2.2])) LR h (aaK _)
    ·replace h:=aG hc3 h;refine abK (tE (tE (kS ?_)));exact jN (l8) LR h
   ·rintro l11 h;replace h:=(congrFun hK1 _).symm.trans h;refine aaE ?_;obtain⟨r12,hr12,h⟩:=bind_ok h;refine bG [] [(1,⟨[eC l11],[],[],[],.str r12,[],[19],[]⟩)] [2] [] (an1 (cpL (c:=true) [(19,aK l11)] [19] [.own 19] (fun _=>(zI _ _ hr12)) (fun _=>⟨.refl _,trivial⟩) (.inr ⟨rfl,trivial⟩))) ?_;refine tN ?_;obtain rfl:=aaD h;refine aaG ?_;exact bK
def hU (K1:(Nat×Int×Ty4)->Option (Int×Int×Ty4×Int)):Nat->(List Ty1×Ty4)->Option (Int×Int×Ty4×Int)
 |0,_=>none
 |k+1,(l7,l8)=>
  if(decide ((((l7).length:Nat):Int)>=(3:Int)))then(
  (f97 (l7.getD 0 [])).bind fun r9=>
  chk ((0:Int)<(((l7).length:Nat):Int))<|
  (f97 (l7.getD 1 [])).bind fun r10=>
  chk ((1:Int)<(((l7).length:Nat):Int))<|
  chk ((2:Int)<(((l7).length:Nat):Int))<|
  chk (((l8).length+1) *32<=140737488355328)<|
  chk ((3:Int)<=(((l7).length:Nat):Int))<|
  (hU K1 k) ((l7.drop 3),(l8++[(r9.1,r10.1,(l7.getD 2 []))]))
  )else(
  K1 (1,(0:Int),l8)
  )
abbrev mG :List V:=[.i (0:Int),.i (0:Int),.nils]
abbrev f68z1 (x1:aaA):List (Nat×V):=[(0,.str x1),(2,.ptr 2 0),(7,.ptr 7 0),(1000001,pT),(1000002,bV),(1000003,bV)]
abbrev f68z2 (l8:List Tq0):aJ:=[(2,.cells 100 (mG)),(7,.cells 100 [.i (1:Int),.i (0:Int),.own 6202]),(6202,bL 88 3 bX (default:Tq0) l8)]
abbrev f68z3 :aJ:=[(2,.cells 100 (mG)),(7,.cells 100 [.i (1:Int),.i (0:Int),.nils])]
abbrev f68z4 (l8:List Tq0) (r9 r10:Tq3) (l7:List Ty1):aJ:=[(2,.cells 100 (mG)),(7,.cells 100 [.i (1:Int),.i (0:Int),.own 6202]),(6202,bL 88 3 bX (default:Tq0) (l8++[(r9.1,r10.1,(l7.getD 2 []))]))]
abbrev f68z5 (x1:aaA) (r2:Int×Int×List Ty1):List (Nat×V):=[(0,.str x1),(2,.ptr 2 0),(7,.ptr 7 0),(8,vL 1 eS [] (r2.2.2.drop 1)),(79,.bool ((r2.2.2.getD 0 [])==cs1)),(1000001,pT),(1000002,bV),(1000003,bV)]
abbrev f68z6 :List (Nat×V):=[(2,.ptr 2 0),(3,.i (0:Int)),(1000001,pT),(1000002,bV),(1000003,bV)]
abbrev f68z7 :=([106,111,105,110]:aaA)
abbrev f68z8 (x1:aaA) (l7:List Ty1):List (Nat×V):=[(0,.str x1),(2,.ptr 2 0),(7,.ptr 7 0),(8,vL 1 eS [] l7),(1000001,pT),(1000002,bV),(1000003,bV)]
abbrev f68z9 (n4:Nat) (i5:Int):List V:=[.i (n4:Int),.i i5,.own 6202]
abbrev aAA (n4:Nat) (i5:Int) (l6:List Tq0):List V:=[.i (n4:Int),.i i5,vL 3 bX (default:Tq0) l6]
abbrev f68z11 :List V:=[.i (1:Int),.i (0:Int),.own 6202]
abbrev aAz (r11:Int):=((r11 !=(0:Int))==false)
def f68 (x1:aaA):Option (Int×Int×Ty4×Int):=
 (f96 x1).bind fun r2=>
 if((r2.2.1 !=(0:Int))||((((r2.2.2).length:Nat):Int)==(0:Int)))then(
 some ((0:Int),(0:Int),[],(2:Int))
 )else(
 chk ((1:Int)<=(((r2.2.2).length:Nat):Int))<|
 jn (fun((n4,i5,l6):Nat×Int×Ty4)=>
 (f98 (n4:Int) i5 l6).bind fun r11=>
 gB ((r11 !=(0:Int))==false) (f99 (n4:Int) i5 l6) fun r12=>
 if((r11 !=(0:Int))||(!(r12==x1)))then(
 some ((0:Int),(0:Int),[],(2:Int))
 )else(
 some ((n4:Int),i5,l6,(0:Int))
 )
 ) fun(K1:(Nat×Int×Ty4)->Option (Int×Int×Ty4×Int))=>
 chk ((0:Int)<(((r2.2.2).length:Nat):Int))<|
 if(((r2.2.2.getD 0 [])==([106,111,105,110]:aaA))&&(((((r2.2.2.drop 1)).length:Nat):Int)==(1:Int)))then(
 (f97 ((r2.2.2.drop 1).getD 0 [])).bind fun r3=>
 chk ((0:Int)<((((r2.2.2.drop 1)).length:Nat):Int))<|
 K1 (2,r3.1,[])
 )else(
 chk ((0:Int)<(((r2.2.2).length:Nat):Int))<|
 if((r2.2.2.getD 0 [])==cs1)then(
 K1 (3,(0:Int),[])
 )else(
 hU K1 bB ((r2.2.2.drop 1),[])
 )
 )
 )
theorem f68_ok (x1:aaA) (r:Int×Int×Ty4×Int) (h:f68 x1=some r):aE Tryz.prog 68 [(1,pT),(2,bV),(3,bV)] [] [] [.str x1] (.tup [.agg [.i r.1,.i r.2.1,vL 3 bX (default:Tq0) r.2.2.1],.i r.2.2.2]) []:=by
 unfold f68 at h;refine aE.bodyD [2] 0 _ _ Tryz.func68 rfl Tryz.ntmps68 rfl rfl ?_;refine aN [] [] [0,2,1000001,1000002,1000003] [2] trivial ?_;refine aaE ?_;obtain⟨r2,hr2,h⟩:=bind_ok h;refine bG [] [(1,⟨[.str x1],[],[],[(6001,aK r2.2.2)],.tup [.own 6001,.i r2.1,.i r2.2.1],[6001],[],[]⟩)] [0,2,4,6,1000001,1000002,1000003] [2,6001] (an1 (cpT (aE.ren (aT 3000 6001) (aD 3000 6001) rfl (f96_ok _ _ hr2)))) ?_;refine tN (aaE (aaE (bG [] [] [0,2,4,25,1000001,1000002,1000003] [2,6001] (an3 (an1 (idA (((r2.2.1 !=(0:Int))==false)=true))) (an1 (idA (((r2.2.1 !=(0:Int))==false)=true))) (bqA (r2.2.1 !=(0:Int)) false)) ?_)));refine tN (cK ((r2.2.1 !=(0:Int))||((lZ r2.2.2)==(0:Int))) (fun hc1=> ?_) fun hc1=> ?_)
 ·replace h:=aF hc1 h;refine bJ [] [] ⟨96,[(2,.ptr 2 0),(3,.i (2:Int)),(1000001,pT),(1000002,bV),(1000003,bV)],[(2,.cells 100 (mG))],[],0⟩ (an1 trivial) ?_;obtain rfl:=aaD h;refine aaX (acZ (s':=⟨96,[(2,.ptr 2 0),(3,.i (2:Int))],[(2,.cells 100 [.i (0:Int),.i (0:Int),bC []])],[],0⟩) rfl rfl ⟨.refl _,.refl _,trivial⟩ ⟨⟨_,rfl,(.cellsL ⟨.refl _,.refl _,.nilL,trivial⟩)⟩,trivial⟩) ?_;refine aaG (tR ?_);exact bD
 ·replace h:=aG hc1 h;refine aaF (tN (bJ [] [] ⟨96,[(0,.str x1),(2,.ptr 2 0),(4,.own 6001),(7,.ptr 7 0),(1000001,pT),(1000002,bV),(1000003,bV)],[(2,.cells 100 (mG)),(7,.cells 100 [.i (1:Int),.i (0:Int),.nils]),(6001,aK r2.2.2)],[],0⟩ (an1 trivial) ?_));refine aaE (aaX (aaL (aeU 6001 rfl rfl) (LR (s':=⟨96,[(0,.str x1),(2,.ptr 2 0),(4,eC r2.2.2),(7,.ptr 7 0),(1000001,pT),(1000002,bV),(1000003,bV)],(f68z3),[],0⟩))) ?_);obtain⟨ob3p,h⟩:=aB h;have ob3:0<=(1:Int)/\(1:Int)<=(((r2.2.2).length:Nat):Int):=⟨by omega,ob3p⟩;refine bH [] [] ⟨96,[(0,.str x1),(2,.ptr 2 0),(4,eC r2.2.2),(7,.ptr 7 0),(8,.arr 1 ((r2.2.2).length-1) (fun i j=>(cE eS [] r2.2.2) (i+1) j)),(1000001,pT),(1000002,bV),(1000003,bV)],(f68z3),[],0⟩ (an1 ob3) ?_;refine tN (aaX (acZ (s':=⟨96,[(0,.str x1),(2,.ptr 2 0),(4,eC r2.2.2),(7,.ptr 7 0),(8,eC (r2.2.2.drop 1)),(1000001,pT),(1000002,bV),(1000003,bV)],(f68z3),[],0⟩) rfl rfl ⟨.refl _,.refl _,.refl _,.refl _,VLe.dropL,.refl _,.refl _,.refl _,trivial⟩ ⟨⟨_,rfl,.refl _⟩,⟨_,rfl,.refl _⟩,trivial⟩) ?_);obtain⟨K1,hK1,h⟩:=aO h;refine aaU (fun(x:Nat×Int×Ty4)=>match x with|(n4,i5,l6)=>⟨96,(f68z1 x1),[(2,.cells 100 (mG)),(7,.cells 100 (f68z9 n4 i5)),(6202,aM l6)],[],0⟩) (fun x=>K1 x=some r) ?_ ?_
  ·refine aaJ (aaE ?_);obtain⟨ob4p,h⟩:=aB h;have ob4:0<=(0:Int)/\(0:Int)<(((r2.2.2).length:Nat):Int):=⟨by omega,ob4p⟩;refine bG [] [] [0,2,4,7,8,60,1000001,1000002,1000003] [2,7] (an4 ob4 (an1 (idA ((((r2.2.2.getD 0 [])==(f68z7))==true)=true))) (an1 (idA ((((r2.2.2.getD 0 [])==(f68z7))==true)=true))) (bqA ((r2.2.2.getD 0 [])==(f68z7)) true)) ?_;refine tN (cK (((r2.2.2.getD 0 [])==(f68z7))&&(((((r2.2.2.drop 1)).length:Nat):Int)==(1:Int))) (fun hc2=> ?_) fun hc2=> ?_)
   ·replace h:=aF hc2 h;refine aN [] [] [0,2,7,8,1000001,1000002,1000003] [2,7] (an1 trivial) ?_;obtain⟨r3,hr3,h⟩:=bind_ok h;obtain⟨ob8p,h⟩:=aB h;have ob8:0<=(0:Int)/\(0:Int)<((((r2.2.2.drop 1)).length:Nat):Int):=⟨by omega,ob8p⟩;refine bH [] [(3,⟨[.str ((r2.2.2.drop 1).getD 0 [])],[],[],[],.tup [.i r3.1,.ifc r3.2],[],[],[2,3]⟩)] ⟨96,(f68z1 x1),[(2,.cells 100 (mG)),(7,.cells 100 [.i (2:Int),.i r3.1,.nils])],[],0⟩ (an3 ob8 (cpT (f97_ok _ _ hr3)) trivial) ?_;refine kN ?_;exact jN (2,r3.1,[]) (aaL (aaL (Le.nilOwnC 7 2 6202 88 3 (cE bX aZ []) rfl rfl rfl) (LR (s':=⟨96,(f68z1 x1),[(2,.cells 100 (mG)),(7,.cells 100 [.i (2:Int),.i r3.1,.own 6202]),(6202,aM [])],[],0⟩))) LR) h
   ·replace h:=aG hc2 h;refine aaE ?_;obtain⟨ob9p,h⟩:=aB h;have ob9:0<=(0:Int)/\(0:Int)<(((r2.2.2).length:Nat):Int):=⟨by omega,ob9p⟩;refine bH [] [] ⟨96,(f68z5 x1 r2),(f68z3),[],0⟩ (an1 ob9) ?_;refine tN (cK ((r2.2.2.getD 0 [])==cs1) (fun hc3=> ?_) fun hc3=> ?_)
    ·replace h:=aF hc3 h;refine bH [] [] ⟨96,(f68z1 x1),[(2,.cells 100 (mG)),(7,.cells 100 [.i (3:Int),.i (0:Int),.nils])],[],0⟩ (an1 trivial) ?_;refine kN ?_;exact jN (3,(0:Int),[]) (aaL (aaL (Le.nilOwnC 7 2 6202 88 3 (cE bX aZ []) rfl rfl rfl) (LR (s':=⟨96,(f68z1 x1),[(2,.cells 100 (mG)),(7,.cells 100 [.i (3:Int),.i (0:Int),.own 6202]),(6202,aM [])],[],0⟩))) LR) h
    ·replace h:=aG hc3 h;refine aaJ (abI (α:=Nat×(List Ty1×Ty4)) (fun x=>match x with|(_,l7,l8)=>⟨96,(f68z8 x1 l7),(f68z2 l8),[],0⟩) (fun x=>hU K1 x.1 x.2=some r) (fun x=>x.1) (bB,(r2.2.2.drop 1),[]) (aaL (aaL (Le.nilOwnC 7 2 6202 88 3 (cE bX aZ []) rfl rfl rfl) (LR (s':=⟨96,(f68z5 x1 r2),[(2,.cells 100 (mG)),(7,.cells 100 (f68z11)),(6202,aM [])],[],0⟩))) LR) h ?_)
     rintro⟨k0,l7,l8⟩ h
     cases k0 with
     |zero=>exact nEx h
     |succ k0=>
     obtain⟨C0,hC0⟩:∃C,C=hU K1 k0:=⟨_,rfl⟩;replace h:=(hU.eq_2 ..).symm.trans h
     try rw[<-hC0]at h
     refine aaE (aN [] [] [0,2,7,8,32,1000001,1000002,1000003] [2,7,6202] trivial ?_);refine cK (decide ((lZ l7)>=(3:Int))) (fun hc4=> ?_) fun hc4=> ?_
     ·replace h:=aF hc4 h;refine aaF (tN (aaE (aaJ (aaE ?_))));obtain⟨r9,hr9,h⟩:=bind_ok h;obtain⟨ob10p,h⟩:=aB h;have ob10:0<=(0:Int)/\(0:Int)<(((l7).length:Nat):Int):=⟨by omega,ob10p⟩;refine bG [] [(3,⟨[.str (l7.getD 0 [])],[],[],[],.tup [.i r9.1,.ifc r9.2],[],[],[2,3]⟩)] [0,2,7,8,9,1000001,1000002,1000003] [2,7,6202] (an2 ob10 (cpT (f97_ok _ _ hr9))) ?_;refine tN (aaE ?_);obtain⟨r10,hr10,h⟩:=bind_ok h;obtain⟨ob11p,h⟩:=aB h;have ob11:0<=(1:Int)/\(1:Int)<(((l7).length:Nat):Int):=⟨by omega,ob11p⟩;refine bG [] [(3,⟨[.str (l7.getD 1 [])],[],[],[],.tup [.i r10.1,.ifc r10.2],[],[],[2,3]⟩)] [0,2,7,8,9,11,1000001,1000002,1000003] [2,7,6202] (an2 ob11 (cpT (f97_ok _ _ hr10))) ?_;refine tN ?_;obtain⟨ob12p,h⟩:=aB h;have ob12:0<=(2:Int)/\(2:Int)<(((l7).length:Nat):Int):=⟨by omega,ob12p⟩;obtain⟨ob13,h⟩:=aB h;refine bH [] [] ⟨96,(f68z8 x1 l7),[(2,.cells 100 (mG)),(7,.cells 100 (f68z11)),(6202,.rows 88 3 ((l8).length+1) (gK (l8).length (cE bX aZ l8) (dN 3 [.i r9.1,.i r10.1,.str (l7.getD 2 [])])))],[],0⟩ (an3 ob12 ob13 trivial) ?_;refine kN (tN (aaX (acZ (s':=⟨96,(f68z8 x1 l7),(f68z4 l8 r9 r10 l7),[],0⟩) rfl rfl ⟨.refl _,.refl _,.refl _,.refl _,.refl _,.refl _,.refl _,trivial⟩ ⟨⟨_,rfl,.refl _⟩,⟨_,rfl,.refl _⟩,⟨_,rfl,(acK (adQ (acX _) (acV (enc:=bX) [(r9.1,r10.1,(l7.getD 2 []))] rfl rfl (fun _=>rfl))))⟩,trivial⟩) ?_));obtain⟨ob14p,h⟩:=aB h;have ob14:0<=(3:Int)/\(3:Int)<=(((l7).length:Nat):Int):=⟨by omega,ob14p⟩;refine bH [] [] ⟨96,[(0,.str x1),(2,.ptr 2 0),(7,.ptr 7 0),(8,.arr 1 ((l7).length-3) (fun i j=>(cE eS [] l7) (i+3) j)),(1000001,pT),(1000002,bV),(1000003,bV)],(f68z4 l8 r9 r10 l7),[],0⟩ (an1 ob14) ?_;rw[hC0]at h;exact lN (_,(l7.drop 3),(l8++[(r9.1,r10.1,(l7.getD 2 []))])) (aaL (acZ (s':=⟨96,[(0,.str x1),(2,.ptr 2 0),(7,.ptr 7 0),(8,eC (l7.drop 3)),(1000001,pT),(1000002,bV),(1000003,bV)],(f68z4 l8 r9 r10 l7),[],0⟩) rfl rfl ⟨.refl _,.refl _,.refl _,VLe.dropL,.refl _,.refl _,.refl _,trivial⟩ ⟨⟨_,rfl,.refl _⟩,⟨_,rfl,.refl _⟩,⟨_,rfl,.refl _⟩,trivial⟩) LR) h (aaK _)
     ·replace h:=aG hc4 h;refine abK (tE (tE (kS (kN ?_))));exact jN (1,(0:Int),l8) LR h
  ·rintro⟨n4,i5,l6⟩ h;replace h:=(congrFun hK1 _).symm.trans h;refine aaE (aaE ?_);obtain⟨r11,hr11,h⟩:=bind_ok h;obtain⟨r12,hr12,h⟩:=cF h;have ob18:true=true->(r11 !=(0:Int))=false->(aAz r11)=true:=fun _ h=>beq_iff_eq.2 h;refine bG [] [(1,⟨[.agg (aAA n4 i5 l6)],[],[],[],.i r11,[],[6202],[]⟩),(5,⟨[.agg (aAA n4 i5 l6)],[],[],[],.str r12,[],[6202],[1]⟩)] [2,7,93,1000001,1000002,1000003] [2,7,6202] (an4 (cpL (c:=true) [(6202,aM l6)] [6202] [.agg (f68z9 n4 i5)] (fun _=>(f98_ok _ _ _ _ hr11)) (fun _=>⟨.refl _,trivial⟩) (.inr ⟨rfl,trivial⟩)) (aaM (cpL [(6202,aM l6)] [6202] [.agg (f68z9 n4 i5)] (fun hc=>(f99_ok _ _ _ _ (hr12 hc))) (fun _=>⟨.refl _,trivial⟩) (.inr ⟨rfl,trivial⟩)) (an1 (idA ((aAz r11)=true)))) (an2 (idA ((aAz r11)=true)) (idA ((aAz r11)=true))) ob18) ?_;refine tN (cK ((r11 !=(0:Int))||(!(r12==x1))) (fun hc5=> ?_) fun hc5=> ?_)
   ·replace h:=aF hc5 h;refine bJ [] [] ⟨96,[(2,.ptr 2 0),(3,.i (2:Int)),(1000001,pT),(1000002,bV),(1000003,bV)],[(2,.cells 100 (mG))],[],0⟩ (an1 trivial) ?_;obtain rfl:=aaD h;refine aaX (acZ (s':=⟨96,[(2,.ptr 2 0),(3,.i (2:Int))],[(2,.cells 100 [.i (0:Int),.i (0:Int),bC []])],[],0⟩) rfl rfl ⟨.refl _,.refl _,trivial⟩ ⟨⟨_,rfl,(.cellsL ⟨.refl _,.refl _,.nilL,trivial⟩)⟩,trivial⟩) ?_;refine aaG (tR ?_);exact bD
   ·replace h:=aG hc5 h;refine aaF (tN (bJ [] [] ⟨96,(f68z6),[(2,.cells 100 (f68z9 n4 i5)),(6202,aM l6)],[],0⟩ (an1 trivial) ?_));refine aaX (aaL (aeU 6202 rfl rfl) (LR (s':=⟨96,(f68z6),[(2,.cells 100 (aAA n4 i5 l6))],[],0⟩))) ?_;obtain rfl:=aaD h;refine aaX (LR (s':=⟨96,[(2,.ptr 2 0),(3,.i (0:Int))],[(2,.cells 100 (aAA n4 i5 l6))],[],0⟩)) ?_;refine aaG ?_;exact bD
def jH (x1:List Tq0) (x2 x3:Int) (x4:aaA) (K1:Unit->Option Int):Nat->Nat->Option Int
 |0,_=>none
 |k+1,n5=>
  if(decide ((n5:Int)<(((x1).length:Nat):Int)))then(
  chk ((n5:Int)<(((x1).length:Nat):Int))<|
  if((x2==(x1.getD n5 (default:Tq0)).1)&&((x3==(x1.getD n5 (default:Tq0)).2.1)&&((x4==((x1.getD n5 (default:Tq0)).2.2))&&true)))then(
  some (n5:Int)
  )else(
  chk (((n5:Int)+(1:Int))<=9223372036854775807)<|
  (jH x1 x2 x3 x4 K1 k) (n5+1)
  )
  )else(
  K1 ()
  )
abbrev aAU (x2 x3:Int) (x4:aaA):aJ:=[(3,.cells 88 [.i x2,.i x3,.str x4])]
abbrev rU (x1:List Tq0) (n5:Nat):=(x1.getD n5 (default:Tq0))
def f122 (x1:List Tq0) (x2 x3:Int) (x4:aaA):Option Int:=
 jn (fun(_:Unit)=>
 some (-1:Int)
 ) fun(K1:Unit->Option Int)=>
 jH x1 x2 x3 x4 K1 bB 0
theorem f122_ok (x1:List Tq0) (x2 x3:Int) (x4:aaA) (r:Int) (h:f122 x1 x2 x3 x4=some r):aE Tryz.prog 122 [] [] [] [vL 3 bX (default:Tq0) x1,.agg [.i x2,.i x3,.str x4]] (.i r) []:=by
 unfold f122 at h;refine aE.body 0 _ _ Tryz.func122 rfl Tryz.ntmps122 rfl rfl ?_;refine aN [] [] [0,3] [3] trivial ?_;obtain⟨K1,hK1,h⟩:=aO h;refine aaU (fun(x:Unit)=>match x with|()=>⟨19,[],[],[],0⟩) (fun x=>K1 x=some r) ?_ ?_
 ·refine bJ [] [] ⟨19,[(0,bC x1),(3,.ptr 3 0),(7,.i (lZ x1)),(8,.i (0:Int))],(aAU x2 x3 x4),[],0⟩ trivial ?_;refine aaJ (abI (α:=Nat×Nat) (fun x=>match x with|(_,n5)=>⟨19,[(0,bC x1),(3,.ptr 3 0),(7,.i (lZ x1)),(8,.i (n5:Int))],(aAU x2 x3 x4),[],0⟩) (fun x=>jH x1 x2 x3 x4 K1 x.1 x.2=some r) (fun x=>x.1) (bB,0) LR h ?_)
  rintro⟨k0,n5⟩ h
  cases k0 with
  |zero=>exact nEx h
  |succ k0=>
  obtain⟨C0,hC0⟩:∃C,C=jH x1 x2 x3 x4 K1 k0:=⟨_,rfl⟩;replace h:=(jH.eq_2 ..).symm.trans h
  try rw[<-hC0]at h
  refine aN [] [] [0,3,7,8,9] [3] trivial ?_;refine aaE (cK (decide ((n5:Int)<(lZ x1))) (fun hc1=> ?_) fun hc1=> ?_)
  ·replace h:=aF hc1 h;refine aaF (tN (aaE (aaJ (aN [] [] [0,3,5,7,8] [3] trivial ?_))));refine aaE ?_;obtain⟨ob0p,h⟩:=aB h;refine bH [] [] ⟨19,[(0,bC x1),(3,.ptr 3 0),(5,.i (n5:Int)),(7,.i (lZ x1)),(8,.i (n5:Int)),(16,.bool ((x2==(rU x1 n5).1)&&((x3==(rU x1 n5).2.1)&&((x4==((rU x1 n5).2.2))&&true))))],(aAU x2 x3 x4),[],0⟩ (an1 (iN ob0p)) ?_;refine tN (cK ((x2==(rU x1 n5).1)&&((x3==(rU x1 n5).2.1)&&((x4==((rU x1 n5).2.2))&&true))) (fun hc2=> ?_) fun hc2=> ?_)
   ·replace h:=aF hc2 h;refine aN [] [] [4] [] trivial ?_;obtain rfl:=aaD h;refine aaG (kR (tR (tR (kR (aS ?_)))));exact bK
   ·replace h:=aG hc2 h;refine aaF (kN (tN ?_));obtain⟨ob1p,h⟩:=aB h;refine bH [] [] ⟨19,[(0,bC x1),(3,.ptr 3 0),(7,.i (lZ x1)),(8,.i (((n5+1):Nat):Int))],(aAU x2 x3 x4),[],0⟩ (an1 (iP ob1p)) ?_;rw[hC0]at h;exact lN (_,(n5+1)) LR h (aaK _)
  ·replace h:=aG hc1 h;refine abK (tE (tE (kS ?_)));exact jN () LR h
 ·rintro⟨⟩ h;replace h:=(congrFun hK1 _).symm.trans h;refine aN [] [] [4] [] trivial ?_;obtain rfl:=aaD h;refine aaG ?_;exact bK
def f89 (x1:List Tq0) (x2 x3:Int) (x4:aaA):Option Bool:=
 (f122 x1 x2 x3 x4).bind fun r5=>
 some (decide (r5>=(0:Int)))
theorem f89_ok (x1:List Tq0) (x2 x3:Int) (x4:aaA) (r:Bool) (h:f89 x1 x2 x3 x4=some r):aE Tryz.prog 89 [] [] [] [vL 3 bX (default:Tq0) x1,.agg [.i x2,.i x3,.str x4]] (.bool r) []:=by
 unfold f89 at h;refine aE.body 0 _ _ Tryz.func89 rfl Tryz.ntmps89 rfl rfl ?_;refine aN [] [] [0,3] [3] trivial ?_;refine aaE ?_;obtain⟨r5,hr5,h⟩:=bind_ok h;refine bH [] [(2,⟨[bC x1,.agg [.i x2,.i x3,.str x4]],[],[],[],.i r5,[],[],[]⟩)] ⟨9,[(4,.bool (decide (r5>=(0:Int))))],[],[],0⟩ (an1 (cpT (f122_ok _ _ _ _ _ hr5))) ?_;refine tN ?_;obtain rfl:=aaD h;refine aaG ?_;exact bK
def f124  :Option (Ty6×Ty4):=
 some ([],[])
theorem f124_ok (r:Ty6×Ty4) (h:f124=some r):aE Tryz.prog 124 [] [] [] [] (.agg [vL 3 cH (default:Tq2) r.1,vL 3 bX (default:Tq0) r.2]) []:=by
 unfold f124 at h;refine aE.bodyD [0] 0 _ _ Tryz.func124 rfl Tryz.ntmps124 rfl rfl ?_;refine aN [] [] [0] [0] trivial ?_;refine bJ [] [] ⟨2,[(0,.ptr 0 0)],[(0,.cells 92 [.nils,.nils])],[],0⟩ (an1 trivial) ?_;obtain rfl:=aaD h;refine aaX (acZ (s':=⟨2,[(0,.ptr 0 0)],[(0,.cells 92 [aY [],bC []])],[],0⟩) rfl rfl ⟨.refl _,trivial⟩ ⟨⟨_,rfl,(.cellsL ⟨.nilL,.nilL,trivial⟩)⟩,trivial⟩) ?_;refine aaG ?_;exact bD
abbrev f150z0 (x1:Int):=((decide (x1>=(0:Int)))&&(decide (x1<(6:Int))))
abbrev f150z1 (x1 x2:Int):=((f150z0 x1)&&(decide (x2>=(1:Int))))
def f150 (x1 x2:Int):Option Bool:=
 some ((((decide (x1>=(0:Int)))&&(decide (x1<(6:Int))))&&(decide (x2>=(1:Int))))&&(decide (x2<=(1000000:Int))))
theorem f150_ok (x1 x2:Int) (r:Bool) (h:f150 x1 x2=some r):aE Tryz.prog 150 [] [] [] [.i x1,.i x2] (.bool r) []:=by
 unfold f150 at h;refine aE.body 0 _ _ Tryz.func150 rfl Tryz.ntmps150 rfl rfl ?_;refine aN [] [] [0,1] [] trivial ?_;refine aaE (bH [] [] ⟨19,[(4,.bool ((f150z1 x1 x2)&&(decide (x2<=(1000000:Int)))))],[],[],0⟩ (an6 (an1 (idA (((decide (x1>=(0:Int)))==true)=true))) (bqA (decide (x1>=(0:Int))) true) (an1 (idA (((f150z0 x1)==true)=true))) (bqA (f150z0 x1) true) (an1 (idA (((f150z1 x1 x2)==true)=true))) (bqA (f150z1 x1 x2) true)) ?_);refine tN ?_;obtain rfl:=aaD h;refine aaG ?_;exact bK
def f180 (x1 x2:Int) (x3:aaA) (x4:Int):Option Int:=
 some (IntKind.wrap .i64 (x1-x4))
theorem f180_ok (x1 x2:Int) (x3:aaA) (x4 r:Int) (h:f180 x1 x2 x3 x4=some r):aE Tryz.prog 180 [] [] [] [.agg [.i x1,.i x2,.str x3],.i x4] (.i r) []:=by
 unfold f180 at h;refine aE.body 0 _ _ Tryz.func180 rfl Tryz.ntmps180 rfl rfl ?_;refine aN [8] [] [1,2] [2] trivial ?_;refine bJ [8] [] ⟨9,[(4,.i (IntKind.wrap .i64 (x1-x4)))],[],[],0⟩ (an1 trivial) ?_;obtain rfl:=aaD h;refine aaG ?_;exact bK
def gT (x1:List Tq0) (x2:Int) (K1:Int->Option Tq3):Nat->Tq1->Option Tq3
 |0,_=>none
 |k+1,(i3,i4)=>
  if(decide (i3<i4))then(
  chk (-9223372036854775808<=(i3+i4)/\(i3+i4)<=9223372036854775807)<|
  chk (0<=(i3+i4)/\(i3+i4)<=18446744073709551615)<|
  chk (1<=IntKind.bits .u64)<|
  chk (-9223372036854775808<=((i3+i4)/2^1)/\((i3+i4)/2^1)<=9223372036854775807)<|
  (f180 ((x1.getD ((((i3+i4)/2^1)).toNat) (default:Tq0)).1) ((x1.getD ((((i3+i4)/2^1)).toNat) (default:Tq0)).2.1) ((x1.getD ((((i3+i4)/2^1)).toNat) (default:Tq0)).2.2) x2).bind fun r5=>
  chk (0<=((i3+i4)/2^1)/\((i3+i4)/2^1)<(((x1).length:Nat):Int))<|
  if(decide (r5<(0:Int)))then(
  chk (-9223372036854775808<=(((i3+i4)/2^1)+(1:Int))/\(((i3+i4)/2^1)+(1:Int))<=9223372036854775807)<|
  (gT x1 x2 K1 k) ((((i3+i4)/2^1)+(1:Int)),i4)
  )else(
  (gT x1 x2 K1 k) (i3,((i3+i4)/2^1))
  )
  )else(
  K1 i3
  )
def f179 (x1:List Tq0) (x2:Int):Option Tq3:=
 jn (fun(i6:Int)=>
 gB ((decide (i6<(((x1).length:Nat):Int)))==true) (f180 ((x1.getD ((i6).toNat) (default:Tq0)).1) ((x1.getD ((i6).toNat) (default:Tq0)).2.1) ((x1.getD ((i6).toNat) (default:Tq0)).2.2) x2) fun r7=>
 chk (((decide (i6<(((x1).length:Nat):Int)))==true)=true->0<=i6/\i6<(((x1).length:Nat):Int))<|
 some (i6,((decide (i6<(((x1).length:Nat):Int)))&&(r7==(0:Int))))
 ) fun(K1:Int->Option Tq3)=>
 gT x1 x2 K1 bB ((0:Int),(((x1).length:Nat):Int))
theorem f179_ok (x1:List Tq0) (x2:Int) (r:Tq3) (h:f179 x1 x2=some r):aE Tryz.prog 179 [] [] [] [vL 3 bX (default:Tq0) x1,.i x2,.fn (.func 180) []] (.tup [.i r.1,.bool r.2]) []:=by
 unfold f179 at h;refine aE.body 0 _ _ Tryz.func179 rfl Tryz.ntmps179 rfl rfl ?_;refine aN [] [] [0,1,2] [] trivial ?_;refine aN [] [] [0,1,2,8] [] trivial ?_;refine bJ [] [] ⟨49,[(0,bC x1),(1,.i x2),(2,.fn (.func 180) []),(8,.i (lZ x1)),(9,.i (0:Int)),(10,.i (lZ x1))],[],[],0⟩ trivial ?_;obtain⟨K1,hK1,h⟩:=aO h;refine aaU (α:=Int) (fun(i6:Int)=>⟨49,[(0,bC x1),(1,.i x2),(2,.fn (.func 180) []),(8,.i (lZ x1)),(9,.i i6)],[],[],0⟩) (fun x=>K1 x=some r) ?_ ?_
 ·refine aaJ (abI (α:=Nat×Tq1) (fun x=>match x with|(_,i3,i4)=>⟨49,[(0,bC x1),(1,.i x2),(2,.fn (.func 180) []),(8,.i (lZ x1)),(9,.i i3),(10,.i i4)],[],[],0⟩) (fun x=>gT x1 x2 K1 x.1 x.2=some r) (fun x=>x.1) (bB,(0:Int),(lZ x1)) LR h ?_)
  rintro⟨k0,i3,i4⟩ h
  cases k0 with
  |zero=>exact nEx h
  |succ k0=>
  obtain⟨C0,hC0⟩:∃C,C=gT x1 x2 K1 k0:=⟨_,rfl⟩;replace h:=(gT.eq_2 ..).symm.trans h
  try rw[<-hC0]at h
  refine aaE (aN [] [] [0,1,2,8,9,10,17] [] trivial ?_);refine cK (decide (i3<i4)) (fun hc1=> ?_) fun hc1=> ?_
  ·replace h:=aF hc1 h;refine aaF (tN (aaJ (aaE ?_)));obtain⟨ob0,ob1,ob2p,h⟩:=ck3 h;have ob2:0<=(1:Int)/\1<=IntKind.bits .u64:=⟨by omega,ob2p⟩;obtain⟨ob3,h⟩:=aB h;refine bG [] [] [0,1,2,8,9,10,11] [] (an4 ob0 ob1 ob2 ob3) ?_;refine tN (aaE ?_);obtain⟨r5,hr5,h⟩:=bind_ok h;obtain⟨ob4,h⟩:=aB h;refine bG [] [(6,⟨[.agg [.i (x1.getD ((((i3+i4)/2^1)).toNat) aZ).1,.i (x1.getD ((((i3+i4)/2^1)).toNat) aZ).2.1,.str (x1.getD ((((i3+i4)/2^1)).toNat) aZ).2.2],.i x2],[],[],[],.i r5,[],[],[]⟩)] [0,1,2,8,9,10,11,31] [] (an2 ob4 (cpT (f180_ok _ _ _ _ _ hr5))) ?_;refine tN (cK (decide (r5<(0:Int))) (fun hc2=> ?_) fun hc2=> ?_)
   ·replace h:=aF hc2 h;obtain⟨ob5,h⟩:=aB h;refine bH [] [] ⟨49,[(0,bC x1),(1,.i x2),(2,.fn (.func 180) []),(8,.i (lZ x1)),(9,.i (((i3+i4)/2^1)+(1:Int))),(10,.i i4)],[],[],0⟩ (an1 ob5) ?_;refine kN ?_;rw[hC0]at h;exact lN (_,(((i3+i4)/2^1)+(1:Int)),i4) LR h (aaK _)
   ·replace h:=aG hc2 h;refine bG [] [] [0,1,2,8,9,10] [] trivial ?_;refine kN ?_;rw[hC0]at h;exact lN (_,i3,((i3+i4)/2^1)) LR h (aaK _)
  ·replace h:=aG hc1 h;refine abK (tE (tE (kS ?_)));exact jN (i3) LR h
 ·rintro i6 h;replace h:=(congrFun hK1 _).symm.trans h;refine aaE ?_;obtain⟨r7,hr7,h⟩:=cF h;obtain⟨ob6,h⟩:=aB h;refine bG [] [(11,⟨[.agg [.i (x1.getD ((i6).toNat) aZ).1,.i (x1.getD ((i6).toNat) aZ).2.1,.str (x1.getD ((i6).toNat) aZ).2.2],.i x2],[],[],[],.i r7,[],[],[]⟩)] [6,7] [] (an5 (aaM ob6 (an2 (idA (((decide (i6<(lZ x1)))==true)=true)) (idA (((decide (i6<(lZ x1)))==true)=true)))) (an1 (idA (((decide (i6<(lZ x1)))==true)=true))) (aaM (cpC fun hc=>(f180_ok _ _ _ _ _ (hr7 hc))) (an3 (idA (((decide (i6<(lZ x1)))==true)=true)) (idA (((decide (i6<(lZ x1)))==true)=true)) (idA (((decide (i6<(lZ x1)))==true)=true)))) (an1 (idA (((decide (i6<(lZ x1)))==true)=true))) (bqA (decide (i6<(lZ x1))) true)) ?_;refine tN ?_;obtain rfl:=aaD h;refine aaG ?_;exact bK
def f151 (x1:List Tq0) (x2:Int):Option Tq3:=
 (f179 x1 x2).bind fun r3=>
 some (r3.1,r3.2)
theorem f151_ok (x1:List Tq0) (x2:Int) (r:Tq3) (h:f151 x1 x2=some r):aE Tryz.prog 151 [] [] [] [vL 3 bX (default:Tq0) x1,.i x2] (.tup [.i r.1,.bool r.2]) []:=by
 unfold f151 at h;refine aE.body 0 _ _ Tryz.func151 rfl Tryz.ntmps151 rfl rfl ?_;refine aN [] [] [0,1] [] trivial ?_;refine aaE ?_;obtain⟨r3,hr3,h⟩:=bind_ok h;refine bH [] [(2,⟨[bC x1,.i x2,.fn (.func 180) []],[],[],[],.tup [.i r3.1,.bool r3.2],[],[],[]⟩)] ⟨11,[(4,.i r3.1),(5,.bool r3.2)],[],[],0⟩ (an1 (cpT (f179_ok _ _ _ hr3))) ?_;refine tN ?_;obtain rfl:=aaD h;refine aaG ?_;exact bK
def f181 (x1 x2:aaA):Option (List Ty1):=aAd x1 x2
theorem f181_ok (x1 x2:aaA) (r:List Ty1) (h:f181 x1 x2=some r):aE Tryz.prog 181 [] [] [] [.str x1,.str x2] (.own 3000) [(3000,bL 9 1 eS [] r)]:=
 aBf 9 (fun s c w hs=>split_one Tryz.lays146 (by kernel_rfl) s c w hs) x1 x2 r h
abbrev fE :=([112,117,116]:aaA)
abbrev gH :=([103,101,116]:aaA)
abbrev pX :=([99,97,115]:aaA)
def f182  :Option Unit:=
 some ()
theorem f182_ok (r:Unit) (h:f182=some r):aE Tryz.prog 182 [] [] [] [] (vM (V.int .i64) 0 iE (default:Tq8) bY bS) []:=by
 unfold f182 at h;refine aE.body 0 _ _ Tryz.func182 rfl Tryz.ntmps182 rfl rfl ?_;refine aN [] [] [] [] trivial ?_;refine bJ [] [(0,⟨[],[],[],[(1,bM (V.int .i64) 0 iE aW [] [])],.own 1,[1],[],[]⟩),(2,⟨[.own 1,.i (1:Int),.agg [.str (fE),.bool true,.bool false,.bool true]],[1],[1],[(1,bM (V.int .i64) 0 iE aW ([]++[(1:Int)]) ([]++[((fE),true,false,true)]))],.any,[],[],[]⟩),(4,⟨[.own 1,.i (2:Int),.agg [.str (gH),.bool true,.bool false,.bool false]],[1],[1],[(1,bM (V.int .i64) 0 iE aW (([]++[(1:Int)])++[(2:Int)]) (([]++[((fE),true,false,true)])++[((gH),true,false,false)]))],.any,[],[],[]⟩),(6,⟨[.own 1,.i (3:Int),.agg [.str cs6,.bool true,.bool false,.bool false]],[1],[1],[(1,bM (V.int .i64) 0 iE aW ((([]++[(1:Int)])++[(2:Int)])++[(3:Int)]) ((([]++[((fE),true,false,true)])++[((gH),true,false,false)])++[(cs6,true,false,false)]))],.any,[],[],[]⟩),(8,⟨[.own 1,.i (4:Int),.agg [.str cs7,.bool true,.bool false,.bool true]],[1],[1],[(1,bM (V.int .i64) 0 iE aW (((([]++[(1:Int)])++[(2:Int)])++[(3:Int)])++[(4:Int)]) (((([]++[((fE),true,false,true)])++[((gH),true,false,false)])++[(cs6,true,false,false)])++[(cs7,true,false,true)]))],.any,[],[],[]⟩),(10,⟨[.own 1,.i (5:Int),.agg [.str (pX),.bool true,.bool true,.bool true]],[1],[1],[(1,bM (V.int .i64) 0 iE aW ((((([]++[(1:Int)])++[(2:Int)])++[(3:Int)])++[(4:Int)])++[(5:Int)]) ((((([]++[((fE),true,false,true)])++[((gH),true,false,false)])++[(cs6,true,false,false)])++[(cs7,true,false,true)])++[((pX),true,true,true)]))],.any,[],[],[]⟩),(12,⟨[.own 1,.i (6:Int),.agg [.str cs8,.bool false,.bool false,.bool false]],[1],[1],[(1,bM (V.int .i64) 0 iE aW (((((([]++[(1:Int)])++[(2:Int)])++[(3:Int)])++[(4:Int)])++[(5:Int)])++[(6:Int)]) (((((([]++[((fE),true,false,true)])++[((gH),true,false,false)])++[(cs6,true,false,false)])++[(cs7,true,false,true)])++[((pX),true,true,true)])++[(cs8,false,false,false)]))],.any,[],[],[]⟩)] ⟨9,[(0,.own 1)],[(1,bM (V.int .i64) 0 iE aW (((((([]++[(1:Int)])++[(2:Int)])++[(3:Int)])++[(4:Int)])++[(5:Int)])++[(6:Int)]) (((((([]++[((fE),true,false,true)])++[((gH),true,false,false)])++[(cs6,true,false,false)])++[(cs7,true,false,true)])++[((pX),true,true,true)])++[(cs8,false,false,false)]))],[],0⟩ (ac6 (aaM (sO (P:=Tryz.prog) (V.int .i64) 0 iE aW 261 1 261) (eF.same [])) (aaM (dX Tryz.underlying261 Tryz.underlying3 (.insert 261 (.tmp 1) (.const (.int .i64 1)) (.tmp 2)) (.tmp 1) (.const (.int .i64 1)) (.tmp 2) (.inl rfl) (V.int .i64) 0 iE aW (dP .i64) (fun _=>rfl) (fun _=>rfl) (fun _=>rfl) 0 1 [] [] (1:Int) ((fE),true,false,true) rfl rfl) (eF.same [.own 1,.i (1:Int),.agg [.str (fE),.bool true,.bool false,.bool true]])) (aaM (dX Tryz.underlying261 Tryz.underlying3 (.insert 261 (.tmp 1) (.const (.int .i64 2)) (.tmp 3)) (.tmp 1) (.const (.int .i64 2)) (.tmp 3) (.inl rfl) (V.int .i64) 0 iE aW (dP .i64) (fun _=>rfl) (fun _=>rfl) (fun _=>rfl) 0 1 ([]++[(1:Int)]) ([]++[((fE),true,false,true)]) (2:Int) ((gH),true,false,false) rfl rfl) (eF.same [.own 1,.i (2:Int),.agg [.str (gH),.bool true,.bool false,.bool false]])) (aaM (dX Tryz.underlying261 Tryz.underlying3 (.insert 261 (.tmp 1) (.const (.int .i64 3)) (.tmp 4)) (.tmp 1) (.const (.int .i64 3)) (.tmp 4) (.inl rfl) (V.int .i64) 0 iE aW (dP .i64) (fun _=>rfl) (fun _=>rfl) (fun _=>rfl) 0 1 (([]++[(1:Int)])++[(2:Int)]) (([]++[((fE),true,false,true)])++[((gH),true,false,false)]) (3:Int) (cs6,true,false,false) rfl rfl) (eF.same [.own 1,.i (3:Int),.agg [.str cs6,.bool true,.bool false,.bool false]])) (aaM (dX Tryz.underlying261 Tryz.underlying3 (.insert 261 (.tmp 1) (.const (.int .i64 4)) (.tmp 5)) (.tmp 1) (.const (.int .i64 4)) (.tmp 5) (.inl rfl) (V.int .i64) 0 iE aW (dP .i64) (fun _=>rfl) (fun _=>rfl) (fun _=>rfl) 0 1 ((([]++[(1:Int)])++[(2:Int)])++[(3:Int)]) ((([]++[((fE),true,false,true)])++[((gH),true,false,false)])++[(cs6,true,false,false)]) (4:Int) (cs7,true,false,true) rfl rfl) (eF.same [.own 1,.i (4:Int),.agg [.str cs7,.bool true,.bool false,.bool true]])) (aaM (dX Tryz.underlying261 Tryz.underlying3 (.insert 261 (.tmp 1) (.const (.int .i64 5)) (.tmp 6)) (.tmp 1) (.const (.int .i64 5)) (.tmp 6) (.inl rfl) (V.int .i64) 0 iE aW (dP .i64) (fun _=>rfl) (fun _=>rfl) (fun _=>rfl) 0 1 (((([]++[(1:Int)])++[(2:Int)])++[(3:Int)])++[(4:Int)]) (((([]++[((fE),true,false,true)])++[((gH),true,false,false)])++[(cs6,true,false,false)])++[(cs7,true,false,true)]) (5:Int) ((pX),true,true,true) rfl rfl) (eF.same [.own 1,.i (5:Int),.agg [.str (pX),.bool true,.bool true,.bool true]])) (an1 (aaM (dX Tryz.underlying261 Tryz.underlying3 (.insert 261 (.tmp 1) (.const (.int .i64 6)) (.tmp 7)) (.tmp 1) (.const (.int .i64 6)) (.tmp 7) (.inl rfl) (V.int .i64) 0 iE aW (dP .i64) (fun _=>rfl) (fun _=>rfl) (fun _=>rfl) 0 1 ((((([]++[(1:Int)])++[(2:Int)])++[(3:Int)])++[(4:Int)])++[(5:Int)]) ((((([]++[((fE),true,false,true)])++[((gH),true,false,false)])++[(cs6,true,false,false)])++[(cs7,true,false,true)])++[((pX),true,true,true)]) (6:Int) (cs8,false,false,false) rfl rfl) (eF.same [.own 1,.i (6:Int),.agg [.str cs8,.bool false,.bool false,.bool false]])))) ?_;refine aaX (aaL (Le.freezeM 1 rfl rfl) (LR (s':=⟨9,[(0,vM (V.int .i64) 0 iE aW bY bS)],[],[],0⟩))) ?_;obtain rfl:=aaD h;refine aaX (LR (s':=⟨9,[(0,vM (V.int .i64) 0 iE aW bY bS)],[],[],0⟩)) ?_;refine aaG ?_;exact bK
def f183 (x1:Bool) (x2:List Ty1):Option (aaA×List Ty1):=
 if((!x1)||((((x2).length:Nat):Int)==(0:Int)))then(
 some ([],x2)
 )else(
 chk ((0:Int)<(((x2).length:Nat):Int))<|
 chk ((1:Int)<=(((x2).length:Nat):Int))<|
 some ((x2.getD 0 []),(x2.drop 1))
 )
theorem zF (x1:Bool) (x2:List Ty1) (r:aaA×List Ty1) (h:f183 x1 x2=some r):aE Tryz.prog 183 [] [2000] [(2000,.cells 29 [vL 1 eS [] x2])] [.bool x1,.ptr 2000 0] (.str r.1) [(2000,.cells 29 [vL 1 eS [] r.2])]:=by
 unfold f183 at h;refine aE.body 0 _ _ Tryz.func183 rfl Tryz.ntmps183 rfl rfl ?_;refine aN [] [] [0,1] [2000] trivial ?_;refine aaE (aaE (bG [] [] [1,11] [2000] (an3 (an1 (idA (((!x1)==false)=true))) (an1 (idA (((!x1)==false)=true))) (bqA (!x1) false)) ?_));refine tN (cK ((!x1)||((lZ x2)==(0:Int))) (fun hc1=> ?_) fun hc1=> ?_)
 ·replace h:=aF hc1 h;refine bJ [] [] ⟨18,[(3,.str [])],[(2000,.cells 29 [eC x2])],[2000],0⟩ trivial ?_;obtain rfl:=aaD h;refine aaG (tR ?_);exact bK
 ·replace h:=aG hc1 h;refine aaF (tN (aaE ?_));obtain⟨ob3p,h⟩:=aB h;have ob3:0<=(0:Int)/\(0:Int)<(((x2).length:Nat):Int):=⟨by omega,ob3p⟩;refine bG [] [] [1,4] [2000] (an1 ob3) ?_;refine tN (aaE ?_);obtain⟨ob4p,h⟩:=aB h;have ob4:0<=(1:Int)/\(1:Int)<=(((x2).length:Nat):Int):=⟨by omega,ob4p⟩;refine bH [] [] ⟨18,[(4,.str (x2.getD 0 []))],[(2000,.cells 29 [.arr 1 ((x2).length-1) (fun i j=>(cE eS [] x2) (i+1) j)])],[2000],0⟩ (an2 ob4 trivial) ?_;refine tN (aaX (acZ (s':=⟨18,[(4,.str (x2.getD 0 []))],[(2000,.cells 29 [eC (x2.drop 1)])],[2000],0⟩) rfl rfl ⟨.refl _,trivial⟩ ⟨⟨_,rfl,(.cellsL ⟨VLe.dropL,trivial⟩)⟩,trivial⟩) ?_);refine aN [] [] [3] [2000] trivial ?_;obtain rfl:=aaD h;refine aaG ?_;exact bK
def fD (x1:aaA) (K1:Unit->Option Bool):Nat->Nat->Option Bool
 |0,_=>none
 |k+1,n3=>
  if(decide ((n3:Int)<((x1.length:Nat):Int)))then(
  chk ((n3:Int)<((x1.length:Nat):Int))<|
  chk (((decide ((((x1.getD n3 0).toNat:Nat):Int)<(33:Int)))==false)=true->0<=(n3:Int)/\(n3:Int)<((x1.length:Nat):Int))<|
  if((decide ((((x1.getD n3 0).toNat:Nat):Int)<(33:Int)))||(decide ((((x1.getD n3 0).toNat:Nat):Int)>(126:Int))))then(
  some false
  )else(
  chk (((n3:Int)+(1:Int))<=9223372036854775807)<|
  (fD x1 K1 k) (n3+1)
  )
  )else(
  K1 ()
  )
theorem aBM (x1:aaA) (K1:Unit->Option Bool) (k n3:Nat):fD x1 K1 (k+1) n3=
  if(decide ((n3:Int)<((x1.length:Nat):Int)))then(
  chk ((n3:Int)<((x1.length:Nat):Int))<|
  chk (((decide ((((x1.getD n3 0).toNat:Nat):Int)<(33:Int)))==false)=true->0<=(n3:Int)/\(n3:Int)<((x1.length:Nat):Int))<|
  if((decide ((((x1.getD n3 0).toNat:Nat):Int)<(33:Int)))||(decide ((((x1.getD n3 0).toNat:Nat):Int)>(126:Int))))then(
  some false
  )else(
  chk (((n3:Int)+(1:Int))<=9223372036854775807)<|
  (fD x1 K1 k) (n3+1)
  )
  )else(
  K1 ()
  ):=rfl
def f219 (x1:aaA) (x2:Int):Option Bool:=
 jn (fun(_:Unit)=>
 some ((!(x1==[]))&&(decide (((x1.length:Nat):Int)<=x2)))
 ) fun(K1:Unit->Option Bool)=>
 fD x1 K1 bB 0
theorem f219_ok (x1:aaA) (x2:Int) (r:Bool) (h:f219 x1 x2=some r):aE Tryz.prog 219 [] [] [] [.str x1,.i x2] (.bool r) []:=by
 unfold f219 at h;refine aE.body 0 _ _ Tryz.func219 rfl Tryz.ntmps219 rfl rfl ?_;refine aN [] [] [0,1] [] trivial ?_;obtain⟨K1,hK1,h⟩:=aO h;refine aaU (fun(x:Unit)=>match x with|()=>⟨30,[(0,.str x1),(1,.i x2)],[],[],0⟩) (fun x=>K1 x=some r) ?_ ?_
 ·refine bJ [] [] ⟨30,[(0,.str x1),(1,.i x2),(7,.i (lZ x1)),(8,.i (0:Int))],[],[],0⟩ trivial ?_;refine aaJ (abI (α:=Nat×Nat) (fun x=>match x with|(_,n3)=>⟨30,[(0,.str x1),(1,.i x2),(7,.i (lZ x1)),(8,.i (n3:Int))],[],[],0⟩) (fun x=>fD x1 K1 x.1 x.2=some r) (fun x=>x.1) (bB,0) LR h ?_)
  rintro⟨k0,n3⟩ h
  cases k0 with
  |zero=>exact nEx h
  |succ k0=>
  obtain⟨C0,hC0⟩:∃C,C=fD x1 K1 k0:=⟨_,rfl⟩;replace h:=(aBM ..).symm.trans h
  try rw[<-hC0]at h
  refine aN [] [] [0,1,7,8,9] [] trivial ?_;refine aaE (cK (decide ((n3:Int)<(lZ x1))) (fun hc1=> ?_) fun hc1=> ?_)
  ·replace h:=aF hc1 h;refine aaF (tN (aaE (aaJ (aN [] [] [0,1,5,7,8] [] trivial ?_))));refine aaE ?_;obtain⟨ob0p,h⟩:=aB h;obtain⟨ob1,h⟩:=aB h;refine bH [] [] ⟨30,[(0,.str x1),(1,.i x2),(7,.i (lZ x1)),(8,.i (n3:Int)),(20,.bool ((decide ((((x1.getD n3 0).toNat:Nat):Int)<(33:Int)))||(decide ((((x1.getD n3 0).toNat:Nat):Int)>(126:Int)))))],[],[],0⟩ (an4 (iN ob0p) (aaM ob1 (an2 (idA (((decide ((((x1.getD n3 0).toNat:Nat):Int)<(33:Int)))==false)=true)) (idA (((decide ((((x1.getD n3 0).toNat:Nat):Int)<(33:Int)))==false)=true)))) (an1 (idA (((decide ((((x1.getD n3 0).toNat:Nat):Int)<(33:Int)))==false)=true))) (bqA (decide ((((x1.getD n3 0).toNat:Nat):Int)<(33:Int))) false)) ?_;refine tN (cK ((decide ((((x1.getD n3 0).toNat:Nat):Int)<(33:Int)))||(decide ((((x1.getD n3 0).toNat:Nat):Int)>(126:Int)))) (fun hc2=> ?_) fun hc2=> ?_)
   ·replace h:=aF hc2 h;refine aN [] [] [4] [] trivial ?_;obtain rfl:=aaD h;refine aaG (kR (tR (tR (kR (aS ?_)))));exact bK
   ·replace h:=aG hc2 h;refine aaF (kN (tN ?_));obtain⟨ob6p,h⟩:=aB h;refine bH [] [] ⟨30,[(0,.str x1),(1,.i x2),(7,.i (lZ x1)),(8,.i (((n3+1):Nat):Int))],[],[],0⟩ (an1 (iP ob6p)) ?_;rw[hC0]at h;exact lN (_,(n3+1)) LR h (aaK _)
  ·replace h:=aG hc1 h;refine abK (tE (tE (kS ?_)));exact jN () LR h
 ·rintro⟨⟩ h;replace h:=(congrFun hK1 _).symm.trans h;refine aaE (bG [] [] [4] [] (an3 (an1 (idA (((!(x1==[]))==true)=true))) (an2 (idA (((!(x1==[]))==true)=true)) (idA (((!(x1==[]))==true)=true))) (bqA (!(x1==[])) true)) ?_);refine tN ?_;obtain rfl:=aaD h;refine aaG ?_;exact bK
def f206 (x1:aaA) (x2:Bool):Option Bool:=
 if(!x2)then(
 some (x1==[])
 )else(
 (f219 x1 (64:Int)).bind fun r3=>
 some r3
 )
theorem yZ (x1:aaA) (x2 r:Bool) (h:f206 x1 x2=some r):aE Tryz.prog 206 [] [] [] [.str x1,.bool x2] (.bool r) []:=by
 unfold f206 at h;refine aE.body 0 _ _ Tryz.func206 rfl Tryz.ntmps206 rfl rfl ?_;refine aN [] [] [0,1] [] trivial ?_;refine aaE (aN [] [] [0,6] [] trivial ?_);refine cK (!x2) (fun hc1=> ?_) fun hc1=> ?_
 ·replace h:=aF hc1 h;refine bJ [] [] ⟨11,[(4,.bool (x1==[]))],[],[],0⟩ trivial ?_;obtain rfl:=aaD h;refine aaG (tR ?_);exact bK
 ·replace h:=aG hc1 h;refine aaF (tN (aaE ?_));obtain⟨r3,hr3,h⟩:=bind_ok h;refine bG [] [(1,⟨[.str x1,.i (64:Int)],[],[],[],.bool r3,[],[],[]⟩)] [4] [] (an1 (cpT (f219_ok _ _ _ hr3))) ?_;refine tN ?_;obtain rfl:=aaD h;refine aaG ?_;exact bK
abbrev jE (x1:Int) (r6:Bool):=((yG bY x1)&&r6)
abbrev wO (x1:Int):=((yG bY x1)==true)
def f185 (x1:Int) (x2 x3 x4:aaA):Option (aaA×Bool×Bool×Bool×Bool):=
 (f182).bind fun r5=>
 gB ((yG bY x1)==true) (f206 x2 ((mE bY bS (default:Tq8) ([],false,false,false) x1).2.1)) fun r6=>
 gB (((yG bY x1)&&r6)==true) (f206 x3 ((mE bY bS (default:Tq8) ([],false,false,false) x1).2.2.1)) fun r7=>
 gB ((((yG bY x1)&&r6)&&r7)==true) (f206 x4 ((mE bY bS (default:Tq8) ([],false,false,false) x1).2.2.2)) fun r8=>
 some ((mE bY bS (default:Tq8) ([],false,false,false) x1).1,(mE bY bS (default:Tq8) ([],false,false,false) x1).2.1,(mE bY bS (default:Tq8) ([],false,false,false) x1).2.2.1,(mE bY bS (default:Tq8) ([],false,false,false) x1).2.2.2,((((yG bY x1)&&r6)&&r7)&&r8))
theorem f185_ok (x1:Int) (x2 x3 x4:aaA) (r:aaA×Bool×Bool×Bool×Bool) (h:f185 x1 x2 x3 x4=some r):aE Tryz.prog 185 [] [] [] [.agg [.i x1,.str x2,.str x3,.str x4]] (.tup [.agg [.str r.1,.bool r.2.1,.bool r.2.2.1,.bool r.2.2.2.1],.bool r.2.2.2.2]) []:=by
 unfold f185 at h;refine aE.bodyD [2] 0 _ _ Tryz.func185 rfl Tryz.ntmps185 rfl rfl ?_;refine aN [] [] [1,2] [1,2] trivial ?_;refine aaE ?_;obtain⟨r5,hr5,h⟩:=bind_ok h;refine bG [] [(0,⟨[],[],[],[],vM (V.int .i64) 0 iE aW bY bS,[],[],[]⟩),(3,⟨[vM (V.int .i64) 0 iE aW bY bS,.i x1],[],[],[],.tup [.agg [.str (mE bY bS aW ([],false,false,false) x1).1,.bool (mE bY bS aW ([],false,false,false) x1).2.1,.bool (mE bY bS aW ([],false,false,false) x1).2.2.1,.bool (mE bY bS aW ([],false,false,false) x1).2.2.2],.bool (yG bY x1)],[],[],[]⟩)] [1,2,4,5] [1,2,4] (an3 (cpT (f182_ok _ hr5)) (aaM (uV (P:=Tryz.prog) Tryz.underlying261 Tryz.underlying3 (V.int .i64) 0 iE aW ([],false,false,false) (dP .i64) (fun _=>rfl) (by kernel_rfl) (.tmp 7) (.tmp 9) 266 bY bS x1) (eF.same [vM (V.int .i64) 0 iE aW bY bS,.i x1])) trivial) ?_;refine tN (aaE ?_);obtain⟨r6,hr6,h⟩:=cF h;obtain⟨r7,hr7,h⟩:=cF h;obtain⟨r8,hr8,h⟩:=cF h;have ob4:true=true->(yG bY x1)=true->(wO x1)=true:=fun _ h=>beq_iff_eq.2 h;refine bH [] [(7,⟨[.str x2,.bool (mE bY bS aW ([],false,false,false) x1).2.1],[],[],[],.bool r6,[],[],[]⟩),(14,⟨[.str x3,.bool (mE bY bS aW ([],false,false,false) x1).2.2.1],[],[],[],.bool r7,[],[],[]⟩),(21,⟨[.str x4,.bool (mE bY bS aW ([],false,false,false) x1).2.2.2],[],[],[],.bool r8,[],[],[]⟩)] ⟨36,[(2,.ptr 2 0),(3,.bool (((jE x1 r6)&&r7)&&r8))],[(2,.cells 264 [.str (mE bY bS aW ([],false,false,false) x1).1,.bool (mE bY bS aW ([],false,false,false) x1).2.1,.bool (mE bY bS aW ([],false,false,false) x1).2.2.1,.bool (mE bY bS aW ([],false,false,false) x1).2.2.2])],[],0⟩ (ac6 (an1 (idA ((wO x1)=true))) (an1 (idA ((wO x1)=true))) (aaM (cpC fun hc=>(yZ _ _ _ (hr6 hc))) (an2 (idA ((wO x1)=true)) (idA ((wO x1)=true)))) ob4 (an1 (idA (((jE x1 r6)==true)=true))) (an1 (idA (((jE x1 r6)==true)=true))) (ac6 (aaM (cpC fun hc=>(yZ _ _ _ (hr7 hc))) (an2 (idA (((jE x1 r6)==true)=true)) (idA (((jE x1 r6)==true)=true)))) (bqA (jE x1 r6) true) (an1 (idA ((((jE x1 r6)&&r7)==true)=true))) (an1 (idA ((((jE x1 r6)&&r7)==true)=true))) (aaM (cpC fun hc=>(yZ _ _ _ (hr8 hc))) (an2 (idA ((((jE x1 r6)&&r7)==true)=true)) (idA ((((jE x1 r6)&&r7)==true)=true)))) (bqA ((jE x1 r6)&&r7) true) (an1 trivial))) ?_;refine tN ?_;obtain rfl:=aaD h;refine aaG ?_;exact bD
def f205 (x1:List Ty1) (x2:aaA):Option Ty1:=joinP x1 x2
theorem f205_ok (x1:List Ty1) (x2 r:aaA) (h:f205 x1 x2=some r):aE Tryz.prog 205 [] [] [] [vL 1 eS [] x1,.str x2] (.str r) []:=
 join_spec (fun a c sep w=>Any.strings_Join_none Tryz.lays156 Tryz.Builder_Extra_156 a c sep w) (fun bk o c xs sep w h1 h2 h3 h4 h5=>Any.strings_Join Tryz.lays156 Tryz.Builder_Extra_156 bk o c xs sep w h1 h2 h3 h4 h5) x1 x2 r h
def kQ (x2 x3 x4:aaA) (K1:(List Ty1)->Option (aaA×Int)):Nat->(Nat×List Ty1)->Option (aaA×Int)
 |0,_=>none
 |k+1,(n6,l7)=>
  if(decide ((n6:Int)<(3:Int)))then(
  jn (fun(l8:List Ty1)=>
  chk (((n6:Int)+(1:Int))<=9223372036854775807)<|
  (kQ x2 x3 x4 K1 k) ((n6+1),l8)
  ) fun(K2:(List Ty1)->Option (aaA×Int))=>
  chk ((n6:Int)<((([x2,x3,x4]).length:Nat):Int))<|
  chk (n6<([x2,x3,x4]).length)<|
  if(!(([x2,x3,x4].getD n6 [])==[]))then(
  chk (((l7).length+1) *16<=140737488355328)<|
  K2 (l7++[([x2,x3,x4].getD n6 [])])
  )else(
  K2 l7
  )
  )else(
  K1 l7
  )
abbrev aAO (n6:Nat):List (Nat×V):=[(6,.own 18),(25,.own 25),(26,.i (3:Int)),(27,.i (n6:Int))]
abbrev f184z1 :List (Nat×V):=[(6,.own 18),(25,.own 25),(26,.i (3:Int)),(27,.i (0:Int))]
def f184 (x1:Int) (x2 x3 x4:aaA):Option (aaA×Int):=
 (f185 x1 x2 x3 x4).bind fun r5=>
 if(!r5.2.2.2.2)then(
 some ([],(1:Int))
 )else(
 jn (fun(l9:List Ty1)=>
 (f205 l9 ([32]:aaA)).bind fun r10=>
 some (r10,(0:Int))
 ) fun(K1:(List Ty1)->Option (aaA×Int))=>
 kQ x2 x3 x4 K1 bB (0,[r5.1])
 )
theorem f184_ok (x1:Int) (x2 x3 x4:aaA) (r:aaA×Int) (h:f184 x1 x2 x3 x4=some r):aE Tryz.prog 184 [] [] [] [.agg [.i x1,.str x2,.str x3,.str x4]] (.tup [.str r.1,.i r.2]) []:=by
 unfold f184 at h;refine aE.body 0 _ _ Tryz.func184 rfl Tryz.ntmps184 rfl rfl ?_;refine aN [] [] [1] [1] trivial ?_;refine aaE ?_;obtain⟨r5,hr5,h⟩:=bind_ok h;refine bG [] [(1,⟨[.agg [.i x1,.str x2,.str x3,.str x4]],[],[],[],.tup [.agg [.str r5.1,.bool r5.2.1,.bool r5.2.2.1,.bool r5.2.2.2.1],.bool r5.2.2.2.2],[],[],[]⟩)] [1,4,5] [1,4] (an2 (cpT (f185_ok _ _ _ _ _ hr5)) trivial) ?_;refine tN (aaE (aN [] [] [1,4,15] [1,4] trivial ?_));refine cK (!r5.2.2.2.2) (fun hc1=> ?_) fun hc1=> ?_
 ·replace h:=aF hc1 h;refine bJ [] [] ⟨40,[(2,.str []),(3,.i (1:Int))],[],[],0⟩ trivial ?_;obtain rfl:=aaD h;refine aaG (tR ?_);exact bK
 ·replace h:=aG hc1 h;refine aaF (tN (bJ [] [] ⟨40,[(1,.ptr 1 0),(6,.own 18)],[(1,.cells 164 [.i x1,.str x2,.str x3,.str x4]),(18,.rows 9 1 1 (dN 1 [.str r5.1]))],[],0⟩ trivial ?_));refine aaX (acZ (s':=⟨40,[(1,.ptr 1 0),(6,.own 18)],[(1,.cells 164 [.i x1,.str x2,.str x3,.str x4]),(18,aK [r5.1])],[],0⟩) rfl rfl ⟨.refl _,.refl _,trivial⟩ ⟨⟨_,rfl,.refl _⟩,⟨_,rfl,(acK (acV (enc:=eS) [r5.1] rfl rfl (fun _=>rfl)))⟩,trivial⟩) ?_;obtain⟨K1,hK1,h⟩:=aO h;refine aaU (α:=List Ty1) (fun(l9:List Ty1)=>⟨40,[(6,.own 18)],[(18,aK l9)],[],0⟩) (fun x=>K1 x=some r) ?_ ?_
  ·refine bJ [] [] ⟨40,(f184z1),[(18,aK [r5.1]),(25,.rows 9 1 3 (dN 1 [.str x2,.str x3,.str x4]))],[],0⟩ trivial ?_;refine aaX (acZ (s':=⟨40,(f184z1),[(18,aK [r5.1]),(25,aK [x2,x3,x4])],[],0⟩) rfl rfl ⟨.refl _,.refl _,.refl _,.refl _,trivial⟩ ⟨⟨_,rfl,.refl _⟩,⟨_,rfl,(acK (acV (enc:=eS) [x2,x3,x4] rfl rfl (fun _=>rfl)))⟩,trivial⟩) ?_;refine aaJ (abI (α:=Nat×(Nat×List Ty1)) (fun x=>match x with|(_,n6,l7)=>⟨40,(aAO n6),[(18,aK l7),(25,aK [x2,x3,x4])],[],0⟩) (fun x=>kQ x2 x3 x4 K1 x.1 x.2=some r) (fun x=>x.1) (bB,0,[r5.1]) LR h ?_)
   rintro⟨k0,n6,l7⟩ h
   cases k0 with
   |zero=>exact nEx h
   |succ k0=>
   obtain⟨C0,hC0⟩:∃C,C=kQ x2 x3 x4 K1 k0:=⟨_,rfl⟩;replace h:=(kQ.eq_2 ..).symm.trans h
   try rw[<-hC0]at h
   refine aN [] [] [6,25,26,27,28] [18,25] trivial ?_;refine aaE (cK (decide ((n6:Int)<(3:Int))) (fun hc2=> ?_) fun hc2=> ?_)
   ·replace h:=aF hc2 h;refine aaF (tN ?_);obtain⟨K2,hK2,h⟩:=aO h;refine aaU (α:=List Ty1) (fun(l8:List Ty1)=>⟨40,(aAO n6),[(18,aK l8),(25,aK [x2,x3,x4])],[],0⟩) (fun x=>K2 x=some r) ?_ ?_
    ·refine aaJ (aaE ?_);obtain⟨ob0p,h⟩:=aB h;obtain⟨ob1,h⟩:=aB h;refine bG [] [] [6,8,25,26,27] [18,25] (an2 (iN ob0p) ob1) ?_;refine tN (bJ [] [] ⟨40,[(6,.own 18),(8,.str ([x2,x3,x4].getD n6 [])),(25,.own 25),(26,.i (3:Int)),(27,.i (n6:Int)),(32,.bool (!(([x2,x3,x4].getD n6 [])==[])))],[(18,aK l7),(25,aK [x2,x3,x4])],[],0⟩ trivial ?_);refine cK (!(([x2,x3,x4].getD n6 [])==[])) (fun hc3=> ?_) fun hc3=> ?_
     ·replace h:=aF hc3 h;obtain⟨ob2,h⟩:=aB h;refine bH [] [] ⟨40,(aAO n6),[(18,.rows 9 1 ((l7).length+1) (gK (l7).length (cE eS [] l7) (dN 1 [.str ([x2,x3,x4].getD n6 [])]))),(25,aK [x2,x3,x4])],[],0⟩ (an1 ob2) ?_;refine kN ?_;exact jN ((l7++[([x2,x3,x4].getD n6 [])])) (aaL (acZ (s':=⟨40,(aAO n6),[(18,aK (l7++[([x2,x3,x4].getD n6 [])])),(25,aK [x2,x3,x4])],[],0⟩) rfl rfl ⟨.refl _,.refl _,.refl _,.refl _,trivial⟩ ⟨⟨_,rfl,(acK (adQ (acX _) (acV (enc:=eS) [([x2,x3,x4].getD n6 [])] rfl rfl (fun _=>rfl))))⟩,⟨_,rfl,.refl _⟩,trivial⟩) LR) h
     ·replace h:=aG hc3 h;refine aaF (kN ?_);exact jN (l7) LR h
    ·rintro l8 h;replace h:=(congrFun hK2 _).symm.trans h;obtain⟨ob3p,h⟩:=aB h;refine bG [] [] [6,25,26,27] [18,25] (an1 (iP ob3p)) ?_;rw[hC0]at h;exact lN (_,(n6+1),l8) LR h (aaK _)
   ·replace h:=aG hc2 h;refine abK (tE (tE (kS ?_)));exact jN (l7) LR h
  ·rintro l9 h;replace h:=(congrFun hK1 _).symm.trans h;refine aaE ?_;obtain⟨r10,hr10,h⟩:=bind_ok h;refine bG [] [(1,⟨[eC l9,.str ([32]:aaA)],[],[],[],.str r10,[],[18],[]⟩)] [2,3] [] (an1 (cpL (c:=true) [(18,aK l9)] [18] [.own 18,.str ([32]:aaA)] (fun _=>(f205_ok _ _ _ hr10)) (fun _=>⟨.refl _,.refl _,trivial⟩) (.inr ⟨rfl,trivial⟩))) ?_;refine tN ?_;obtain rfl:=aaD h;refine aaG ?_;exact bK
def fW (x1:aaA) (K1:Unit->Option Tq9):Nat->(List Ty1×List Nat)->Option Tq9
 |0,_=>none
 |k+1,(l4,l5)=>
  aBv bY.length l5 (fun(j6:Nat)=>
  chk ((0:Int)<(((l4).length:Nat):Int))<|
  if(!(((bS.getD j6 (default:Tq8)).1)==(l4.getD 0 [])))then(
  (fW x1 K1 k) (l4,(l5++[j6]))
  )else(
  chk ((1:Int)<=(((l4).length:Nat):Int))<|
  (f183 ((bS.getD j6 (default:Tq8)).2.1) (l4.drop 1)).bind fun r7=>
  (f183 ((bS.getD j6 (default:Tq8)).2.2.1) r7.2).bind fun r8=>
  (f183 ((bS.getD j6 (default:Tq8)).2.2.2) r8.2).bind fun r9=>
  (f184 (bY.getD j6 0) r7.1 r8.1 r9.1).bind fun r10=>
  if((r10.2==(0:Int))&&(r10.1==x1))then(
  some ((bY.getD j6 0),r7.1,r8.1,r9.1,(0:Int))
  )else(
  (fW x1 K1 k) (l4,(l5++[j6]))
  )
  )
  ) (
  K1 ()
  )
abbrev lO :List V:=[.i (0:Int),.str [],.str [],.str []]
def f152 (x1:aaA):Option Tq9:=
 (f181 x1 ([32]:aaA)).bind fun r2=>
 jn (fun(_:Unit)=>
 some ((0:Int),[],[],[],(2:Int))
 ) fun(K1:Unit->Option Tq9)=>
 (f182).bind fun r3=>
 fW x1 K1 bB (r2,[])
theorem f152_ok (x1:aaA) (r:Tq9) (h:f152 x1=some r):aE Tryz.prog 152 [] [] [] [.str x1] (.tup [.agg [.i r.1,.str r.2.1,.str r.2.2.1,.str r.2.2.2.1],.i r.2.2.2.2]) []:=by
 unfold f152 at h;refine aE.bodyD [2] 0 _ _ Tryz.func152 rfl Tryz.ntmps152 rfl rfl ?_;refine aN [] [] [0,2] [2] trivial ?_;refine aaE ?_;obtain⟨r2,hr2,h⟩:=bind_ok h;refine bH [] [(1,⟨[.str x1,.str ([32]:aaA)],[],[],[(6001,aK r2)],.own 6001,[6001],[],[]⟩)] ⟨61,[(0,.str x1),(2,.ptr 2 0),(4,.own 6001)],[(2,.cells 164 (lO)),(6001,aK r2)],[],0⟩ (an1 (cpT (aE.ren (aT 3000 6001) (aD 3000 6001) rfl (f181_ok _ _ _ hr2)))) ?_;refine tN ?_;obtain⟨K1,hK1,h⟩:=aO h;refine aaU (fun(x:Unit)=>match x with|()=>⟨61,[(2,.ptr 2 0)],[(2,.cells 164 (lO))],[],0⟩) (fun x=>K1 x=some r) ?_ ?_
 ·refine aaE ?_;obtain⟨r3,hr3,h⟩:=bind_ok h;refine bH [] [(0,⟨[],[],[],[],vM (V.int .i64) 0 iE aW bY bS,[],[],[]⟩),(1,⟨[vM (V.int .i64) 0 iE aW bY bS],[],[],[(15,iM (V.int .i64) 0 iE aW bY bS [])],.own 15,[15],[],[]⟩)] ⟨61,[(0,.str x1),(2,.ptr 2 0),(4,.own 6001),(15,.own 15)],[(2,.cells 164 (lO)),(15,iM (V.int .i64) 0 iE aW bY bS []),(6001,aK r2)],[],0⟩ (an2 (cpT (f182_ok _ hr3)) (aaM (yA (P:=Tryz.prog) Tryz.underlying261 (.tmp 14) 0 15 (V.int .i64) 0 iE aW bY bS) (eF.same [vM (V.int .i64) 0 iE aW bY bS]))) ?_;refine tN (aaJ (abI (α:=Nat×(List Ty1×List Nat)) (fun x=>match x with|(_,l4,l5)=>⟨61,[(0,.str x1),(2,.ptr 2 0),(4,eC l4),(15,.own 15)],[(2,.cells 164 (lO)),(15,iM (V.int .i64) 0 iE aW bY bS l5)],[],0⟩) (fun x=>fW x1 K1 x.1 x.2=some r) (fun x=>x.1) (bB,r2,[]) (aaL (aaL (aeU 6001 rfl rfl) (LR (s':=⟨61,[(0,.str x1),(2,.ptr 2 0),(4,eC r2),(15,.own 15)],[(2,.cells 164 (lO)),(15,iM (V.int .i64) 0 iE aW bY bS [])],[],0⟩))) LR) h ?_))
  rintro⟨k0,l4,l5⟩ h
  cases k0 with
  |zero=>exact nEx h
  |succ k0=>
  obtain⟨C0,hC0⟩:∃C,C=fW x1 K1 k0:=⟨_,rfl⟩;replace h:=(fW.eq_2 ..).symm.trans h
  try rw[<-hC0]at h
  refine aaE (AWp.nextR 15 (V.int .i64) 0 iE aW bY bS l5 rfl rfl rfl rfl rfl (fun j6 hj6 hsj6=> ?_) (fun hall=> ?_))
  ·replace h:=(rE h).1 j6 hj6 hsj6;refine tN (aaE (cK true (fun hc=> ?_) fun hc=> ?_))
   ·clear hc;refine aaF (tN (aaJ (aN [] [(0,⟨[.own 15],[15],[15],[(15,iM (V.int .i64) 0 iE aW bY bS (l5++[j6]))],.tup [.i (bY.getD j6 0),.agg [.str (bS.getD j6 aW).1,.bool (bS.getD j6 aW).2.1,.bool (bS.getD j6 aW).2.2.1,.bool (bS.getD j6 aW).2.2.2]],[],[],[]⟩)] [0,2,4,5,6,15] [2,6,15] (an2 (aaM (zQ (P:=Tryz.prog) (.tmp 15) 0 15 (V.int .i64) 0 iE aW bY bS l5 j6 hj6) (eF.same [.own 15])) trivial) ?_)));refine aaE (aaE ?_);obtain⟨ob0p,h⟩:=aB h;have ob0:0<=(0:Int)/\(0:Int)<(((l4).length:Nat):Int):=⟨by omega,ob0p⟩;refine bH [] [] ⟨61,[(0,.str x1),(2,.ptr 2 0),(4,eC l4),(5,.i (bY.getD j6 0)),(6,.ptr 6 0),(15,.own 15),(26,.bool (!(((bS.getD j6 aW).1)==(l4.getD 0 []))))],[(2,.cells 164 (lO)),(6,.cells 264 [.str (bS.getD j6 aW).1,.bool (bS.getD j6 aW).2.1,.bool (bS.getD j6 aW).2.2.1,.bool (bS.getD j6 aW).2.2.2]),(15,iM (V.int .i64) 0 iE aW bY bS (l5++[j6]))],[],0⟩ (an1 ob0) ?_;refine tN (cK (!(((bS.getD j6 aW).1)==(l4.getD 0 []))) (fun hc1=> ?_) fun hc1=> ?_)
    ·replace h:=aF hc1 h;refine abK (tE (kS ?_));rw[hC0]at h;exact lN (_,l4,(l5++[j6])) LR h (aaK _)
    ·replace h:=aG hc1 h;refine aaF (tN (aaE ?_));obtain⟨ob1p,h⟩:=aB h;have ob1:0<=(1:Int)/\(1:Int)<=(((l4).length:Nat):Int):=⟨by omega,ob1p⟩;refine bH [] [] ⟨61,[(0,.str x1),(2,.ptr 2 0),(4,eC l4),(6,.ptr 6 0),(7,.ptr 7 0),(8,.ptr 8 0),(15,.own 15)],[(2,.cells 164 (lO)),(6,.cells 264 [.str (bS.getD j6 aW).1,.bool (bS.getD j6 aW).2.1,.bool (bS.getD j6 aW).2.2.1,.bool (bS.getD j6 aW).2.2.2]),(7,.cells 164 [.i (bY.getD j6 0),.str [],.str [],.str []]),(8,.cells 29 [.arr 1 ((l4).length-1) (fun i j=>(cE eS [] l4) (i+1) j)]),(15,iM (V.int .i64) 0 iE aW bY bS (l5++[j6]))],[],0⟩ (an3 ob1 trivial trivial) ?_;refine tN (aaX (acZ (s':=⟨61,[(0,.str x1),(2,.ptr 2 0),(4,eC l4),(6,.ptr 6 0),(7,.ptr 7 0),(8,.ptr 8 0),(15,.own 15)],[(2,.cells 164 (lO)),(6,.cells 264 [.str (bS.getD j6 aW).1,.bool (bS.getD j6 aW).2.1,.bool (bS.getD j6 aW).2.2.1,.bool (bS.getD j6 aW).2.2.2]),(7,.cells 164 [.i (bY.getD j6 0),.str [],.str [],.str []]),(8,.cells 29 [eC (l4.drop 1)]),(15,iM (V.int .i64) 0 iE aW bY bS (l5++[j6]))],[],0⟩) rfl rfl ⟨.refl _,.refl _,.refl _,.refl _,.refl _,.refl _,.refl _,trivial⟩ ⟨⟨_,rfl,.refl _⟩,⟨_,rfl,.refl _⟩,⟨_,rfl,.refl _⟩,⟨_,rfl,(.cellsL ⟨VLe.dropL,trivial⟩)⟩,⟨_,rfl,.refl _⟩,trivial⟩) ?_);refine aN [] [] [0,2,4,6,7,9,15] [2,6,7,8,15] trivial ?_;refine aaE ?_;obtain⟨r7,hr7,h⟩:=bind_ok h;obtain⟨r8,hr8,h⟩:=bind_ok h;obtain⟨r9,hr9,h⟩:=bind_ok h;refine bG [] [(3,⟨[.bool (bS.getD j6 aW).2.1,.ptr 8 0],[8],[8],[(8,.cells 29 [eC r7.2])],.str r7.1,[],[],[]⟩),(7,⟨[.bool (bS.getD j6 aW).2.2.1,.ptr 8 0],[8],[8],[(8,.cells 29 [eC r8.2])],.str r8.1,[],[],[]⟩),(11,⟨[.bool (bS.getD j6 aW).2.2.2,.ptr 8 0],[8],[8],[(8,.cells 29 [eC r9.2])],.str r9.1,[],[],[]⟩)] [0,2,4,7,15] [2,7,15] (an6 (cpT (aE.ren (aT 2000 8) (aD 2000 8) rfl (zF _ _ _ hr7))) (cpT (aE.ren (aT 2000 8) (aD 2000 8) rfl (zF _ _ _ hr8))) (cpT (aE.ren (aT 2000 8) (aD 2000 8) rfl (zF _ _ _ hr9))) trivial trivial trivial) ?_;refine tN (aaE ?_);obtain⟨r10,hr10,h⟩:=bind_ok h;refine bG [] [(1,⟨[.agg [.i (bY.getD j6 0),.str r7.1,.str r8.1,.str r9.1]],[],[],[],.tup [.str r10.1,.i r10.2],[],[],[]⟩)] [0,2,4,7,10,11,15] [2,7,15] (an1 (cpT (f184_ok _ _ _ _ _ hr10))) ?_;refine tN (aaE (bH [] [] ⟨61,[(0,.str x1),(2,.ptr 2 0),(4,eC l4),(7,.ptr 7 0),(15,.own 15),(58,.bool ((r10.2==(0:Int))&&(r10.1==x1)))],[(2,.cells 164 (lO)),(7,.cells 164 [.i (bY.getD j6 0),.str r7.1,.str r8.1,.str r9.1]),(15,iM (V.int .i64) 0 iE aW bY bS (l5++[j6]))],[],0⟩ (an2 (an2 (idA (((r10.2==(0:Int))==true)=true)) (idA (((r10.2==(0:Int))==true)=true))) (bqA (r10.2==(0:Int)) true)) ?_));refine tN (cK ((r10.2==(0:Int))&&(r10.1==x1)) (fun hc2=> ?_) fun hc2=> ?_)
     ·replace h:=aF hc2 h;refine aN [] [] [2,3] [2] (an1 trivial) ?_;obtain rfl:=aaD h;refine aaG (kR (tR (kR (aS ?_))));exact bD
     ·replace h:=aG hc2 h;refine aaF (kN ?_);rw[hC0]at h;exact lN (_,l4,(l5++[j6])) LR h (aaK _)
   ·cases hc
  ·replace h:=(rE h).2 hall;refine tN (aaE (cK false (fun hc=> ?_) fun hc=> ?_))
   ·cases hc
   ·clear hc;refine abK (tE (tE (kS ?_)));exact jN () LR h
 ·rintro⟨⟩ h;replace h:=(congrFun hK1 _).symm.trans h;refine aN [] [] [2,3] [2] (an1 trivial) ?_;obtain rfl:=aaD h;refine aaG ?_;exact bD
def f220 (x1 x2:aaA):Option Int:=some (Lib.compareBytes x1 x2)
theorem f220_ok (x1 x2:aaA) (r:Int) (h:f220 x1 x2=some r):aE Tryz.prog 220 [] [] [] [.str x1,.str x2] (.i r) []:=str2_spec Lib.compareBytes cmpString x1 x2 r h
def f209 (x1 x2:aaA):Option Int:=
 (f220 x1 x2).bind fun r3=>
 some r3
theorem f209_ok (x1 x2:aaA) (r:Int) (h:f209 x1 x2=some r):aE Tryz.prog 209 [] [] [] [.str x1,.str x2] (.i r) []:=by
 unfold f209 at h;refine aE.body 0 _ _ Tryz.func209 rfl Tryz.ntmps209 rfl rfl ?_;refine aN [] [] [0,1] [] trivial ?_;refine aaE ?_;obtain⟨r3,hr3,h⟩:=bind_ok h;refine bH [] [(2,⟨[.str x1,.str x2],[],[],[],.i r3,[],[],[]⟩)] ⟨8,[(4,.i r3)],[],[],0⟩ (an1 (cpT (f220_ok _ _ _ hr3))) ?_;refine tN ?_;obtain rfl:=aaD h;refine aaG ?_;exact bK
def f208 (x1 x2:aaA) (x3:Int) (x4:aaA):Option Int:=
 (f209 x1 x4).bind fun r5=>
 some r5
theorem f208_ok (x1 x2:aaA) (x3:Int) (x4:aaA) (r:Int) (h:f208 x1 x2 x3 x4=some r):aE Tryz.prog 208 [] [] [] [.agg [.str x1,.str x2,.i x3],.str x4] (.i r) []:=by
 unfold f208 at h;refine aE.body 0 _ _ Tryz.func208 rfl Tryz.ntmps208 rfl rfl ?_;refine aN [] [] [1,2] [2] trivial ?_;refine aaE ?_;obtain⟨r5,hr5,h⟩:=bind_ok h;refine bH [] [(3,⟨[.str x1,.str x4],[],[],[],.i r5,[],[],[]⟩)] ⟨9,[(4,.i r5)],[],[],0⟩ (an1 (cpT (f209_ok _ _ _ hr5))) ?_;refine tN ?_;obtain rfl:=aaD h;refine aaG ?_;exact bK
def gS (x1:List Tq2) (x2:aaA) (K1:Int->Option Tq3):Nat->Tq1->Option Tq3
 |0,_=>none
 |k+1,(i3,i4)=>
  if(decide (i3<i4))then(
  chk (-9223372036854775808<=(i3+i4)/\(i3+i4)<=9223372036854775807)<|
  chk (0<=(i3+i4)/\(i3+i4)<=18446744073709551615)<|
  chk (1<=IntKind.bits .u64)<|
  chk (-9223372036854775808<=((i3+i4)/2^1)/\((i3+i4)/2^1)<=9223372036854775807)<|
  (f208 ((x1.getD ((((i3+i4)/2^1)).toNat) (default:Tq2)).1) ((x1.getD ((((i3+i4)/2^1)).toNat) (default:Tq2)).2.1) ((x1.getD ((((i3+i4)/2^1)).toNat) (default:Tq2)).2.2) x2).bind fun r5=>
  chk (0<=((i3+i4)/2^1)/\((i3+i4)/2^1)<(((x1).length:Nat):Int))<|
  if(decide (r5<(0:Int)))then(
  chk (-9223372036854775808<=(((i3+i4)/2^1)+(1:Int))/\(((i3+i4)/2^1)+(1:Int))<=9223372036854775807)<|
  (gS x1 x2 K1 k) ((((i3+i4)/2^1)+(1:Int)),i4)
  )else(
  (gS x1 x2 K1 k) (i3,((i3+i4)/2^1))
  )
  )else(
  K1 i3
  )
def f207 (x1:List Tq2) (x2:aaA):Option Tq3:=
 jn (fun(i6:Int)=>
 gB ((decide (i6<(((x1).length:Nat):Int)))==true) (f208 ((x1.getD ((i6).toNat) (default:Tq2)).1) ((x1.getD ((i6).toNat) (default:Tq2)).2.1) ((x1.getD ((i6).toNat) (default:Tq2)).2.2) x2) fun r7=>
 chk (((decide (i6<(((x1).length:Nat):Int)))==true)=true->0<=i6/\i6<(((x1).length:Nat):Int))<|
 some (i6,((decide (i6<(((x1).length:Nat):Int)))&&(r7==(0:Int))))
 ) fun(K1:Int->Option Tq3)=>
 gS x1 x2 K1 bB ((0:Int),(((x1).length:Nat):Int))
theorem f207_ok (x1:List Tq2) (x2:aaA) (r:Tq3) (h:f207 x1 x2=some r):aE Tryz.prog 207 [] [] [] [vL 3 cH (default:Tq2) x1,.str x2,.fn (.func 208) []] (.tup [.i r.1,.bool r.2]) []:=by
 unfold f207 at h;refine aE.body 0 _ _ Tryz.func207 rfl Tryz.ntmps207 rfl rfl ?_;refine aN [] [] [0,1,2] [] trivial ?_;refine aN [] [] [0,1,2,8] [] trivial ?_;refine bJ [] [] ⟨49,[(0,aY x1),(1,.str x2),(2,.fn (.func 208) []),(8,.i (lZ x1)),(9,.i (0:Int)),(10,.i (lZ x1))],[],[],0⟩ trivial ?_;obtain⟨K1,hK1,h⟩:=aO h;refine aaU (α:=Int) (fun(i6:Int)=>⟨49,[(0,aY x1),(1,.str x2),(2,.fn (.func 208) []),(8,.i (lZ x1)),(9,.i i6)],[],[],0⟩) (fun x=>K1 x=some r) ?_ ?_
 ·refine aaJ (abI (α:=Nat×Tq1) (fun x=>match x with|(_,i3,i4)=>⟨49,[(0,aY x1),(1,.str x2),(2,.fn (.func 208) []),(8,.i (lZ x1)),(9,.i i3),(10,.i i4)],[],[],0⟩) (fun x=>gS x1 x2 K1 x.1 x.2=some r) (fun x=>x.1) (bB,(0:Int),(lZ x1)) LR h ?_)
  rintro⟨k0,i3,i4⟩ h
  cases k0 with
  |zero=>exact nEx h
  |succ k0=>
  obtain⟨C0,hC0⟩:∃C,C=gS x1 x2 K1 k0:=⟨_,rfl⟩;replace h:=(gS.eq_2 ..).symm.trans h
  try rw[<-hC0]at h
  refine aaE (aN [] [] [0,1,2,8,9,10,17] [] trivial ?_);refine cK (decide (i3<i4)) (fun hc1=> ?_) fun hc1=> ?_
  ·replace h:=aF hc1 h;refine aaF (tN (aaJ (aaE ?_)));obtain⟨ob0,ob1,ob2p,h⟩:=ck3 h;have ob2:0<=(1:Int)/\1<=IntKind.bits .u64:=⟨by omega,ob2p⟩;obtain⟨ob3,h⟩:=aB h;refine bG [] [] [0,1,2,8,9,10,11] [] (an4 ob0 ob1 ob2 ob3) ?_;refine tN (aaE ?_);obtain⟨r5,hr5,h⟩:=bind_ok h;obtain⟨ob4,h⟩:=aB h;refine bG [] [(6,⟨[.agg [.str (x1.getD ((((i3+i4)/2^1)).toNat) aR).1,.str (x1.getD ((((i3+i4)/2^1)).toNat) aR).2.1,.i (x1.getD ((((i3+i4)/2^1)).toNat) aR).2.2],.str x2],[],[],[],.i r5,[],[],[]⟩)] [0,1,2,8,9,10,11,31] [] (an2 ob4 (cpT (f208_ok _ _ _ _ _ hr5))) ?_;refine tN (cK (decide (r5<(0:Int))) (fun hc2=> ?_) fun hc2=> ?_)
   ·replace h:=aF hc2 h;obtain⟨ob5,h⟩:=aB h;refine bH [] [] ⟨49,[(0,aY x1),(1,.str x2),(2,.fn (.func 208) []),(8,.i (lZ x1)),(9,.i (((i3+i4)/2^1)+(1:Int))),(10,.i i4)],[],[],0⟩ (an1 ob5) ?_;refine kN ?_;rw[hC0]at h;exact lN (_,(((i3+i4)/2^1)+(1:Int)),i4) LR h (aaK _)
   ·replace h:=aG hc2 h;refine bG [] [] [0,1,2,8,9,10] [] trivial ?_;refine kN ?_;rw[hC0]at h;exact lN (_,i3,((i3+i4)/2^1)) LR h (aaK _)
  ·replace h:=aG hc1 h;refine abK (tE (tE (kS ?_)));exact jN (i3) LR h
 ·rintro i6 h;replace h:=(congrFun hK1 _).symm.trans h;refine aaE ?_;obtain⟨r7,hr7,h⟩:=cF h;obtain⟨ob6,h⟩:=aB h;refine bG [] [(11,⟨[.agg [.str (x1.getD ((i6).toNat) aR).1,.str (x1.getD ((i6).toNat) aR).2.1,.i (x1.getD ((i6).toNat) aR).2.2],.str x2],[],[],[],.i r7,[],[],[]⟩)] [6,7] [] (an5 (aaM ob6 (an2 (idA (((decide (i6<(lZ x1)))==true)=true)) (idA (((decide (i6<(lZ x1)))==true)=true)))) (an1 (idA (((decide (i6<(lZ x1)))==true)=true))) (aaM (cpC fun hc=>(f208_ok _ _ _ _ _ (hr7 hc))) (an3 (idA (((decide (i6<(lZ x1)))==true)=true)) (idA (((decide (i6<(lZ x1)))==true)=true)) (idA (((decide (i6<(lZ x1)))==true)=true)))) (an1 (idA (((decide (i6<(lZ x1)))==true)=true))) (bqA (decide (i6<(lZ x1))) true)) ?_;refine tN ?_;obtain rfl:=aaD h;refine aaG ?_;exact bK
def f186 (x1:List Tq2) (x2:aaA):Option Tq3:=
 (f207 x1 x2).bind fun r3=>
 some (r3.1,r3.2)
theorem f186_ok (x1:List Tq2) (x2:aaA) (r:Tq3) (h:f186 x1 x2=some r):aE Tryz.prog 186 [] [] [] [vL 3 cH (default:Tq2) x1,.str x2] (.tup [.i r.1,.bool r.2]) []:=by
 unfold f186 at h;refine aE.body 0 _ _ Tryz.func186 rfl Tryz.ntmps186 rfl rfl ?_;refine aN [] [] [0,1] [] trivial ?_;refine aaE ?_;obtain⟨r3,hr3,h⟩:=bind_ok h;refine bH [] [(2,⟨[aY x1,.str x2,.fn (.func 208) []],[],[],[],.tup [.i r3.1,.bool r3.2],[],[],[]⟩)] ⟨11,[(4,.i r3.1),(5,.bool r3.2)],[],[],0⟩ (an1 (cpT (f207_ok _ _ _ hr3))) ?_;refine tN ?_;obtain rfl:=aaD h;refine aaG ?_;exact bK
def f189 (x1:List Tq2):Option Ty6:=
 abc ((x1).length=0) (
 some []
 ) (
 chk ((0+(x1).length) *40<=140737488355328)<|
 some ([]++x1)
 )
theorem f189_ok (x1 r:List Tq2) (h:f189 x1=some r):aE Tryz.prog 189 [] [] [] [vL 3 cH (default:Tq2) x1] (.own 3000) [(3000,bL 202 3 cH (default:Tq2) r)]:=by
 unfold f189 at h;refine aE.body 0 _ _ Tryz.func189 rfl Tryz.ntmps189 rfl rfl ?_;refine aN [] [] [0] [] trivial ?_;refine aaE (bJ [] [] ⟨8,[(0,aY x1),(4,.abool (fun b=>b=true->(x1).length=0))],[],[],0⟩ trivial ?_);obtain⟨hA1,hB1⟩:=aBb h;refine AWp.condAb (fun b=>b=true->(x1).length=0) (by kernel_rfl) (fun hc1=> ?_) (fun hc1=> ?_)
 ·have h:=hA1 (hc1 rfl);refine bJ [] [] ⟨8,[(2,.nils)],[],[],0⟩ trivial ?_;refine aaX (aaL (adM 2 3000 202 3 (cE cH aR []) rfl rfl (aaW rfl)) (LR (s':=⟨8,[(2,.own 3000)],[(3000,aV [])],[],0⟩))) ?_;obtain rfl:=aaD h;refine aaX (LR (s':=⟨8,[(2,.own 3000)],[(3000,aV [])],[],0⟩)) ?_;refine aaG (tR ?_);exact bK
 ·have h:=hB1;refine aaF (tN (aaE ?_));obtain⟨ob0,h⟩:=aB h;refine bH [] [] ⟨8,[(2,.own 5)],[(5,.rows 202 3 (0+(x1).length) (gK 0 (dN 3 []) (cE cH aR x1)))],[],0⟩ (an1 ob0) ?_;refine tN (aaX (acZ (s':=⟨8,[(2,.own 5)],[(5,aV ([]++x1))],[],0⟩) rfl rfl ⟨.refl _,trivial⟩ ⟨⟨_,rfl,(acK (adQ (acV (enc:=cH) [] rfl rfl (fun _=>rfl)) (acX _)))⟩,trivial⟩) ?_);refine aaX (aaL (acQ (aT 5 3000) (aD 5 3000) rfl) (LR (s':=⟨8,[(2,.own 3000)],[(3000,aV ([]++x1))],[],0⟩))) ?_;obtain rfl:=aaD h;refine aaX (LR (s':=⟨8,[(2,.own 3000)],[(3000,aV ([]++x1))],[],0⟩)) ?_;refine aaG ?_;exact bK
abbrev f210z0 (x2 x3:List Tq2):aJ:=[(2000,bL 202 3 cH (default:Tq2) x2),(2001,bL 202 3 cH (default:Tq2) x3)]
def f210e (x1:Int) (x2 x3:List Tq2):Option (Ty6×Ty6):=
 chk (0<=x1/\x1<=(((x2).length:Nat):Int))<|
 if((((x3).length:Nat):Int)==(0:Int))then(
 some (x2,x3)
 )else(
 if(x1==(((x2).length:Nat):Int))then(
 chk (((x2).length+(x3).length) *40<=140737488355328)<|
 some ((x2++x3),x3)
 )else(

 none
 )
 )
theorem f210e_ok (x1:Int) (x2 x3:List Tq2) (r:Ty6×Ty6) (h:f210e x1 x2 x3=some r):aE Tryz.prog 210 [] [2001] [(2000,bL 202 3 cH (default:Tq2) x2),(2001,bL 202 3 cH (default:Tq2) x3)] [.own 2000,.i x1,.own 2001] (.own 2000) [(2000,bL 202 3 cH (default:Tq2) r.1),(2001,bL 202 3 cH (default:Tq2) r.2)]:=by
 unfold f210e at h;refine aE.body 0 _ _ Tryz.func210 rfl Tryz.ntmps210 rfl rfl ?_;refine aN [] [] [0,1,2] [2000,2001] trivial ?_;refine aaE ?_;obtain⟨ob0,h⟩:=aB h;refine bG [] [] [0,1,2] [2000,2001] (an1 ob0) ?_;refine tN (aN [] [] [0,1,2,7] [2000,2001] trivial ?_);refine aaE (aN [] [] [0,1,2,7,16] [2000,2001] trivial ?_);refine cK ((lZ x3)==(0:Int)) (fun hc1=> ?_) fun hc1=> ?_
 ·replace h:=aF hc1 h;refine bJ [] [] ⟨95,[(6,.own 2000)],(f210z0 x2 x3),[2001],0⟩ trivial ?_;obtain rfl:=aaD h;refine aaG (tR ?_);exact bK
 ·replace h:=aG hc1 h;refine aaF (tN (aN [] [] [0,1,2,7,8] [2000,2001] trivial ?_));refine aaE (bJ [] [] ⟨95,[(0,.own 2000),(1,.i x1),(2,.own 2001),(7,.i (lZ x3)),(8,.i (lZ x2)),(22,.bool (x1==(lZ x2)))],(f210z0 x2 x3),[2001],0⟩ trivial ?_);refine cK (x1==(lZ x2)) (fun hc2=> ?_) fun hc2=> ?_
  ·replace h:=aF hc2 h;refine aaE ?_;obtain⟨ob1,h⟩:=aB h;refine bH [] [] ⟨95,[(6,.own 2000)],[(2000,.rows 202 3 ((x2).length+(x3).length) (gK (x2).length (cE cH aR x2) (cE cH aR x3))),(2001,aV x3)],[2001],0⟩ (an1 ob1) ?_;refine tN (aaX (acZ (s':=⟨95,[(6,.own 2000)],[(2000,aV (x2++x3)),(2001,aV x3)],[2001],0⟩) rfl rfl ⟨.refl _,trivial⟩ ⟨⟨_,rfl,(acK (adQ (acX _) (acX _)))⟩,⟨_,rfl,.refl _⟩,trivial⟩) ?_);obtain rfl:=aaD h;refine aaX (LR (s':=⟨95,[(6,.own 2000)],[(2000,aV (x2++x3)),(2001,aV x3)],[2001],0⟩)) ?_;refine aaG (tR ?_);exact bK
  ·replace h:=aG hc2 h;refine aaF (tN (aaE (aaE ?_)));exact nEx h
def f210 (x2:Int) (x1 x3:List Tq2):Option (List (aaA×aaA×Int)×List (aaA×aaA×Int)):=
 if 0<=x2/\x2.toNat<x1.length/\0<x3.length/\(x1.length+x3.length) *40<=140737488355328 then some (x1.take x2.toNat++x3++x1.drop x2.toNat,x3)else f210e x2 x1 x3
theorem f210_ok (x2:Int) (x1 x3:List Tq2) (r:List Tq2×List Tq2) (h:f210 x2 x1 x3=some r):aE Tryz.prog 210 [] [2001] [(2000,bL 202 3 cH (default:Tq2) x1),(2001,bL 202 3 cH (default:Tq2) x3)] [.own 2000,.i x2,.own 2001] (.own 2000) [(2000,bL 202 3 cH (default:Tq2) r.1),(2001,bL 202 3 cH (default:Tq2) r.2)]:=by
 unfold f210 at h;split at h
 ·rename_i hc;cases h;have:=vD 3 (by decide) 202 40 cH aR insShift insGrow x1 x3 x2.toNat hc.2.1 hc.2.2.1 hc.2.2.2;rw[aeH hc.1]at this;exact this
 ·exact f210e_ok x2 x1 x3 r h
abbrev f187z0 (x3:aaA) (r4:Tq3):List (Nat×V):=[(0,.own 6001),(2,.str x3),(8,.i r4.1),(1000001,pT)]
abbrev aAN (r4:Tq3):List (Nat×V):=[(0,.own 6001),(8,.i r4.1),(1000001,pT)]
abbrev f187z2 (r5:List Tq2):aJ:=[(6001,bL 202 3 cH (default:Tq2) r5)]
abbrev pW :=(1000000000000:Int)
def aB2 (x1:List Tq2) (x2 x3:aaA):Option (Ty6×aaA):=
 (f186 x1 x2).bind fun r4=>
 if((!r4.2)&&(decide ((((x1).length:Nat):Int)>=(64:Int))))then(
 some (x1,([102,117,108,108]:aaA))
 )else(
 (f189 x1).bind fun r5=>
 jn (fun(l7:List Tq2)=>
 chk (0<=r4.1/\r4.1<(((l7).length:Nat):Int))<|
 chk (((r4.1).toNat)<(l7).length)<|
 chk (0<=r4.1/\r4.1<((((l7.set ((r4.1).toNat) ((l7.getD ((r4.1).toNat) (default:Tq2)).1,x3,(l7.getD ((r4.1).toNat) (default:Tq2)).2.2))).length:Nat):Int))<|
 chk (((r4.1).toNat)<((l7.set ((r4.1).toNat) ((l7.getD ((r4.1).toNat) (default:Tq2)).1,x3,(l7.getD ((r4.1).toNat) (default:Tq2)).2.2))).length)<|
 chk (-9223372036854775808<=(((l7.set ((r4.1).toNat) ((l7.getD ((r4.1).toNat) (default:Tq2)).1,x3,(l7.getD ((r4.1).toNat) (default:Tq2)).2.2)).getD ((r4.1).toNat) (default:Tq2)).2.2+(1:Int))/\(((l7.set ((r4.1).toNat) ((l7.getD ((r4.1).toNat) (default:Tq2)).1,x3,(l7.getD ((r4.1).toNat) (default:Tq2)).2.2)).getD ((r4.1).toNat) (default:Tq2)).2.2+(1:Int))<=9223372036854775807)<|
 chk (0<=r4.1/\r4.1<((((l7.set ((r4.1).toNat) ((l7.getD ((r4.1).toNat) (default:Tq2)).1,x3,(l7.getD ((r4.1).toNat) (default:Tq2)).2.2))).length:Nat):Int))<|
 chk (((r4.1).toNat)<((l7.set ((r4.1).toNat) ((l7.getD ((r4.1).toNat) (default:Tq2)).1,x3,(l7.getD ((r4.1).toNat) (default:Tq2)).2.2))).length)<|
 (f58 ((((l7.set ((r4.1).toNat) ((l7.getD ((r4.1).toNat) (default:Tq2)).1,x3,(l7.getD ((r4.1).toNat) (default:Tq2)).2.2)).set ((r4.1).toNat) (((l7.set ((r4.1).toNat) ((l7.getD ((r4.1).toNat) (default:Tq2)).1,x3,(l7.getD ((r4.1).toNat) (default:Tq2)).2.2)).getD ((r4.1).toNat) (default:Tq2)).1,((l7.set ((r4.1).toNat) ((l7.getD ((r4.1).toNat) (default:Tq2)).1,x3,(l7.getD ((r4.1).toNat) (default:Tq2)).2.2)).getD ((r4.1).toNat) (default:Tq2)).2.1,(min (((l7.set ((r4.1).toNat) ((l7.getD ((r4.1).toNat) (default:Tq2)).1,x3,(l7.getD ((r4.1).toNat) (default:Tq2)).2.2)).getD ((r4.1).toNat) (default:Tq2)).2.2+(1:Int)) (1000000000000:Int)))).getD ((r4.1).toNat) (default:Tq2)).2.2)).bind fun r8=>
 chk (0<=r4.1/\r4.1<(((((l7.set ((r4.1).toNat) ((l7.getD ((r4.1).toNat) (default:Tq2)).1,x3,(l7.getD ((r4.1).toNat) (default:Tq2)).2.2)).set ((r4.1).toNat) (((l7.set ((r4.1).toNat) ((l7.getD ((r4.1).toNat) (default:Tq2)).1,x3,(l7.getD ((r4.1).toNat) (default:Tq2)).2.2)).getD ((r4.1).toNat) (default:Tq2)).1,((l7.set ((r4.1).toNat) ((l7.getD ((r4.1).toNat) (default:Tq2)).1,x3,(l7.getD ((r4.1).toNat) (default:Tq2)).2.2)).getD ((r4.1).toNat) (default:Tq2)).2.1,(min (((l7.set ((r4.1).toNat) ((l7.getD ((r4.1).toNat) (default:Tq2)).1,x3,(l7.getD ((r4.1).toNat) (default:Tq2)).2.2)).getD ((r4.1).toNat) (default:Tq2)).2.2+(1:Int)) (1000000000000:Int))))).length:Nat):Int))<|
 chk (((r4.1).toNat)<(((l7.set ((r4.1).toNat) ((l7.getD ((r4.1).toNat) (default:Tq2)).1,x3,(l7.getD ((r4.1).toNat) (default:Tq2)).2.2)).set ((r4.1).toNat) (((l7.set ((r4.1).toNat) ((l7.getD ((r4.1).toNat) (default:Tq2)).1,x3,(l7.getD ((r4.1).toNat) (default:Tq2)).2.2)).getD ((r4.1).toNat) (default:Tq2)).1,((l7.set ((r4.1).toNat) ((l7.getD ((r4.1).toNat) (default:Tq2)).1,x3,(l7.getD ((r4.1).toNat) (default:Tq2)).2.2)).getD ((r4.1).toNat) (default:Tq2)).2.1,(min (((l7.set ((r4.1).toNat) ((l7.getD ((r4.1).toNat) (default:Tq2)).1,x3,(l7.getD ((r4.1).toNat) (default:Tq2)).2.2)).getD ((r4.1).toNat) (default:Tq2)).2.2+(1:Int)) (1000000000000:Int))))).length)<|
 chk (([111,107,32]:aaA).length+r8.length<=9223372036854775807)<|
 some (((l7.set ((r4.1).toNat) ((l7.getD ((r4.1).toNat) (default:Tq2)).1,x3,(l7.getD ((r4.1).toNat) (default:Tq2)).2.2)).set ((r4.1).toNat) (((l7.set ((r4.1).toNat) ((l7.getD ((r4.1).toNat) (default:Tq2)).1,x3,(l7.getD ((r4.1).toNat) (default:Tq2)).2.2)).getD ((r4.1).toNat) (default:Tq2)).1,((l7.set ((r4.1).toNat) ((l7.getD ((r4.1).toNat) (default:Tq2)).1,x3,(l7.getD ((r4.1).toNat) (default:Tq2)).2.2)).getD ((r4.1).toNat) (default:Tq2)).2.1,(min (((l7.set ((r4.1).toNat) ((l7.getD ((r4.1).toNat) (default:Tq2)).1,x3,(l7.getD ((r4.1).toNat) (default:Tq2)).2.2)).getD ((r4.1).toNat) (default:Tq2)).2.2+(1:Int)) (1000000000000:Int)))),(([111,107,32]:aaA)++r8))
 ) fun(K1:Ty6->Option (Ty6×aaA))=>
 if(!r4.2)then(
 (f210 r4.1 r5 ([(x2,[],(0:Int))])).bind fun r6=>
 K1 r6.1
 )else(
 K1 r5
 )
 )
theorem tD (x1:List Tq2) (x2 x3:aaA) (r:Ty6×aaA) (h:aB2 x1 x2 x3=some r):aE Tryz.prog 187 [(1,pT)] [] [] [vL 3 cH (default:Tq2) x1,.str x2,.str x3] (.tup [vL 3 cH (default:Tq2) r.1,.str r.2]) []:=by
 unfold aB2 at h;refine aE.body 0 _ _ Tryz.func187 rfl Tryz.ntmps187 rfl rfl ?_;refine aN [] [] [0,1,2,1000001] [] trivial ?_;refine aaE ?_;obtain⟨r4,hr4,h⟩:=bind_ok h;refine bG [] [(2,⟨[aY x1,.str x2],[],[],[],.tup [.i r4.1,.bool r4.2],[],[],[]⟩)] [0,1,2,8,9,1000001] [] (an1 (cpT (f186_ok _ _ _ hr4))) ?_;refine tN (aaE (aaE (bG [] [] [0,1,2,8,9,22,1000001] [] (an3 (an1 (idA (((!r4.2)==true)=true))) (an1 (idA (((!r4.2)==true)=true))) (bqA (!r4.2) true)) ?_)));refine tN (cK ((!r4.2)&&(decide ((lZ x1)>=(64:Int)))) (fun hc1=> ?_) fun hc1=> ?_)
 ·replace h:=aF hc1 h;refine bJ [] [] ⟨58,[(6,aY x1),(7,.str ([102,117,108,108]:aaA))],[],[],0⟩ trivial ?_;obtain rfl:=aaD h;refine aaG (tR ?_);exact bK
 ·replace h:=aG hc1 h;refine aaF (tN (aaE ?_));obtain⟨r5,hr5,h⟩:=bind_ok h;refine bG [] [(1,⟨[aY x1],[],[],(f187z2 r5),.own 6001,[6001],[],[]⟩)] [0,1,2,8,9,1000001] [6001] (an1 (cpT (aE.ren (aT 3000 6001) (aD 3000 6001) rfl (f189_ok _ _ hr5)))) ?_;refine tN ?_;obtain⟨K1,hK1,h⟩:=aO h;refine aaU (α:=List Tq2) (fun(l7:List Tq2)=>⟨58,(f187z0 x3 r4),[(6001,aV l7)],[],0⟩) (fun x=>K1 x=some r) ?_ ?_
  ·refine bJ [] [] ⟨58,[(0,.own 6001),(1,.str x2),(2,.str x3),(8,.i r4.1),(27,.bool (!r4.2)),(1000001,pT)],(f187z2 r5),[],0⟩ trivial ?_;refine cK (!r4.2) (fun hc2=> ?_) fun hc2=> ?_
   ·replace h:=aF hc2 h;obtain⟨r6,hr6,h⟩:=bind_ok h;refine bG [] [(5,⟨[.own 6001,.i r4.1,.own 32],[6001,32],[32],[(6001,aV r6.1),(32,aV r6.2)],.own 6001,[6001],[],[]⟩)] [0,2,8,1000001] [6001] (an1 (cpT (Spec.heap (h0:=[(6001,aV r5),(32,.rows 202 3 1 (dN 3 [.str x2,.str [],.i (0:Int)]))]) (aE.ren (aT 2001 32) (aD 2001 32) rfl (aE.ren (aT 2000 6001) (aD 2000 6001) rfl (f210_ok _ _ _ _ hr6))) ⟨⟨_,rfl,.refl _⟩,⟨_,rfl,(acK (acV (enc:=cH) [(x2,[],(0:Int))] rfl rfl (fun _=>rfl)))⟩,trivial⟩))) ?_;exact jN (r6.1) LR h
   ·replace h:=aG hc2 h;refine aaF ?_;exact jN (r5) LR h
  ·rintro l7 h;replace h:=(congrFun hK1 _).symm.trans h;refine aaE ?_;obtain⟨ob3,ob4,h⟩:=ck2 h;refine bH [] [] ⟨58,(aAN r4),[(6001,.rows 202 3 (l7).length (aB1 (cE cH aR l7) ((r4.1).toNat) 1 [.str x3]))],[],0⟩ (an2 ob3 ob4) ?_;refine tN ?_;refine aaX (acZ (s':=⟨58,(aAN r4),[(6001,aV (l7.set ((r4.1).toNat) ((l7.getD ((r4.1).toNat) aR).1,x3,(l7.getD ((r4.1).toNat) aR).2.2)))],[],0⟩) rfl rfl ⟨.refl _,.refl _,.refl _,trivial⟩ ⟨⟨_,rfl,(acK (RL.set ((l7.getD ((r4.1).toNat) aR).1,x3,(l7.getD ((r4.1).toNat) aR).2.2) (acX _) (by intro j hj;match j,hj with|0,_=>rfl|1,_=>rfl|2,_=>rfl)))⟩,trivial⟩) ?_;refine aaE ?_;obtain⟨ob5,ob6,ob7,ob8,ob9,h⟩:=ck5 h;refine bH [] [] ⟨58,(aAN r4),[(6001,.rows 202 3 ((l7.set ((r4.1).toNat) ((l7.getD ((r4.1).toNat) aR).1,x3,(l7.getD ((r4.1).toNat) aR).2.2))).length (aB1 (cE cH aR (l7.set ((r4.1).toNat) ((l7.getD ((r4.1).toNat) aR).1,x3,(l7.getD ((r4.1).toNat) aR).2.2))) ((r4.1).toNat) 2 [.i (min (((l7.set ((r4.1).toNat) ((l7.getD ((r4.1).toNat) aR).1,x3,(l7.getD ((r4.1).toNat) aR).2.2)).getD ((r4.1).toNat) aR).2.2+(1:Int)) (pW))]))],[],0⟩ (an5 ob5 ob6 ob7 ob8 ob9) ?_;refine tN ?_;refine aaX (acZ (s':=⟨58,(aAN r4),[(6001,aV ((l7.set ((r4.1).toNat) ((l7.getD ((r4.1).toNat) aR).1,x3,(l7.getD ((r4.1).toNat) aR).2.2)).set ((r4.1).toNat) (((l7.set ((r4.1).toNat) ((l7.getD ((r4.1).toNat) aR).1,x3,(l7.getD ((r4.1).toNat) aR).2.2)).getD ((r4.1).toNat) aR).1,((l7.set ((r4.1).toNat) ((l7.getD ((r4.1).toNat) aR).1,x3,(l7.getD ((r4.1).toNat) aR).2.2)).getD ((r4.1).toNat) aR).2.1,(min (((l7.set ((r4.1).toNat) ((l7.getD ((r4.1).toNat) aR).1,x3,(l7.getD ((r4.1).toNat) aR).2.2)).getD ((r4.1).toNat) aR).2.2+(1:Int)) (pW)))))],[],0⟩) rfl rfl ⟨.refl _,.refl _,.refl _,trivial⟩ ⟨⟨_,rfl,(acK (RL.set (((l7.set ((r4.1).toNat) ((l7.getD ((r4.1).toNat) aR).1,x3,(l7.getD ((r4.1).toNat) aR).2.2)).getD ((r4.1).toNat) aR).1,((l7.set ((r4.1).toNat) ((l7.getD ((r4.1).toNat) aR).1,x3,(l7.getD ((r4.1).toNat) aR).2.2)).getD ((r4.1).toNat) aR).2.1,(min (((l7.set ((r4.1).toNat) ((l7.getD ((r4.1).toNat) aR).1,x3,(l7.getD ((r4.1).toNat) aR).2.2)).getD ((r4.1).toNat) aR).2.2+(1:Int)) (pW))) (acX _) (by intro j hj;match j,hj with|0,_=>rfl|1,_=>rfl|2,_=>rfl)))⟩,trivial⟩) ?_;refine aaE ?_;obtain⟨r8,hr8,h⟩:=bind_ok h;obtain⟨ob10,ob11,ob12,h⟩:=ck3 h;refine bH [] [(6,⟨[.i (((l7.set ((r4.1).toNat) ((l7.getD ((r4.1).toNat) aR).1,x3,(l7.getD ((r4.1).toNat) aR).2.2)).set ((r4.1).toNat) (((l7.set ((r4.1).toNat) ((l7.getD ((r4.1).toNat) aR).1,x3,(l7.getD ((r4.1).toNat) aR).2.2)).getD ((r4.1).toNat) aR).1,((l7.set ((r4.1).toNat) ((l7.getD ((r4.1).toNat) aR).1,x3,(l7.getD ((r4.1).toNat) aR).2.2)).getD ((r4.1).toNat) aR).2.1,(min (((l7.set ((r4.1).toNat) ((l7.getD ((r4.1).toNat) aR).1,x3,(l7.getD ((r4.1).toNat) aR).2.2)).getD ((r4.1).toNat) aR).2.2+(1:Int)) (pW)))).getD ((r4.1).toNat) aR).2.2],[],[],[],.str r8,[],[],[1]⟩)] ⟨58,[(6,.own 6001),(7,.str (([111,107,32]:aaA)++r8)),(1000001,pT)],[(6001,aV ((l7.set ((r4.1).toNat) ((l7.getD ((r4.1).toNat) aR).1,x3,(l7.getD ((r4.1).toNat) aR).2.2)).set ((r4.1).toNat) (((l7.set ((r4.1).toNat) ((l7.getD ((r4.1).toNat) aR).1,x3,(l7.getD ((r4.1).toNat) aR).2.2)).getD ((r4.1).toNat) aR).1,((l7.set ((r4.1).toNat) ((l7.getD ((r4.1).toNat) aR).1,x3,(l7.getD ((r4.1).toNat) aR).2.2)).getD ((r4.1).toNat) aR).2.1,(min (((l7.set ((r4.1).toNat) ((l7.getD ((r4.1).toNat) aR).1,x3,(l7.getD ((r4.1).toNat) aR).2.2)).getD ((r4.1).toNat) aR).2.2+(1:Int)) (pW)))))],[],0⟩ (an4 ob10 ob11 (cpT (rQ _ _ hr8)) ob12) ?_;refine tN (aaX (aaL (aeU 6001 rfl rfl) (LR (s':=⟨58,[(6,aY ((l7.set ((r4.1).toNat) ((l7.getD ((r4.1).toNat) aR).1,x3,(l7.getD ((r4.1).toNat) aR).2.2)).set ((r4.1).toNat) (((l7.set ((r4.1).toNat) ((l7.getD ((r4.1).toNat) aR).1,x3,(l7.getD ((r4.1).toNat) aR).2.2)).getD ((r4.1).toNat) aR).1,((l7.set ((r4.1).toNat) ((l7.getD ((r4.1).toNat) aR).1,x3,(l7.getD ((r4.1).toNat) aR).2.2)).getD ((r4.1).toNat) aR).2.1,(min (((l7.set ((r4.1).toNat) ((l7.getD ((r4.1).toNat) aR).1,x3,(l7.getD ((r4.1).toNat) aR).2.2)).getD ((r4.1).toNat) aR).2.2+(1:Int)) (pW))))),(7,.str (([111,107,32]:aaA)++r8)),(1000001,pT)],[],[],0⟩))) ?_);obtain rfl:=aaD h;refine aaX (LR (s':=⟨58,[(6,aY ((l7.set ((r4.1).toNat) ((l7.getD ((r4.1).toNat) aR).1,x3,(l7.getD ((r4.1).toNat) aR).2.2)).set ((r4.1).toNat) (((l7.set ((r4.1).toNat) ((l7.getD ((r4.1).toNat) aR).1,x3,(l7.getD ((r4.1).toNat) aR).2.2)).getD ((r4.1).toNat) aR).1,((l7.set ((r4.1).toNat) ((l7.getD ((r4.1).toNat) aR).1,x3,(l7.getD ((r4.1).toNat) aR).2.2)).getD ((r4.1).toNat) aR).2.1,(min (((l7.set ((r4.1).toNat) ((l7.getD ((r4.1).toNat) aR).1,x3,(l7.getD ((r4.1).toNat) aR).2.2)).getD ((r4.1).toNat) aR).2.2+(1:Int)) (pW))))),(7,.str (([111,107,32]:aaA)++r8))],[],[],0⟩)) ?_;refine aaG ?_;exact bK
def f188 (x2 x3:Int) (x1:List Tq2):Option Ty6:=
 if 0<=x2/\x2<x3/\x3.toNat<=x1.length then some (x1.take x2.toNat++x1.drop x3.toNat)else none
theorem f188_ok (x2 x3:Int) (x1 r:List Tq2) (h:f188 x2 x3 x1=some r):aE Tryz.prog 188 [] [] [(2000,bL 202 3 cH (default:Tq2) x1)] [.own 2000,.i x2,.i x3] (.own 2000) [(2000,bL 202 3 cH (default:Tq2) r)]:=by
 unfold f188 at h;split at h
 ·rename_i hc;cases h;have:=delK_spec 3 202 cH aR delW x1 x2.toNat x3.toNat (by omega) hc.2.2;rw[aeH hc.1,aeH (by omega:0<=x3)]at this;exact this
 ·cases h
def aBP (x1:List Tq2) (x2:Int) (x3 x4 x5:aaA):Option (Ty6×aaA):=
 (f185 x2 x3 x4 x5).bind fun r6=>
 if(!r6.2.2.2.2)then(
 some (x1,cs3)
 )else(
 (f186 x1 x3).bind fun r7=>
 if(x2==(6:Int))then(
 (f58 (((x1).length:Nat):Int)).bind fun r8=>
 chk (cs9.length+r8.length<=9223372036854775807)<|
 some (x1,(cs9++r8))
 )else(
 if(x2==(1:Int))then(
 (aB2 x1 x3 x5).bind fun r9=>
 some (r9.1,r9.2)
 )else(
 if((x2==(4:Int))&&(!r7.2))then(
 (aB2 x1 x3 x5).bind fun r10=>
 some (r10.1,r10.2)
 )else(
 if(!r7.2)then(
 some (x1,([110,111,110,101]:aaA))
 )else(
 chk (0<=r7.1/\r7.1<(((x1).length:Nat):Int))<|
 if(x2==(2:Int))then(
 (f58 ((x1.getD ((r7.1).toNat) (default:Tq2)).2.2)).bind fun r11=>
 chk (qI.length+((x1.getD ((r7.1).toNat) (default:Tq2)).2.1).length<=9223372036854775807)<|
 chk ((qI++((x1.getD ((r7.1).toNat) (default:Tq2)).2.1)).length+([32]:aaA).length<=9223372036854775807)<|
 chk (((qI++((x1.getD ((r7.1).toNat) (default:Tq2)).2.1))++([32]:aaA)).length+r11.length<=9223372036854775807)<|
 some (x1,(((qI++((x1.getD ((r7.1).toNat) (default:Tq2)).2.1))++([32]:aaA))++r11))
 )else(
 if(x2==(3:Int))then(
 (f189 x1).bind fun r12=>
 (f188 r7.1 (r7.1+(1:Int)) r12).bind fun r13=>
 chk (-9223372036854775808<=(r7.1+(1:Int))/\(r7.1+(1:Int))<=9223372036854775807)<|
 some (r13,([111,107]:aaA))
 )else(
 if(x2==(4:Int))then(
 chk ((((((x1.getD ((r7.1).toNat) (default:Tq2)).2.1).length:Nat):Int)+((x5.length:Nat):Int))<=9223372036854775807)<|
 if(decide ((((((x1.getD ((r7.1).toNat) (default:Tq2)).2.1).length+x5.length):Nat):Int)>(256:Int)))then(
 some (x1,([108,111,110,103]:aaA))
 )else(
 (aB2 x1 x3 (((x1.getD ((r7.1).toNat) (default:Tq2)).2.1)++x5)).bind fun r14=>
 chk (((x1.getD ((r7.1).toNat) (default:Tq2)).2.1).length+x5.length<=9223372036854775807)<|
 some (r14.1,r14.2)
 )
 )else(
 if(!(((x1.getD ((r7.1).toNat) (default:Tq2)).2.1)==x4))then(
 chk (([110,111,32]:aaA).length+((x1.getD ((r7.1).toNat) (default:Tq2)).2.1).length<=9223372036854775807)<|
 some (x1,(([110,111,32]:aaA)++((x1.getD ((r7.1).toNat) (default:Tq2)).2.1)))
 )else(
 (aB2 x1 x3 x5).bind fun r15=>
 some (r15.1,r15.2)
 )
 )
 )
 )
 )
 )
 )
 )
 )
theorem f153_ok (x1:List Tq2) (x2:Int) (x3 x4 x5:aaA) (r:Ty6×aaA) (h:aBP x1 x2 x3 x4 x5=some r):aE Tryz.prog 153 [(1,pT)] [] [] [vL 3 cH (default:Tq2) x1,.agg [.i x2,.str x3,.str x4,.str x5]] (.tup [vL 3 cH (default:Tq2) r.1,.str r.2]) []:=by
 unfold aBP at h;refine aE.body 0 _ _ Tryz.func153 rfl Tryz.ntmps153 rfl rfl ?_;refine aN [] [] [0,3,1000001] [3] trivial ?_;refine aaE (aaE ?_);obtain⟨r6,hr6,h⟩:=bind_ok h;refine bG [] [(1,⟨[.agg [.i x2,.str x3,.str x4,.str x5]],[],[],[],.tup [.agg [.str r6.1,.bool r6.2.1,.bool r6.2.2.1,.bool r6.2.2.2.1],.bool r6.2.2.2.2],[],[],[]⟩)] [0,3,7,1000001] [3] (an2 (cpT (f185_ok _ _ _ _ _ hr6)) trivial) ?_;refine tN (aN [] [] [0,3,17,1000001] [3] trivial ?_);refine cK (!r6.2.2.2.2) (fun hc1=> ?_) fun hc1=> ?_
 ·replace h:=aF hc1 h;refine bJ [] [] ⟨131,[(4,aY x1),(5,.str cs3)],[],[],0⟩ trivial ?_;obtain rfl:=aaD h;refine aaG (tR ?_);exact bK
 ·replace h:=aG hc1 h;refine aaF (tN (aaE ?_));obtain⟨r7,hr7,h⟩:=bind_ok h;refine bG [] [(3,⟨[aY x1,.str x3],[],[],[],.tup [.i r7.1,.bool r7.2],[],[],[]⟩)] [0,3,8,9,1000001] [3] (an1 (cpT (f186_ok _ _ _ hr7))) ?_;refine tN (aaE (aaJ (aN [] [] [0,3,8,9,26,1000001] [3] trivial ?_)));refine cK (x2==(6:Int)) (fun hc2=> ?_) fun hc2=> ?_
  ·replace h:=aF hc2 h;refine aaE ?_;obtain⟨r8,hr8,h⟩:=bind_ok h;obtain⟨ob0,h⟩:=aB h;refine bH [] [(3,⟨[.i (lZ x1)],[],[],[],.str r8,[],[],[1]⟩)] ⟨131,[(4,aY x1),(5,.str (cs9++r8))],[],[],0⟩ (an2 (cpT (rQ _ _ hr8)) ob0) ?_;refine tN ?_;obtain rfl:=aaD h;refine aaG (kR (tR ?_));exact bK
  ·replace h:=aG hc2 h;refine aN [] [] [0,3,8,9,35,1000001] [3] trivial ?_;refine cK (x2==(1:Int)) (fun hc3=> ?_) fun hc3=> ?_
   ·replace h:=aF hc3 h;refine aaE ?_;obtain⟨r9,hr9,h⟩:=bind_ok h;refine bH [] [(5,⟨[aY x1,.str x3,.str x5],[],[],[],.tup [aY r9.1,.str r9.2],[],[],[1]⟩)] ⟨131,[(4,aY r9.1),(5,.str r9.2)],[],[],0⟩ (an1 (cpT (tD _ _ _ _ hr9))) ?_;refine tN ?_;obtain rfl:=aaD h;refine aaG (kR (tR ?_));exact bK
   ·replace h:=aG hc3 h;refine aaE (bG [] [] [0,3,8,9,47,1000001] [3] (an2 (an1 (idA (((x2==(4:Int))==true)=true))) (bqA (x2==(4:Int)) true)) ?_);refine tN (cK ((x2==(4:Int))&&(!r7.2)) (fun hc4=> ?_) fun hc4=> ?_)
    ·replace h:=aF hc4 h;refine aaE ?_;obtain⟨r10,hr10,h⟩:=bind_ok h;refine bH [] [(5,⟨[aY x1,.str x3,.str x5],[],[],[],.tup [aY r10.1,.str r10.2],[],[],[1]⟩)] ⟨131,[(4,aY r10.1),(5,.str r10.2)],[],[],0⟩ (an1 (cpT (tD _ _ _ _ hr10))) ?_;refine tN ?_;obtain rfl:=aaD h;refine aaG (kR (tR ?_));exact bK
    ·replace h:=aG hc4 h;refine aN [] [] [0,3,8,63,1000001] [3] trivial ?_;refine cK (!r7.2) (fun hc5=> ?_) fun hc5=> ?_
     ·replace h:=aF hc5 h;refine bJ [] [] ⟨131,[(4,aY x1),(5,.str ([110,111,110,101]:aaA))],[],[],0⟩ trivial ?_;obtain rfl:=aaD h;refine aaG (kR (tR ?_));exact bK
     ·replace h:=aG hc5 h;refine aaF (kN (tN (aaE ?_)));obtain⟨ob3,h⟩:=aB h;refine bG [] [] [0,3,8,10,1000001] [3,10] (an2 ob3 trivial) ?_;refine tN (aaE (aN [] [] [0,3,8,10,72,1000001] [3,10] trivial ?_));refine aaJ (aN [] [] [0,3,8,10,72,73,1000001] [3,10] trivial ?_);refine cK (x2==(2:Int)) (fun hc6=> ?_) fun hc6=> ?_
      ·replace h:=aF hc6 h;refine aaE ?_;obtain⟨r11,hr11,h⟩:=bind_ok h;obtain⟨ob4,ob5,ob6,h⟩:=ck3 h;refine bH [] [(7,⟨[.i (x1.getD ((r7.1).toNat) aR).2.2],[],[],[],.str r11,[],[],[1]⟩)] ⟨131,[(4,aY x1),(5,.str (((qI++((x1.getD ((r7.1).toNat) aR).2.1))++([32]:aaA))++r11))],[],[],0⟩ (an4 ob4 ob5 (cpT (rQ _ _ hr11)) ob6) ?_;refine tN ?_;obtain rfl:=aaD h;refine aaG (kR (tR ?_));exact bK
      ·replace h:=aG hc6 h;refine aN [] [] [0,3,8,10,72,84,1000001] [3,10] trivial ?_;refine cK (x2==(3:Int)) (fun hc7=> ?_) fun hc7=> ?_
       ·replace h:=aF hc7 h;refine aaE ?_;obtain⟨r12,hr12,h⟩:=bind_ok h;obtain⟨r13,hr13,h⟩:=bind_ok h;obtain⟨ob7,h⟩:=aB h;refine bH [] [(1,⟨[aY x1],[],[],[(6001,aV r12)],.own 6001,[6001],[],[]⟩),(5,⟨[.own 6001,.i r7.1,.i (r7.1+(1:Int))],[6001],[],[(6001,aV r13)],.own 6001,[6001],[],[]⟩)] ⟨131,[(4,.own 6001),(5,.str ([111,107]:aaA)),(1000001,pT)],[(6001,aV r13)],[],0⟩ (an3 (cpT (aE.ren (aT 3000 6001) (aD 3000 6001) rfl (f189_ok _ _ hr12))) ob7 (cpT (aE.ren (aT 2000 6001) (aD 2000 6001) rfl (f188_ok _ _ _ _ hr13)))) ?_;refine tN (aaX (aaL (aeU 6001 rfl rfl) (LR (s':=⟨131,[(4,aY r13),(5,.str ([111,107]:aaA)),(1000001,pT)],[],[],0⟩))) ?_);obtain rfl:=aaD h;refine aaX (LR (s':=⟨131,[(4,aY r13),(5,.str ([111,107]:aaA))],[],[],0⟩)) ?_;refine aaG (kR (tR ?_));exact bK
       ·replace h:=aG hc7 h;refine aN [] [] [0,3,10,92,1000001] [3,10] trivial ?_;refine cK (x2==(4:Int)) (fun hc8=> ?_) fun hc8=> ?_
        ·replace h:=aF hc8 h;refine aaE (aaE ?_);obtain⟨ob8p,h⟩:=aB h;have ob8: -9223372036854775808<=(((((x1.getD ((r7.1).toNat) aR).2.1).length:Nat):Int)+((x5.length:Nat):Int))/\(((((x1.getD ((r7.1).toNat) aR).2.1).length:Nat):Int)+((x5.length:Nat):Int))<=9223372036854775807:=⟨by omega,ob8p⟩;refine bG [] [] [0,3,10,101,1000001] [3,10] (an1 ob8) ?_;refine tN (cK (decide ((((((x1.getD ((r7.1).toNat) aR).2.1).length+x5.length):Nat):Int)>(256:Int))) (fun hc9=> ?_) fun hc9=> ?_)
         ·replace h:=aF hc9 h;refine bJ [] [] ⟨131,[(4,aY x1),(5,.str ([108,111,110,103]:aaA))],[],[],0⟩ trivial ?_;obtain rfl:=aaD h;refine aaG (tR (kR (tR ?_)));exact bK
         ·replace h:=aG hc9 h;refine aaF (tN (aaE ?_));obtain⟨r14,hr14,h⟩:=bind_ok h;obtain⟨ob9,h⟩:=aB h;refine bG [] [(8,⟨[aY x1,.str x3,.str (((x1.getD ((r7.1).toNat) aR).2.1)++x5)],[],[],[],.tup [aY r14.1,.str r14.2],[],[],[1]⟩)] [4,5] [] (an2 ob9 (cpT (tD _ _ _ _ hr14))) ?_;refine tN ?_;obtain rfl:=aaD h;refine aaG (kR (tR ?_));exact bK
        ·replace h:=aG hc8 h;refine aaF (kN (tN (aaE (aN [] [] [0,3,10,118,1000001] [3,10] trivial ?_))));refine cK (!(((x1.getD ((r7.1).toNat) aR).2.1)==x4)) (fun hc10=> ?_) fun hc10=> ?_
         ·replace h:=aF hc10 h;refine aaE ?_;obtain⟨ob10,h⟩:=aB h;refine bH [] [] ⟨131,[(4,aY x1),(5,.str (([110,111,32]:aaA)++((x1.getD ((r7.1).toNat) aR).2.1)))],[],[],0⟩ (an1 ob10) ?_;refine tN ?_;obtain rfl:=aaD h;refine aaG (tR ?_);exact bK
         ·replace h:=aG hc10 h;refine aaF (tN (aaE ?_));obtain⟨r15,hr15,h⟩:=bind_ok h;refine bG [] [(5,⟨[aY x1,.str x3,.str x5],[],[],[],.tup [aY r15.1,.str r15.2],[],[],[1]⟩)] [4,5] [] (an1 (cpT (tD _ _ _ _ hr15))) ?_;refine tN ?_;obtain rfl:=aaD h;refine aaG ?_;exact bK
def f154 (x1:List Tq0):Option Ty4:=
 abc ((x1).length=0) (
 some []
 ) (
 chk ((0+(x1).length) *32<=140737488355328)<|
 some ([]++x1)
 )
theorem f154_ok (x1 r:List Tq0) (h:f154 x1=some r):aE Tryz.prog 154 [] [] [] [vL 3 bX (default:Tq0) x1] (.own 3000) [(3000,bL 160 3 bX (default:Tq0) r)]:=by
 unfold f154 at h;refine aE.body 0 _ _ Tryz.func154 rfl Tryz.ntmps154 rfl rfl ?_;refine aN [] [] [0] [] trivial ?_;refine aaE (bJ [] [] ⟨8,[(0,bC x1),(4,.abool (fun b=>b=true->(x1).length=0))],[],[],0⟩ trivial ?_);obtain⟨hA1,hB1⟩:=aBb h;refine AWp.condAb (fun b=>b=true->(x1).length=0) (by kernel_rfl) (fun hc1=> ?_) (fun hc1=> ?_)
 ·have h:=hA1 (hc1 rfl);refine bJ [] [] ⟨8,[(2,.nils)],[],[],0⟩ trivial ?_;refine aaX (aaL (adM 2 3000 160 3 (cE bX aZ []) rfl rfl (aaW rfl)) (LR (s':=⟨8,[(2,.own 3000)],[(3000,bI [])],[],0⟩))) ?_;obtain rfl:=aaD h;refine aaX (LR (s':=⟨8,[(2,.own 3000)],[(3000,bI [])],[],0⟩)) ?_;refine aaG (tR ?_);exact bK
 ·have h:=hB1;refine aaF (tN (aaE ?_));obtain⟨ob0,h⟩:=aB h;refine bH [] [] ⟨8,[(2,.own 5)],[(5,.rows 160 3 (0+(x1).length) (gK 0 (dN 3 []) (cE bX aZ x1)))],[],0⟩ (an1 ob0) ?_;refine tN (aaX (acZ (s':=⟨8,[(2,.own 5)],[(5,bI ([]++x1))],[],0⟩) rfl rfl ⟨.refl _,trivial⟩ ⟨⟨_,rfl,(acK (adQ (acV (enc:=bX) [] rfl rfl (fun _=>rfl)) (acX _)))⟩,trivial⟩) ?_);refine aaX (aaL (acQ (aT 5 3000) (aD 5 3000) rfl) (LR (s':=⟨8,[(2,.own 3000)],[(3000,bI ([]++x1))],[],0⟩))) ?_;obtain rfl:=aaD h;refine aaX (LR (s':=⟨8,[(2,.own 3000)],[(3000,bI ([]++x1))],[],0⟩)) ?_;refine aaG ?_;exact bK
abbrev f155z0 (x2 x3:List Tq0):aJ:=[(2000,bL 160 3 bX (default:Tq0) x2),(2001,bL 160 3 bX (default:Tq0) x3)]
def f155e (x1:Int) (x2 x3:List Tq0):Option (Ty4×Ty4):=
 chk (0<=x1/\x1<=(((x2).length:Nat):Int))<|
 if((((x3).length:Nat):Int)==(0:Int))then(
 some (x2,x3)
 )else(
 if(x1==(((x2).length:Nat):Int))then(
 chk (((x2).length+(x3).length) *32<=140737488355328)<|
 some ((x2++x3),x3)
 )else(

 none
 )
 )
theorem f155e_ok (x1:Int) (x2 x3:List Tq0) (r:Ty4×Ty4) (h:f155e x1 x2 x3=some r):aE Tryz.prog 155 [] [2001] [(2000,bL 160 3 bX (default:Tq0) x2),(2001,bL 160 3 bX (default:Tq0) x3)] [.own 2000,.i x1,.own 2001] (.own 2000) [(2000,bL 160 3 bX (default:Tq0) r.1),(2001,bL 160 3 bX (default:Tq0) r.2)]:=by
 unfold f155e at h;refine aE.body 0 _ _ Tryz.func155 rfl Tryz.ntmps155 rfl rfl ?_;refine aN [] [] [0,1,2] [2000,2001] trivial ?_;refine aaE ?_;obtain⟨ob0,h⟩:=aB h;refine bG [] [] [0,1,2] [2000,2001] (an1 ob0) ?_;refine tN (aN [] [] [0,1,2,7] [2000,2001] trivial ?_);refine aaE (aN [] [] [0,1,2,7,16] [2000,2001] trivial ?_);refine cK ((lZ x3)==(0:Int)) (fun hc1=> ?_) fun hc1=> ?_
 ·replace h:=aF hc1 h;refine bJ [] [] ⟨95,[(6,.own 2000)],(f155z0 x2 x3),[2001],0⟩ trivial ?_;obtain rfl:=aaD h;refine aaG (tR ?_);exact bK
 ·replace h:=aG hc1 h;refine aaF (tN (aN [] [] [0,1,2,7,8] [2000,2001] trivial ?_));refine aaE (bJ [] [] ⟨95,[(0,.own 2000),(1,.i x1),(2,.own 2001),(7,.i (lZ x3)),(8,.i (lZ x2)),(22,.bool (x1==(lZ x2)))],(f155z0 x2 x3),[2001],0⟩ trivial ?_);refine cK (x1==(lZ x2)) (fun hc2=> ?_) fun hc2=> ?_
  ·replace h:=aF hc2 h;refine aaE ?_;obtain⟨ob1,h⟩:=aB h;refine bH [] [] ⟨95,[(6,.own 2000)],[(2000,.rows 160 3 ((x2).length+(x3).length) (gK (x2).length (cE bX aZ x2) (cE bX aZ x3))),(2001,bI x3)],[2001],0⟩ (an1 ob1) ?_;refine tN (aaX (acZ (s':=⟨95,[(6,.own 2000)],[(2000,bI (x2++x3)),(2001,bI x3)],[2001],0⟩) rfl rfl ⟨.refl _,trivial⟩ ⟨⟨_,rfl,(acK (adQ (acX _) (acX _)))⟩,⟨_,rfl,.refl _⟩,trivial⟩) ?_);obtain rfl:=aaD h;refine aaX (LR (s':=⟨95,[(6,.own 2000)],[(2000,bI (x2++x3)),(2001,bI x3)],[2001],0⟩)) ?_;refine aaG (tR ?_);exact bK
  ·replace h:=aG hc2 h;refine aaF (tN (aaE (aaE ?_)));exact nEx h
def f155 (x2:Int) (x1 x3:List Tq0):Option (List (Int×Int×aaA)×List (Int×Int×aaA)):=
 if 0<=x2/\x2.toNat<x1.length/\0<x3.length/\(x1.length+x3.length) *32<=140737488355328 then some (x1.take x2.toNat++x3++x1.drop x2.toNat,x3)else f155e x2 x1 x3
theorem f155_ok (x2:Int) (x1 x3:List Tq0) (r:List Tq0×List Tq0) (h:f155 x2 x1 x3=some r):aE Tryz.prog 155 [] [2001] [(2000,bL 160 3 bX (default:Tq0) x1),(2001,bL 160 3 bX (default:Tq0) x3)] [.own 2000,.i x2,.own 2001] (.own 2000) [(2000,bL 160 3 bX (default:Tq0) r.1),(2001,bL 160 3 bX (default:Tq0) r.2)]:=by
 unfold f155 at h;split at h
 ·rename_i hc;cases h;have:=vD 3 (by decide) 160 32 bX aZ insShift1 insGrow1 x1 x3 x2.toNat hc.2.1 hc.2.2.1 hc.2.2.2;rw[aeH hc.1]at this;exact this
 ·exact f155e_ok x2 x1 x3 r h
abbrev aAT (x1:List Tq2) (x2:List Tq0):List V:=[vL 3 cH (default:Tq2) x1,vL 3 bX (default:Tq0) x2]
abbrev wY (l11:List Tq2):List V:=[vL 3 cH (default:Tq2) l11,.own 6001]
abbrev f123z3 (s10:aaA):List (Nat×V):=[(2,.ptr 2 0),(4,.ptr 4 0),(8,.str s10),(1000001,pT)]
abbrev f123z4 (r8:Tq9):List V:=[.i r8.1,.str r8.2.1,.str r8.2.2.1,.str r8.2.2.2.1]
abbrev f123z5 (s10:aaA):List (Nat×V):=[(4,.ptr 4 0),(5,.str s10),(1000001,pT)]
def f123 (x1:List Tq2) (x2:List Tq0) (x3 x4:Int) (x5:aaA):Option aBZ:=
 (f150 x3 x4).bind fun r6=>
 if(((!r6)||(x5==[]))||(decide (((x5.length:Nat):Int)>(200:Int))))then(
 some (x1,x2,cs3)
 )else(
 (f151 x2 x3).bind fun r7=>
 chk ((r7.2==true)=true->0<=r7.1/\r7.1<(((x2).length:Nat):Int))<|
 if(r7.2&&(decide ((x2.getD ((r7.1).toNat) (default:Tq0)).2.1>x4)))then(
 some (x1,x2,cs4)
 )else(
 chk ((r7.2==true)=true->0<=r7.1/\r7.1<(((x2).length:Nat):Int))<|
 if(r7.2&&((x2.getD ((r7.1).toNat) (default:Tq0)).2.1==x4))then(
 chk (0<=r7.1/\r7.1<(((x2).length:Nat):Int))<|
 some (x1,x2,(x2.getD ((r7.1).toNat) (default:Tq0)).2.2)
 )else(
 jn (fun((s10,l11):aaA×Ty6)=>
 (f154 x2).bind fun r12=>
 jn (fun(l13:List Tq0)=>
 some (l11,l13,s10)
 ) fun(K2:Ty4->Option aBZ)=>
 if r7.2 then(
 chk (0<=r7.1/\r7.1<(((r12).length:Nat):Int))<|
 chk (((r7.1).toNat)<(r12).length)<|
 K2 (r12.set ((r7.1).toNat) (x3,x4,s10))
 )else(
 (f155 r7.1 r12 [(x3,x4,s10)]).bind fun r14=>
 K2 r14.1
 )
 ) fun(K1:(aaA×Ty6)->Option aBZ)=>
 (f152 x5).bind fun r8=>
 if(r8.2.2.2.2==(0:Int))then(
 (aBP x1 r8.1 r8.2.1 r8.2.2.1 r8.2.2.2.1).bind fun r9=>
 K1 (r9.2,r9.1)
 )else(
 K1 (cs5,x1)
 )
 )
 )
 )
theorem f123_ok (x1:List Tq2) (x2:List Tq0) (x3 x4:Int) (x5:aaA) (r:Ty6×Ty4×aaA) (h:f123 x1 x2 x3 x4 x5=some r):aE Tryz.prog 123 [(1,pT)] [] [] [.agg [vL 3 cH (default:Tq2) x1,vL 3 bX (default:Tq0) x2],.agg [.i x3,.i x4,.str x5]] (.tup [.agg [vL 3 cH (default:Tq2) r.1,vL 3 bX (default:Tq0) r.2.1],.str r.2.2]) []:=by
 unfold f123 at h;refine aE.bodyD [4] 0 _ _ Tryz.func123 rfl Tryz.ntmps123 rfl rfl ?_;refine aN [] [] [2,3,4,1000001] [2,3,4] trivial ?_;refine aaE (aaE ?_);obtain⟨r6,hr6,h⟩:=bind_ok h;refine bG [] [(4,⟨[.i x3,.i x4],[],[],[],.bool r6,[],[],[]⟩)] [2,3,4,28,1000001] [2,3,4] (ac6 (cpT (f150_ok _ _ _ hr6)) (an1 (idA (((!r6)==false)=true))) (an1 (idA (((!r6)==false)=true))) (bqA (!r6) false) (an1 (idA ((((!r6)||(x5==[]))==false)=true))) (an1 (idA ((((!r6)||(x5==[]))==false)=true))) (an2 (an1 (idA ((((!r6)||(x5==[]))==false)=true))) (bqA ((!r6)||(x5==[])) false))) ?_;refine tN (cK (((!r6)||(x5==[]))||(decide ((lZ x5)>(200:Int)))) (fun hc1=> ?_) fun hc1=> ?_)
 ·replace h:=aF hc1 h;refine bJ [] [] ⟨111,[(4,.ptr 4 0),(5,.str cs3)],[(4,.cells 92 (aAT x1 x2))],[],0⟩ (an1 trivial) ?_;obtain rfl:=aaD h;refine aaG (tR ?_);exact bD
 ·replace h:=aG hc1 h;refine aaF (tN (aaE ?_));obtain⟨r7,hr7,h⟩:=bind_ok h;refine bG [] [(4,⟨[bC x2,.i x3],[],[],[],.tup [.i r7.1,.bool r7.2],[],[],[]⟩)] [2,3,4,6,7,1000001] [2,3,4] (an1 (cpT (f151_ok _ _ _ hr7))) ?_;refine tN (aaE (aaE ?_));obtain⟨ob8,h⟩:=aB h;refine bG [] [] [2,3,4,6,7,49,1000001] [2,3,4] (ac6 (an1 (idA ((r7.2==true)=true))) (aaM ob8 (an2 (idA ((r7.2==true)=true)) (idA ((r7.2==true)=true)))) (an1 (idA ((r7.2==true)=true))) (an1 (idA ((r7.2==true)=true))) (an1 (idA ((r7.2==true)=true))) (an2 (idA ((r7.2==true)=true)) (idA ((r7.2==true)=true))) (an1 (bqA (r7.2) true))) ?_;refine tN (cK (r7.2&&(decide ((x2.getD ((r7.1).toNat) aZ).2.1>x4))) (fun hc2=> ?_) fun hc2=> ?_)
  ·replace h:=aF hc2 h;refine bJ [] [] ⟨111,[(4,.ptr 4 0),(5,.str cs4)],[(4,.cells 92 (aAT x1 x2))],[],0⟩ (an1 trivial) ?_;obtain rfl:=aaD h;refine aaG (tR ?_);exact bD
  ·replace h:=aG hc2 h;refine aaF (tN (aaE (aaE ?_)));obtain⟨ob18,h⟩:=aB h;refine bG [] [] [2,3,4,6,7,62,1000001] [2,3,4] (ac6 (an1 (idA ((r7.2==true)=true))) (aaM ob18 (an2 (idA ((r7.2==true)=true)) (idA ((r7.2==true)=true)))) (an1 (idA ((r7.2==true)=true))) (an1 (idA ((r7.2==true)=true))) (an1 (idA ((r7.2==true)=true))) (an2 (idA ((r7.2==true)=true)) (idA ((r7.2==true)=true))) (an1 (bqA (r7.2) true))) ?_;refine tN (cK (r7.2&&((x2.getD ((r7.1).toNat) aZ).2.1==x4)) (fun hc3=> ?_) fun hc3=> ?_)
   ·replace h:=aF hc3 h;refine aaE ?_;obtain⟨ob27,h⟩:=aB h;refine bH [] [] ⟨111,[(4,.ptr 4 0),(5,.str (x2.getD ((r7.1).toNat) aZ).2.2)],[(4,.cells 92 (aAT x1 x2))],[],0⟩ (an2 ob27 trivial) ?_;refine tN ?_;obtain rfl:=aaD h;refine aaG (tR ?_);exact bD
   ·replace h:=aG hc3 h;refine aaF (tN (aN [] [] [2,3,4,6,7,8,1000001] [2,3,4] trivial ?_));obtain⟨K1,hK1,h⟩:=aO h;refine aaU (fun(x:aaA×Ty6)=>match x with|(s10,l11)=>⟨111,[(2,.ptr 2 0),(3,.ptr 3 0),(4,.ptr 4 0),(6,.i r7.1),(7,.bool r7.2),(8,.str s10),(1000001,pT)],[(2,.cells 92 [aY l11,bC x2]),(3,.cells 88 [.i x3,.i x4,.str x5]),(4,.cells 92 [.nils,.nils])],[],0⟩) (fun x=>K1 x=some r) ?_ ?_
    ·refine aaE ?_;obtain⟨r8,hr8,h⟩:=bind_ok h;refine bG [] [(2,⟨[.str x5],[],[],[],.tup [.agg (f123z4 r8),.i r8.2.2.2.2],[],[],[]⟩)] [2,3,4,6,7,8,9,10,1000001] [2,3,4,9] (an2 (cpT (f152_ok _ _ hr8)) trivial) ?_;refine tN (bJ [] [] ⟨111,[(2,.ptr 2 0),(3,.ptr 3 0),(4,.ptr 4 0),(6,.i r7.1),(7,.bool r7.2),(8,.str cs5),(9,.ptr 9 0),(77,.bool (r8.2.2.2.2==(0:Int))),(1000001,pT)],[(2,.cells 92 (aAT x1 x2)),(3,.cells 88 [.i x3,.i x4,.str x5]),(4,.cells 92 [.nils,.nils]),(9,.cells 164 (f123z4 r8))],[],0⟩ trivial ?_);refine cK (r8.2.2.2.2==(0:Int)) (fun hc4=> ?_) fun hc4=> ?_
     ·replace h:=aF hc4 h;obtain⟨r9,hr9,h⟩:=bind_ok h;refine bG [] [(3,⟨[aY x1,.agg (f123z4 r8)],[],[],[],.tup [aY r9.1,.str r9.2],[],[],[1]⟩)] [2,3,4,6,7,8,1000001] [2,3,4] (an2 (cpT (f153_ok _ _ _ _ _ _ hr9)) trivial) ?_;exact jN (r9.2,r9.1) LR h
     ·replace h:=aG hc4 h;refine aaF ?_;exact jN (cs5,x1) LR h
    ·rintro⟨s10,l11⟩ h;replace h:=(congrFun hK1 _).symm.trans h;refine aN [] [] [2,4,6,7,8,11,1000001] [2,4,11] (an1 trivial) ?_;refine aaE ?_;obtain⟨r12,hr12,h⟩:=bind_ok h;refine bH [] [(2,⟨[bC x2],[],[],[(6001,bI r12)],.own 6001,[6001],[],[]⟩)] ⟨111,[(2,.ptr 2 0),(4,.ptr 4 0),(6,.i r7.1),(7,.bool r7.2),(8,.str s10),(11,.ptr 11 0),(1000001,pT)],[(2,.cells 92 (wY l11)),(4,.cells 92 [.nils,.nils]),(11,.cells 160 [.i x3,.i x4,.str s10]),(6001,bI r12)],[],0⟩ (an2 (cpT (aE.ren (aT 3000 6001) (aD 3000 6001) rfl (f154_ok _ _ hr12))) trivial) ?_;refine tN ?_;obtain⟨K2,hK2,h⟩:=aO h;refine aaU (α:=List Tq0) (fun(l13:List Tq0)=>⟨111,(f123z3 s10),[(2,.cells 92 (wY l11)),(4,.cells 92 [.nils,.nils]),(6001,bI l13)],[],0⟩) (fun x=>K2 x=some r) ?_ ?_
     ·refine aN [] [] [2,4,6,8,11,96,1000001] [2,4,11,6001] trivial ?_;refine cK r7.2 (fun hc5=> ?_) fun hc5=> ?_
      ·replace h:=aF hc5 h;obtain⟨ob28,ob29,h⟩:=ck2 h;refine bH [] [] ⟨111,(f123z3 s10),[(2,.cells 92 (wY l11)),(4,.cells 92 [.nils,.nils]),(6001,.rows 160 3 (r12).length (aB1 (cE bX aZ r12) ((r7.1).toNat) 0 [.i x3,.i x4,.str s10]))],[],0⟩ (an2 ob28 ob29) ?_;exact jN ((r12.set ((r7.1).toNat) (x3,x4,s10))) (aaL (acZ (s':=⟨111,(f123z3 s10),[(2,.cells 92 (wY l11)),(4,.cells 92 [.nils,.nils]),(6001,bI (r12.set ((r7.1).toNat) (x3,x4,s10)))],[],0⟩) rfl rfl ⟨.refl _,.refl _,.refl _,.refl _,trivial⟩ ⟨⟨_,rfl,.refl _⟩,⟨_,rfl,.refl _⟩,⟨_,rfl,(acK (RL.set (x3,x4,s10) (acX _) (by intro j hj;match j,hj with|0,_=>rfl|1,_=>rfl|2,_=>rfl)))⟩,trivial⟩) LR) h
      ·replace h:=aG hc5 h;obtain⟨r14,hr14,h⟩:=bind_ok h;refine bG [] [(5,⟨[.own 6001,.i r7.1,.own 106],[6001,106],[106],[(6001,bI r14.1),(106,bI r14.2)],.own 6001,[6001],[],[]⟩)] [2,4,8,1000001] [2,4,6001] (an2 (cpT (Spec.heap (h0:=[(6001,bI r12),(106,.rows 160 3 1 (dN 3 [.i x3,.i x4,.str s10]))]) (aE.ren (aT 2001 106) (aD 2001 106) rfl (aE.ren (aT 2000 6001) (aD 2000 6001) rfl (f155_ok _ _ _ _ hr14))) ⟨⟨_,rfl,.refl _⟩,⟨_,rfl,(acK (acV (enc:=bX) [(x3,x4,s10)] rfl rfl (fun _=>rfl)))⟩,trivial⟩)) trivial) ?_;exact jN (r14.1) LR h
     ·rintro l13 h;replace h:=(congrFun hK2 _).symm.trans h;refine bJ [] [] ⟨111,(f123z5 s10),[(4,.cells 92 (wY l11)),(6001,bI l13)],[],0⟩ (an1 trivial) ?_;refine aaX (aaL (aeU 6001 rfl rfl) (LR (s':=⟨111,(f123z5 s10),[(4,.cells 92 [aY l11,bC l13])],[],0⟩))) ?_;obtain rfl:=aaD h;refine aaX (LR (s':=⟨111,[(4,.ptr 4 0),(5,.str s10)],[(4,.cells 92 [aY l11,bC l13])],[],0⟩)) ?_;refine aaG ?_;exact bD
def nA (r4:Int×Int×Ty4×Int) (K1:(Ty6×Ty4×Ty4)->Option (Ty6×Ty4×Ty4)):Nat->(Nat×Ty6×Ty4×Ty4)->Option (Ty6×Ty4×Ty4)
 |0,_=>none
 |k+1,(n5,l6,l7,l8)=>
  if(decide ((n5:Int)<(((r4.2.2.1).length:Nat):Int)))then(
  chk ((n5:Int)<(((r4.2.2.1).length:Nat):Int))<|
  (f123 l6 l7 ((r4.2.2.1.getD n5 (default:Tq0)).1) ((r4.2.2.1.getD n5 (default:Tq0)).2.1) ((r4.2.2.1.getD n5 (default:Tq0)).2.2)).bind fun r9=>
  chk (((l8).length+1) *32<=140737488355328)<|
  chk (((n5:Int)+(1:Int))<=9223372036854775807)<|
  (nA r4 K1 k) ((n5+1),r9.1,r9.2.1,(l8++[((r4.2.2.1.getD n5 (default:Tq0)).1,(r4.2.2.1.getD n5 (default:Tq0)).2.1,r9.2.2)]))
  )else(
  K1 (l6,l7,l8)
  )
abbrev f90z0 (x1:List Tq2) (x2:List Tq0):List V:=[vL 3 cH (default:Tq2) x1,vL 3 bX (default:Tq0) x2]
abbrev pL (r4:Int×Int×Ty4×Int) (n5:Nat):=(r4.2.2.1.getD n5 (default:Tq0))
abbrev f90z2 (r4:Int×Int×Ty4×Int) (n5:Nat):List (Nat×V):=[(2,.ptr 2 0),(4,.ptr 4 0),(8,.own 5008),(21,vL 3 bX (default:Tq0) r4.2.2.1),(22,.i (((r4.2.2.1).length:Nat):Int)),(23,.i (n5:Int)),(1000001,pT),(1000002,bV),(1000003,bV)]
abbrev f90z3 (r9:Ty6×Ty4×aaA):List V:=[vL 3 cH (default:Tq2) r9.1,vL 3 bX (default:Tq0) r9.2.1]
abbrev f90z4 (l6:List Tq2) (l7:List Tq0):List V:=[vL 3 cH (default:Tq2) l6,vL 3 bX (default:Tq0) l7]
abbrev f90z5 (l10:List Tq2) (l11:List Tq0):List V:=[vL 3 cH (default:Tq2) l10,vL 3 bX (default:Tq0) l11]
abbrev f90z6 (r4:Int×Int×Ty4×Int):List V:=[.i r4.1,.i r4.2.1,vL 3 bX (default:Tq0) r4.2.2.1]
abbrev f90z7 (r4:Int×Int×Ty4×Int) (n5:Nat):List V:=[.i (pL r4 n5).1,.i (pL r4 n5).2.1,.str (pL r4 n5).2.2]
abbrev f90z8 :=Ty4
abbrev f90z9 (r9:Ty6×Ty4×aaA) (l8:List Tq0) (r4:Int×Int×Ty4×Int) (n5:Nat):aJ:=[(2,.cells 92 (f90z3 r9)),(4,.cells 92 [.nils,.nils]),(5008,bL 98 3 bX (default:Tq0) (l8++[((pL r4 n5).1,(pL r4 n5).2.1,r9.2.2)]))]
abbrev f90z10 (l6:List Tq2) (l7 l8:List Tq0):aJ:=[(2,.cells 92 (f90z4 l6 l7)),(4,.cells 92 [.nils,.nils]),(5008,bL 98 3 bX (default:Tq0) l8)]
def f90 (x1:List Tq2) (x2:List Tq0) (x3:aaA):Option (Ty6×Ty4×Ty4):=
 (f68 x3).bind fun r4=>
 if(r4.2.2.2 !=(0:Int))then(
 some (x1,x2,[])
 )else(
 jn (fun((l10,l11,l12):Ty6×Ty4×Ty4)=>
 some (l10,l11,l12)
 ) fun(K1:(Ty6×Ty4×Ty4)->Option (Ty6×Ty4×Ty4))=>
 nA r4 K1 bB (0,x1,x2,[])
 )
theorem f90_ok (x1:List Tq2) (x2:List Tq0) (x3:aaA) (r:Ty6×Ty4×Ty4) (h:f90 x1 x2 x3=some r):aE Tryz.prog 90 [(1,pT),(2,bV),(3,bV)] [] [] [.agg [vL 3 cH (default:Tq2) x1,vL 3 bX (default:Tq0) x2],.str x3] (.tup [.agg [vL 3 cH (default:Tq2) r.1,vL 3 bX (default:Tq0) r.2.1],.own 3000]) [(3000,bL 98 3 bX (default:Tq0) r.2.2)]:=by
 unfold f90 at h;refine aE.bodyD [4] 0 _ _ Tryz.func90 rfl Tryz.ntmps90 rfl rfl ?_;refine aN [] [] [1,2,4,1000001,1000002,1000003] [2,4] trivial ?_;refine aaE ?_;obtain⟨r4,hr4,h⟩:=bind_ok h;refine bG [] [(1,⟨[.str x3],[],[],[],.tup [.agg (f90z6 r4),.i r4.2.2.2],[],[],[1,2,3]⟩)] [2,4,6,7,1000001,1000002,1000003] [2,4,6] (an2 (cpT (f68_ok _ _ hr4)) trivial) ?_;refine tN (aaE (aN [] [] [2,4,6,18,1000001,1000002,1000003] [2,4,6] trivial ?_));refine cK (r4.2.2.2 !=(0:Int)) (fun hc1=> ?_) fun hc1=> ?_
 ·replace h:=aF hc1 h;refine bJ [] [] ⟨45,[(4,.ptr 4 0),(5,.nils),(1000001,pT),(1000002,bV),(1000003,bV)],[(4,.cells 92 (f90z0 x1 x2))],[],0⟩ (an1 trivial) ?_;refine aaX (aaL (adM 5 3000 98 3 (cE bX aZ []) rfl rfl (aaW rfl)) (LR (s':=⟨45,[(4,.ptr 4 0),(5,.own 3000),(1000001,pT),(1000002,bV),(1000003,bV)],[(4,.cells 92 (f90z0 x1 x2)),(3000,bR [])],[],0⟩))) ?_;obtain rfl:=aaD h;refine aaX (LR (s':=⟨45,[(4,.ptr 4 0),(5,.own 3000)],[(3000,bR []),(4,.cells 92 (f90z0 x1 x2))],[],0⟩)) ?_;refine aaG (tR ?_);exact bD
 ·replace h:=aG hc1 h;refine aaF (tN (aN [] [] [2,4,6,8,1000001,1000002,1000003] [2,4,6] trivial ?_));obtain⟨K1,hK1,h⟩:=aO h;refine aaU (fun(x:Ty6×(f90z8)×(f90z8))=>match x with|(l10,l11,l12)=>⟨45,[(2,.ptr 2 0),(4,.ptr 4 0),(8,.own 5008),(1000001,pT),(1000002,bV),(1000003,bV)],[(2,.cells 92 (f90z5 l10 l11)),(4,.cells 92 [.nils,.nils]),(5008,bR l12)],[],0⟩) (fun x=>K1 x=some r) ?_ ?_
  ·refine bJ [] [] ⟨45,[(2,.ptr 2 0),(4,.ptr 4 0),(8,.nils),(21,bC r4.2.2.1),(22,.i (lZ r4.2.2.1)),(23,.i (0:Int)),(1000001,pT),(1000002,bV),(1000003,bV)],[(2,.cells 92 (f90z0 x1 x2)),(4,.cells 92 [.nils,.nils])],[],0⟩ trivial ?_;refine aaJ (abI (α:=Nat×(Nat×Ty6×(f90z8)×(f90z8))) (fun x=>match x with|(_,n5,l6,l7,l8)=>⟨45,(f90z2 r4 n5),(f90z10 l6 l7 l8),[],0⟩) (fun x=>nA r4 K1 x.1 x.2=some r) (fun x=>x.1) (bB,0,x1,x2,[]) (aaL (aaL (adM 8 5008 98 3 (cE bX aZ []) rfl rfl (aaW rfl)) (LR (s':=⟨45,[(2,.ptr 2 0),(4,.ptr 4 0),(8,.own 5008),(21,bC r4.2.2.1),(22,.i (lZ r4.2.2.1)),(23,.i (0:Int)),(1000001,pT),(1000002,bV),(1000003,bV)],[(2,.cells 92 (f90z0 x1 x2)),(4,.cells 92 [.nils,.nils]),(5008,bR [])],[],0⟩))) LR) h ?_)
   rintro⟨k0,n5,l6,l7,l8⟩ h
   cases k0 with
   |zero=>exact nEx h
   |succ k0=>
   obtain⟨C0,hC0⟩:∃C,C=nA r4 K1 k0:=⟨_,rfl⟩;replace h:=(nA.eq_2 ..).symm.trans h
   try rw[<-hC0]at h
   refine aN [] [] [2,4,8,21,22,23,24,1000001,1000002,1000003] [2,4,5008] trivial ?_;refine aaE (cK (decide ((n5:Int)<(lZ r4.2.2.1))) (fun hc2=> ?_) fun hc2=> ?_)
   ·replace h:=aF hc2 h;refine aaF (tN (aaE (aaJ (aaE ?_))));obtain⟨ob0p,h⟩:=aB h;refine bG [] [] [2,4,8,10,21,22,23,1000001,1000002,1000003] [2,4,10,5008] (an2 (iN ob0p) trivial) ?_;refine tN (aN [] [] [2,4,8,10,21,22,23,1000001,1000002,1000003] [2,4,10,5008] trivial ?_);refine aaE ?_;obtain⟨r9,hr9,h⟩:=bind_ok h;refine bG [] [(2,⟨[.agg (f90z4 l6 l7),.agg (f90z7 r4 n5)],[],[],[],.tup [.agg (f90z3 r9),.str r9.2.2],[],[],[1]⟩)] [2,4,8,10,11,21,22,23,1000001,1000002,1000003] [2,4,10,5008] (an2 (cpT (f123_ok _ _ _ _ _ _ hr9)) trivial) ?_;refine tN ?_;obtain⟨ob1,h⟩:=aB h;refine bH [] [] ⟨45,(f90z2 r4 n5),[(2,.cells 92 (f90z3 r9)),(4,.cells 92 [.nils,.nils]),(5008,.rows 98 3 ((l8).length+1) (gK (l8).length (cE bX aZ l8) (dN 3 [.i (pL r4 n5).1,.i (pL r4 n5).2.1,.str r9.2.2])))],[],0⟩ (an1 ob1) ?_;refine kN (tN (aaX (acZ (s':=⟨45,(f90z2 r4 n5),(f90z9 r9 l8 r4 n5),[],0⟩) rfl rfl ⟨.refl _,.refl _,.refl _,.refl _,.refl _,.refl _,.refl _,.refl _,.refl _,trivial⟩ ⟨⟨_,rfl,.refl _⟩,⟨_,rfl,.refl _⟩,⟨_,rfl,(acK (adQ (acX _) (acV (enc:=bX) [((pL r4 n5).1,(pL r4 n5).2.1,r9.2.2)] rfl rfl (fun _=>rfl))))⟩,trivial⟩) ?_));obtain⟨ob2p,h⟩:=aB h;refine bG [] [] [2,4,8,21,22,23,1000001,1000002,1000003] [2,4,5008] (an1 (iP ob2p)) ?_;rw[hC0]at h;exact lN (_,(n5+1),r9.1,r9.2.1,(l8++[((pL r4 n5).1,(pL r4 n5).2.1,r9.2.2)])) LR h (aaK _)
   ·replace h:=aG hc2 h;refine abK (tE (tE (kS ?_)));exact jN (l6,l7,l8) LR h
  ·rintro⟨l10,l11,l12⟩ h;replace h:=(congrFun hK1 _).symm.trans h;refine bJ [] [] ⟨45,[(4,.ptr 4 0),(5,.own 5008),(1000001,pT),(1000002,bV),(1000003,bV)],[(4,.cells 92 (f90z5 l10 l11)),(5008,bR l12)],[],0⟩ (an1 trivial) ?_;refine aaX (aaL (acQ (aT 5008 3000) (aD 5008 3000) rfl) (LR (s':=⟨45,[(4,.ptr 4 0),(5,.own 3000),(1000001,pT),(1000002,bV),(1000003,bV)],[(4,.cells 92 (f90z5 l10 l11)),(3000,bR l12)],[],0⟩))) ?_;obtain rfl:=aaD h;refine aaX (LR (s':=⟨45,[(4,.ptr 4 0),(5,.own 3000)],[(3000,bR l12),(4,.cells 92 (f90z5 l10 l11))],[],0⟩)) ?_;refine aaG ?_;exact bD
def mZ (x1:List Ty1) (K1:(Ty6×Ty4)->Option (Ty6×Ty4)):Nat->(Nat×Ty6×Ty4)->Option (Ty6×Ty4)
 |0,_=>none
 |k+1,(n3,l4,l5)=>
  if(decide ((n3:Int)<(((x1).length:Nat):Int)))then(
  chk ((n3:Int)<(((x1).length:Nat):Int))<|
  (f90 l4 l5 (x1.getD n3 [])).bind fun r6=>
  chk (((n3:Int)+(1:Int))<=9223372036854775807)<|
  (mZ x1 K1 k) ((n3+1),r6.1,r6.2.1)
  )else(
  K1 (l4,l5)
  )
abbrev f91z0 (l4:List Tq2) (l5:List Tq0):aJ:=[(2,.cells 92 [.nils,.nils]),(3,.cells 92 [vL 3 cH (default:Tq2) l4,vL 3 bX (default:Tq0) l5])]
abbrev f91z1 (r2:Ty6×Ty4):List V:=[vL 3 cH (default:Tq2) r2.1,vL 3 bX (default:Tq0) r2.2]
abbrev f91z2 (r6:Ty6×Ty4×Ty4):List V:=[vL 3 cH (default:Tq2) r6.1,vL 3 bX (default:Tq0) r6.2.1]
abbrev f91z3 (l7:List Tq2) (l8:List Tq0):List V:=[vL 3 cH (default:Tq2) l7,vL 3 bX (default:Tq0) l8]
def f91 (x1:List Ty1):Option (Ty6×Ty4):=
 (f124).bind fun r2=>
 jn (fun((l7,l8):Ty6×Ty4)=>
 some (l7,l8)
 ) fun(K1:(Ty6×Ty4)->Option (Ty6×Ty4))=>
 mZ x1 K1 bB (0,r2.1,r2.2)
theorem f91_ok (x1:List Ty1) (r:Ty6×Ty4) (h:f91 x1=some r):aE Tryz.prog 91 [(1,pT),(2,bV),(3,bV)] [] [] [vL 1 eS [] x1] (.agg [vL 3 cH (default:Tq2) r.1,vL 3 bX (default:Tq0) r.2]) []:=by
 unfold f91 at h;refine aE.bodyD [2] 0 _ _ Tryz.func91 rfl Tryz.ntmps91 rfl rfl ?_;refine aN [] [] [0,2,1000001,1000002,1000003] [2] trivial ?_;refine aaE ?_;obtain⟨r2,hr2,h⟩:=bind_ok h;refine bH [] [(0,⟨[],[],[],[],.agg (f91z1 r2),[],[],[]⟩)] ⟨21,[(0,eC x1),(2,.ptr 2 0),(3,.ptr 3 0),(1000001,pT),(1000002,bV),(1000003,bV)],[(2,.cells 92 [.nils,.nils]),(3,.cells 92 (f91z1 r2))],[],0⟩ (an2 (cpT (f124_ok _ hr2)) trivial) ?_;refine tN ?_;obtain⟨K1,hK1,h⟩:=aO h;refine aaU (fun(x:Ty6×Ty4)=>match x with|(l7,l8)=>⟨21,[(2,.ptr 2 0),(3,.ptr 3 0),(1000001,pT),(1000002,bV),(1000003,bV)],[(2,.cells 92 [.nils,.nils]),(3,.cells 92 (f91z3 l7 l8))],[],0⟩) (fun x=>K1 x=some r) ?_ ?_
 ·refine aN [] [] [2,3,7,8,9,1000001,1000002,1000003] [2,3] trivial ?_;refine aaJ (abI (α:=Nat×(Nat×Ty6×Ty4)) (fun x=>match x with|(_,n3,l4,l5)=>⟨21,[(2,.ptr 2 0),(3,.ptr 3 0),(7,eC x1),(8,.i (lZ x1)),(9,.i (n3:Int)),(1000001,pT),(1000002,bV),(1000003,bV)],(f91z0 l4 l5),[],0⟩) (fun x=>mZ x1 K1 x.1 x.2=some r) (fun x=>x.1) (bB,0,r2.1,r2.2) LR h ?_)
  rintro⟨k0,n3,l4,l5⟩ h
  cases k0 with
  |zero=>exact nEx h
  |succ k0=>
  obtain⟨C0,hC0⟩:∃C,C=mZ x1 K1 k0:=⟨_,rfl⟩;replace h:=(mZ.eq_2 ..).symm.trans h
  try rw[<-hC0]at h
  refine aN [] [] [2,3,7,8,9,10,1000001,1000002,1000003] [2,3] trivial ?_;refine aaE (cK (decide ((n3:Int)<(lZ x1))) (fun hc1=> ?_) fun hc1=> ?_)
  ·replace h:=aF hc1 h;refine aaF (tN (aaE (aaJ (aaE ?_))));obtain⟨ob0p,h⟩:=aB h;refine bG [] [] [2,3,5,7,8,9,1000001,1000002,1000003] [2,3] (an1 (iN ob0p)) ?_;refine tN ?_;obtain⟨r6,hr6,h⟩:=bind_ok h;refine bH [] [(2,⟨[.agg [aY l4,bC l5],.str (x1.getD n3 [])],[],[],[(6001,bR r6.2.2)],.tup [.agg (f91z2 r6),.own 6001],[6001],[],[1,2,3]⟩)] ⟨21,[(2,.ptr 2 0),(3,.ptr 3 0),(7,eC x1),(8,.i (lZ x1)),(9,.i (n3:Int)),(1000001,pT),(1000002,bV),(1000003,bV)],[(2,.cells 92 [.nils,.nils]),(3,.cells 92 (f91z2 r6))],[],0⟩ (an2 (cpT (aE.ren (aT 3000 6001) (aD 3000 6001) rfl (f90_ok _ _ _ _ hr6))) trivial) ?_;refine kN (tN ?_);obtain⟨ob1p,h⟩:=aB h;refine bG [] [] [2,3,7,8,9,1000001,1000002,1000003] [2,3] (an1 (iP ob1p)) ?_;rw[hC0]at h;exact lN (_,(n3+1),r6.1,r6.2.1) LR h (aaK _)
  ·replace h:=aG hc1 h;refine abK (tE (tE (kS ?_)));exact jN (l4,l5) LR h
 ·rintro⟨l7,l8⟩ h;replace h:=(congrFun hK1 _).symm.trans h;refine aN [] [] [2] [2] (an1 trivial) ?_;obtain rfl:=aaD h;refine aaG ?_;exact bD
abbrev f93z0 (x4 x5 x6 x7 x8:Int) (x9 x10:aaA):List V:=[.i x4,.i x5,.i x6,.i x7,.i x8,.str x9,.str x10,.opq,.opq,.opq,.opq,.opq,.opq,.opq,.opq,.opq,.opq,.opq,.opq,.opq,.opq,.opq,.opq,.opq,.opq,.opq,.opq,.opq]
def f93 (x1 x2:Int) (x3:aaA) (x4 x5 x6 x7 x8:Int) (x9 x10:aaA):Option (Bool×Int×Int×Int×Int×Int×aaA×aaA):=
 some (((x1==x6)&&(x2==x8)),x4,x5,x6,x7,x8,x9,x10)
theorem f93_ok (x1 x2:Int) (x3:aaA) (x4 x5 x6 x7 x8:Int) (x9 x10:aaA) (r:Bool×Int×Int×Int×Int×Int×aaA×aaA) (h:f93 x1 x2 x3 x4 x5 x6 x7 x8 x9 x10=some r):aE Tryz.prog 93 [] [2000] [(2000,.cells 51 [.i x4,.i x5,.i x6,.i x7,.i x8,.str x9,.str x10,.opq,.opq,.opq,.opq,.opq,.opq,.opq,.opq,.opq,.opq,.opq,.opq,.opq,.opq,.opq,.opq,.opq,.opq,.opq,.opq,.opq])] [.agg [.i x1,.i x2,.str x3],.ptr 2000 0] (.bool r.1) [(2000,.cells 51 [.i r.2.1,.i r.2.2.1,.i r.2.2.2.1,.i r.2.2.2.2.1,.i r.2.2.2.2.2.1,.str r.2.2.2.2.2.2.1,.str r.2.2.2.2.2.2.2,.opq,.opq,.opq,.opq,.opq,.opq,.opq,.opq,.opq,.opq,.opq,.opq,.opq,.opq,.opq,.opq,.opq,.opq,.opq,.opq,.opq])]:=by
 unfold f93 at h;refine aE.body 0 _ _ Tryz.func93 rfl Tryz.ntmps93 rfl rfl ?_;refine aN [] [] [1,2] [2,2000] trivial ?_;refine aaE (bH [] [] ⟨16,[(3,.bool ((x1==x6)&&(x2==x8)))],[(2000,.cells 51 (f93z0 x4 x5 x6 x7 x8 x9 x10))],[2000],0⟩ (an4 (an1 (idA (((x1==x6)==true)=true))) (an1 (idA (((x1==x6)==true)=true))) (an2 (idA (((x1==x6)==true)=true)) (idA (((x1==x6)==true)=true))) (bqA (x1==x6) true)) ?_);refine tN ?_;obtain rfl:=aaD h;refine aaG ?_;exact bK
def iU (x1:List Tq0) (K1:Tq10->Option Tq11):Nat->(Nat×Int×Int×Int×Int×Int×aaA×aaA)->Option Tq11
 |0,_=>none
 |k+1,(n9,i10,i11,i12,i13,i14,s15,s16)=>
  if(decide ((n9:Int)<(((x1).length:Nat):Int)))then(
  (f93 ((x1.getD n9 (default:Tq0)).1) ((x1.getD n9 (default:Tq0)).2.1) ((x1.getD n9 (default:Tq0)).2.2) i10 i11 i12 i13 i14 s15 s16).bind fun r17=>
  chk ((n9:Int)<(((x1).length:Nat):Int))<|
  if r17.1 then(
  some ((n9:Int),r17.2.1,r17.2.2.1,r17.2.2.2.1,r17.2.2.2.2.1,r17.2.2.2.2.2.1,r17.2.2.2.2.2.2.1,r17.2.2.2.2.2.2.2)
  )else(
  chk (((n9:Int)+(1:Int))<=9223372036854775807)<|
  (iU x1 K1 k) ((n9+1),r17.2.1,r17.2.2.1,r17.2.2.2.1,r17.2.2.2.2.1,r17.2.2.2.2.2.1,r17.2.2.2.2.2.2.1,r17.2.2.2.2.2.2.2)
  )
  )else(
  K1 (i10,i11,i12,i13,i14,s15,s16)
  )
abbrev f92z0 (r17:Bool×Int×Int×Int×Int×Int×aaA×aaA):aJ:=[(2000,.cells 51 [.i r17.2.1,.i r17.2.2.1,.i r17.2.2.2.1,.i r17.2.2.2.2.1,.i r17.2.2.2.2.2.1,.str r17.2.2.2.2.2.2.1,.str r17.2.2.2.2.2.2.2,.opq,.opq,.opq,.opq,.opq,.opq,.opq,.opq,.opq,.opq,.opq,.opq,.opq,.opq,.opq,.opq,.opq,.opq,.opq,.opq,.opq])]
abbrev f92z1 (i10 i11 i12 i13 i14:Int) (s15 s16:aaA):aJ:=[(2000,.cells 51 [.i i10,.i i11,.i i12,.i i13,.i i14,.str s15,.str s16,.opq,.opq,.opq,.opq,.opq,.opq,.opq,.opq,.opq,.opq,.opq,.opq,.opq,.opq,.opq,.opq,.opq,.opq,.opq,.opq,.opq])]
abbrev f92z2 (x2 x3 x4 x5 x6:Int) (x7 x8:aaA):aJ:=[(2000,.cells 51 [.i x2,.i x3,.i x4,.i x5,.i x6,.str x7,.str x8,.opq,.opq,.opq,.opq,.opq,.opq,.opq,.opq,.opq,.opq,.opq,.opq,.opq,.opq,.opq,.opq,.opq,.opq,.opq,.opq,.opq])]
abbrev f92z3 (i18 i19 i20 i21 i22:Int) (s23 s24:aaA):aJ:=[(2000,.cells 51 [.i i18,.i i19,.i i20,.i i21,.i i22,.str s23,.str s24,.opq,.opq,.opq,.opq,.opq,.opq,.opq,.opq,.opq,.opq,.opq,.opq,.opq,.opq,.opq,.opq,.opq,.opq,.opq,.opq,.opq])]
def f92 (x1:List Tq0) (x2 x3 x4 x5 x6:Int) (x7 x8:aaA):Option Tq11:=
 jn (fun((i18,i19,i20,i21,i22,s23,s24):Tq10)=>
 some ((-1:Int),i18,i19,i20,i21,i22,s23,s24)
 ) fun(K1:Tq10->Option Tq11)=>
 iU x1 K1 bB (0,x2,x3,x4,x5,x6,x7,x8)
theorem f92_ok (x1:List Tq0) (x2 x3 x4 x5 x6:Int) (x7 x8:aaA) (r:Tq11) (h:f92 x1 x2 x3 x4 x5 x6 x7 x8=some r):aE Tryz.prog 92 [] [2000] [(2000,.cells 51 [.i x2,.i x3,.i x4,.i x5,.i x6,.str x7,.str x8,.opq,.opq,.opq,.opq,.opq,.opq,.opq,.opq,.opq,.opq,.opq,.opq,.opq,.opq,.opq,.opq,.opq,.opq,.opq,.opq,.opq])] [vL 3 bX (default:Tq0) x1,.fn (.func 93) [.ptr 2000 0]] (.i r.1) [(2000,.cells 51 [.i r.2.1,.i r.2.2.1,.i r.2.2.2.1,.i r.2.2.2.2.1,.i r.2.2.2.2.2.1,.str r.2.2.2.2.2.2.1,.str r.2.2.2.2.2.2.2,.opq,.opq,.opq,.opq,.opq,.opq,.opq,.opq,.opq,.opq,.opq,.opq,.opq,.opq,.opq,.opq,.opq,.opq,.opq,.opq,.opq])]:=by
 unfold f92 at h;refine aE.body 0 _ _ Tryz.func92 rfl Tryz.ntmps92 rfl rfl ?_;refine aN [] [] [0,1] [2000] trivial ?_;obtain⟨K1,hK1,h⟩:=aO h;refine aaU (fun(x:Tq10)=>match x with|(i18,i19,i20,i21,i22,s23,s24)=>⟨19,[],(f92z3 i18 i19 i20 i21 i22 s23 s24),[2000],0⟩) (fun x=>K1 x=some r) ?_ ?_
 ·refine bJ [] [] ⟨19,[(0,bC x1),(1,.fn (.func 93) [.ptr 2000 0]),(7,.i (lZ x1)),(8,.i (0:Int))],(f92z2 x2 x3 x4 x5 x6 x7 x8),[2000],0⟩ trivial ?_;refine aaJ (abI (α:=Nat×(Nat×Int×Int×Int×Int×Int×aaA×aaA)) (fun x=>match x with|(_,n9,i10,i11,i12,i13,i14,s15,s16)=>⟨19,[(0,bC x1),(1,.fn (.func 93) [.ptr 2000 0]),(7,.i (lZ x1)),(8,.i (n9:Int))],(f92z1 i10 i11 i12 i13 i14 s15 s16),[2000],0⟩) (fun x=>iU x1 K1 x.1 x.2=some r) (fun x=>x.1) (bB,0,x2,x3,x4,x5,x6,x7,x8) LR h ?_)
  rintro⟨k0,n9,i10,i11,i12,i13,i14,s15,s16⟩ h
  cases k0 with
  |zero=>exact nEx h
  |succ k0=>
  obtain⟨C0,hC0⟩:∃C,C=iU x1 K1 k0:=⟨_,rfl⟩;replace h:=(iU.eq_2 ..).symm.trans h
  try rw[<-hC0]at h
  refine aN [] [] [0,1,7,8,9] [2000] trivial ?_;refine aaE (cK (decide ((n9:Int)<(lZ x1))) (fun hc1=> ?_) fun hc1=> ?_)
  ·replace h:=aF hc1 h;refine aaF (tN (aaE (aaJ (aN [] [] [0,1,5,7,8] [2000] trivial ?_))));refine aaE ?_;obtain⟨r17,hr17,h⟩:=bind_ok h;obtain⟨ob0p,h⟩:=aB h;refine bH [] [(5,⟨[.agg [.i (x1.getD n9 aZ).1,.i (x1.getD n9 aZ).2.1,.str (x1.getD n9 aZ).2.2],.ptr 2000 0],[2000],[2000],(f92z0 r17),.bool r17.1,[],[],[]⟩)] ⟨19,[(0,bC x1),(1,.fn (.func 93) [.ptr 2000 0]),(5,.i (n9:Int)),(7,.i (lZ x1)),(8,.i (n9:Int)),(16,.bool r17.1)],(f92z0 r17),[2000],0⟩ (an2 (iN ob0p) (cpT (f93_ok _ _ _ _ _ _ _ _ _ _ _ hr17))) ?_;refine tN (cK r17.1 (fun hc2=> ?_) fun hc2=> ?_)
   ·replace h:=aF hc2 h;refine aN [] [] [4] [2000] trivial ?_;obtain rfl:=aaD h;refine aaG (kR (tR (tR (kR (aS ?_)))));exact bK
   ·replace h:=aG hc2 h;refine aaF (kN (tN ?_));obtain⟨ob1p,h⟩:=aB h;refine bH [] [] ⟨19,[(0,bC x1),(1,.fn (.func 93) [.ptr 2000 0]),(7,.i (lZ x1)),(8,.i (((n9+1):Nat):Int))],(f92z0 r17),[2000],0⟩ (an1 (iP ob1p)) ?_;rw[hC0]at h;exact lN (_,(n9+1),r17.2.1,r17.2.2.1,r17.2.2.2.1,r17.2.2.2.2.1,r17.2.2.2.2.2.1,r17.2.2.2.2.2.2.1,r17.2.2.2.2.2.2.2) LR h (aaK _)
  ·replace h:=aG hc1 h;refine abK (tE (tE (kS ?_)));exact jN (i10,i11,i12,i13,i14,s15,s16) LR h
 ·rintro⟨i18,i19,i20,i21,i22,s23,s24⟩ h;replace h:=(congrFun hK1 _).symm.trans h;refine aN [] [] [4] [2000] trivial ?_;obtain rfl:=aaD h;refine aaG ?_;exact bK
def kC (x3 x4:Int) (x8:List Tq5) (x9:List Tq3) (x10:List Ty0) (x11:List Tq1) (x12:List Ty0) (x13:List iB) (x14:List gZ) (K1:(List Ty1)->Option Ty8):Nat->(Nat×List Ty1)->Option Ty8
 |0,_=>none
 |k+1,(n17,l18)=>
  if(decide ((n17:Int)<x4))then(
  if(!(hM x10 (((12:Int)+x3),(n17:Int))))then(
  some (false,x8,x9,x10,x11,x12,x13,x14)
  )else(
  chk (((l18).length+1) *16<=140737488355328)<|
  chk (((n17:Int)+(1:Int))<=9223372036854775807)<|
  (kC x3 x4 x8 x9 x10 x11 x12 x13 x14 K1 k) ((n17+1),(l18++[(gM x10 [] (((12:Int)+x3),(n17:Int)))]))
  )
  )else(
  K1 l18
  )
abbrev aBG (x1 x2 x3 x4 x5:Int) (x6 x7:aaA):List V:=[.i x1,.i x2,.i x3,.i x4,.i x5,.str x6,.str x7,.opq,.opq,.opq,.opq,.opq,.opq,.opq,.opq,.opq,.opq,.opq,.opq,.opq,.opq,.opq,.opq,.opq,.opq,.opq,.opq,.opq]
abbrev yR :List V:=[.own 2001,.own 2002,.own 2003,.own 2004,.own 2005,.own 2006,.own 2007]
abbrev f66z2 (x1 x2 x3 x4 x5:Int) (x6 x7:aaA) (x8:List Tq5) (x9:List Tq3) (x10:List Ty0) (x11:List Tq1) (x12:List Ty0) (x13:List iB) (x14:List gZ) (l18:List Ty1):aJ:=[(3,.cells 51 (aBG x1 x2 x3 x4 x5 x6 x7)),(2000,.cells 115 (yR)),(2001,bP (V.int .i64) 0 cY [] x8),(2002,bP (V.int .i64) 0 dD false x9),(2003,bP aI (default:Tq1) bU [] x10),(2004,bP (V.int .i64) 0 dC 0 x11),(2005,bP aI (default:Tq1) bU [] x12),(2006,bP bF (default:Tq0) dG false x13),(2007,bP bE (default:Tq1) dF false x14),(5013,bL 9 1 eS [] l18)]
abbrev f66z3 (x1 x2 x3 x4 x5:Int) (x6 x7:aaA) (x8:List Tq5) (x9:List Tq3) (x10:List Ty0) (x11:List Tq1) (x12:List Ty0) (x13:List iB) (x14:List gZ):aJ:=[(3,.cells 51 (aBG x1 x2 x3 x4 x5 x6 x7)),(2000,.cells 115 (yR)),(2001,bP (V.int .i64) 0 cY [] x8),(2002,bP (V.int .i64) 0 dD false x9),(2003,bP aI (default:Tq1) bU [] x10),(2004,bP (V.int .i64) 0 dC 0 x11),(2005,bP aI (default:Tq1) bU [] x12),(2006,bP bF (default:Tq0) dG false x13),(2007,bP bE (default:Tq1) dF false x14)]
abbrev f66z4 (x8:List Tq5) (x9:List Tq3) (x10:List Ty0) (x11:List Tq1) (x12:List Ty0) (x13:List iB) (x14:List gZ):aJ:=[(2000,.cells 115 (yR)),(2001,bP (V.int .i64) 0 cY [] x8),(2002,bP (V.int .i64) 0 dD false x9),(2003,bP aI (default:Tq1) bU [] x10),(2004,bP (V.int .i64) 0 dC 0 x11),(2005,bP aI (default:Tq1) bU [] x12),(2006,bP bF (default:Tq0) dG false x13),(2007,bP bE (default:Tq1) dF false x14)]
abbrev kO (x14:List gZ) (x3 x5:Int) (x12:List Ty0):=((gM x14 false (x3,x5))||(!(hM x12 (x3,x5))))
abbrev f66z6 (x1 x2 x3 x4 x5:Int) (x6 x7:aaA) (x8:List Tq5) (x9:List Tq3) (x10:List Ty0) (x11:List Tq1) (x12:List Ty0) (x13:List iB) (x14:List gZ) (l18:List Ty1) (n17:Nat):aJ:=[(3,.cells 51 (aBG x1 x2 x3 x4 x5 x6 x7)),(2000,.cells 115 (yR)),(2001,bP (V.int .i64) 0 cY [] x8),(2002,bP (V.int .i64) 0 dD false x9),(2003,bP aI (default:Tq1) bU [] x10),(2004,bP (V.int .i64) 0 dC 0 x11),(2005,bP aI (default:Tq1) bU [] x12),(2006,bP bF (default:Tq0) dG false x13),(2007,bP bE (default:Tq1) dF false x14),(5013,bL 9 1 eS [] (l18++[(gM x10 [] (((12:Int)+x3),(n17:Int)))]))]
abbrev f66z8 (x3:Int) (x10:List Ty0) (x4:Int) (n17:Nat):List (Nat×V):=[(0,.ptr 2000 0),(3,.ptr 3 0),(6,.i ((12:Int)+x3)),(9,.str (gM x10 [] (((12:Int)+x3),x4))),(13,.own 5013),(85,.i x4),(86,.i (n17:Int)),(1000001,pT),(1000002,bV),(1000003,bV)]
abbrev wB (r22:Tq11):=((decide (r22.1>=(0:Int)))==true)
abbrev iX (r15:Int×Int×Ty4×Int):=(r15.2.2.2 !=(0:Int))
abbrev f66z11 (x10:List Ty0) (x3 x4:Int):List (Nat×V):=[(3,.ptr 3 0),(9,.str (gM x10 [] (((12:Int)+x3),x4))),(13,.own 5013),(1000001,pT),(1000002,bV),(1000003,bV)]
def f66 (x1 x2 x3 x4 x5:Int) (x6 x7:aaA) (x8:List Tq5) (x9:List Tq3) (x10:List Ty0) (x11:List Tq1) (x12:List Ty0) (x13:List iB) (x14:List gZ):Option Ty8:=
 chk (-9223372036854775808<=((12:Int)+x3)/\((12:Int)+x3)<=9223372036854775807)<|
 (f68 (gM x10 [] (((12:Int)+x3),x4))).bind fun r15=>
 gB (((((gM x14 false (x3,x5))||(!(hM x12 (x3,x5))))||(!(hM x10 (((12:Int)+x3),x4))))||(r15.2.2.2 !=(0:Int)))==false) (f89 r15.2.2.1 x3 x5 (gM x12 [] (x3,x5))) fun r16=>
 if(((((gM x14 false (x3,x5))||(!(hM x12 (x3,x5))))||(!(hM x10 (((12:Int)+x3),x4))))||(r15.2.2.2 !=(0:Int)))||(!r16))then(
 some (false,x8,x9,x10,x11,x12,x13,x14)
 )else(
 jn (fun(l19:List Ty1)=>
 (f91 l19).bind fun r20=>
 (f90 r20.1 r20.2 (gM x10 [] (((12:Int)+x3),x4))).bind fun r21=>
 (f92 r21.2.2 x1 x2 x3 x4 x5 x6 x7).bind fun r22=>
 chk (((decide (r22.1>=(0:Int)))==true)=true->0<=r22.1/\r22.1<(((r21.2.2).length:Nat):Int))<|
 chk (((decide (r22.1>=(0:Int)))==true)=true->((r22.1).toNat)<(r21.2.2).length)<|
 some (((decide (r22.1>=(0:Int)))&&(((r21.2.2.getD ((r22.1).toNat) (default:Tq0)).2.2)==r22.2.2.2.2.2.2.2)),x8,x9,x10,x11,x12,x13,x14)
 ) fun(K1:(List Ty1)->Option Ty8)=>
 kC x3 x4 x8 x9 x10 x11 x12 x13 x14 K1 bB (0,[])
 )
theorem f66_ok (x1 x2 x3 x4 x5:Int) (x6 x7:aaA) (x8:List Tq5) (x9:List Tq3) (x10:List Ty0) (x11:List Tq1) (x12:List Ty0) (x13:List iB) (x14:List gZ) (r:Bool×gN×gL×Ty5×iA×Ty5×Ty2×Ty3) (h:f66 x1 x2 x3 x4 x5 x6 x7 x8 x9 x10 x11 x12 x13 x14=some r):aE Tryz.prog 66 [(1,pT),(2,bV),(3,bV)] [2000] [(2000,.cells 115 [.own 2001,.own 2002,.own 2003,.own 2004,.own 2005,.own 2006,.own 2007]),(2001,bP (V.int .i64) 0 cY [] x8),(2002,bP (V.int .i64) 0 dD false x9),(2003,bP aI (default:Tq1) bU [] x10),(2004,bP (V.int .i64) 0 dC 0 x11),(2005,bP aI (default:Tq1) bU [] x12),(2006,bP bF (default:Tq0) dG false x13),(2007,bP bE (default:Tq1) dF false x14)] [.ptr 2000 0,.agg [.i x1,.i x2,.i x3,.i x4,.i x5,.str x6,.str x7,.opq,.opq,.opq,.opq,.opq,.opq,.opq,.opq,.opq,.opq,.opq,.opq,.opq,.opq,.opq,.opq,.opq,.opq,.opq,.opq,.opq]] (.bool r.1) [(2000,.cells 115 [.own 2001,.own 2002,.own 2003,.own 2004,.own 2005,.own 2006,.own 2007]),(2001,bP (V.int .i64) 0 cY [] r.2.1),(2002,bP (V.int .i64) 0 dD false r.2.2.1),(2003,bP aI (default:Tq1) bU [] r.2.2.2.1),(2004,bP (V.int .i64) 0 dC 0 r.2.2.2.2.1),(2005,bP aI (default:Tq1) bU [] r.2.2.2.2.2.1),(2006,bP bF (default:Tq0) dG false r.2.2.2.2.2.2.1),(2007,bP bE (default:Tq1) dF false r.2.2.2.2.2.2.2)]:=by
 unfold f66 at h;refine aE.body 0 _ _ Tryz.func66 rfl Tryz.ntmps66 rfl rfl ?_;refine aN [] [] [0,3,1000001,1000002,1000003] [3,2000,2001,2002,2003,2004,2005,2006,2007] trivial ?_;refine aaE ?_;obtain⟨ob0,h⟩:=aB h;refine bG [] [] [0,3,5,6,1000001,1000002,1000003] [3,5,2000,2001,2002,2003,2004,2005,2006,2007] (an2 ob0 trivial) ?_;refine tN ?_;refine aN [] [(5,⟨[.own 2005,.agg [.i x3,.i x5]],[2005],[2005],[(2005,bP aI bN bU [] x12)],.tup [.str (gM x12 [] (x3,x5)),.bool (hM x12 (x3,x5))],[],[],[]⟩)] [0,3,5,6,7,8,1000001,1000002,1000003] [3,5,2000,2001,2002,2003,2004,2005,2006,2007] (an1 (aaM (dW (P:=Tryz.prog) Tryz.underlying110 aI yD bN bU [] [] (by kernel_rfl) (.tmp 32) (.tmp 33) 118 2005 x12 (x3,x5)) (eF.same [.own 2005,.agg [.i x3,.i x5]]))) ?_;refine aN [] [(8,⟨[.own 2003,.agg [.i ((12:Int)+x3),.i x4]],[2003],[2003],[(2003,bP aI bN bU [] x10)],.tup [.str (gM x10 [] (((12:Int)+x3),x4)),.bool (hM x10 (((12:Int)+x3),x4))],[],[],[]⟩)] [0,3,5,6,7,8,9,10,1000001,1000002,1000003] [3,5,2000,2001,2002,2003,2004,2005,2006,2007] (an1 (aaM (dW (P:=Tryz.prog) Tryz.underlying110 aI yD bN bU [] [] (by kernel_rfl) (.tmp 41) (.tmp 45) 118 2003 x10 (((12:Int)+x3),x4)) (eF.same [.own 2003,.agg [.i ((12:Int)+x3),.i x4]]))) ?_;refine aaE ?_;obtain⟨r15,hr15,h⟩:=bind_ok h;refine bG [] [(1,⟨[.str (gM x10 [] (((12:Int)+x3),x4))],[],[],[],.tup [.agg [.i r15.1,.i r15.2.1,bC r15.2.2.1],.i r15.2.2.2],[],[],[1,2,3]⟩)] [0,3,5,6,7,8,9,10,11,12,1000001,1000002,1000003] [3,5,11,2000,2001,2002,2003,2004,2005,2006,2007] (an2 (cpT (f68_ok _ _ hr15)) trivial) ?_;refine tN (aaE (aaE ?_));obtain⟨r16,hr16,h⟩:=cF h;refine bG [] [(5,⟨[.own 2007,.agg [.i x3,.i x5]],[2007],[2007],[(2007,bP bE bN dF false x14)],.bool (gM x14 false (x3,x5)),[],[],[]⟩),(27,⟨[bC r15.2.2.1,.agg [.i x3,.i x5,.str (gM x12 [] (x3,x5))]],[],[],[],.bool r16,[],[],[]⟩)] [0,3,6,9,83,1000001,1000002,1000003] [3,2000,2001,2002,2003,2004,2005,2006,2007] (ac6 (aaM (eH (P:=Tryz.prog) Tryz.underlying113 bE kE113 bN dF false false (by kernel_rfl) (.tmp 57) (.tmp 58) 4 2007 x14 (x3,x5)) (eF.same [.own 2007,.agg [.i x3,.i x5]])) (an1 (idA (((gM x14 false (x3,x5))==false)=true))) (bqA (gM x14 false (x3,x5)) false) (an1 (idA (((kO x14 x3 x5 x12)==false)=true))) (bqA (kO x14 x3 x5 x12) false) (an1 (idA ((((kO x14 x3 x5 x12)||(!(hM x10 (((12:Int)+x3),x4))))==false)=true))) (ac6 (bqA ((kO x14 x3 x5 x12)||(!(hM x10 (((12:Int)+x3),x4)))) false) (an1 (idA (((((kO x14 x3 x5 x12)||(!(hM x10 (((12:Int)+x3),x4))))||(iX r15))==false)=true))) (an1 (idA (((((kO x14 x3 x5 x12)||(!(hM x10 (((12:Int)+x3),x4))))||(iX r15))==false)=true))) (an1 (idA (((((kO x14 x3 x5 x12)||(!(hM x10 (((12:Int)+x3),x4))))||(iX r15))==false)=true))) (an3 (idA (((((kO x14 x3 x5 x12)||(!(hM x10 (((12:Int)+x3),x4))))||(iX r15))==false)=true)) (idA (((((kO x14 x3 x5 x12)||(!(hM x10 (((12:Int)+x3),x4))))||(iX r15))==false)=true)) (idA (((((kO x14 x3 x5 x12)||(!(hM x10 (((12:Int)+x3),x4))))||(iX r15))==false)=true))) (aaM (cpC fun hc=>(f89_ok _ _ _ _ _ (hr16 hc))) (an2 (idA (((((kO x14 x3 x5 x12)||(!(hM x10 (((12:Int)+x3),x4))))||(iX r15))==false)=true)) (idA (((((kO x14 x3 x5 x12)||(!(hM x10 (((12:Int)+x3),x4))))||(iX r15))==false)=true)))) (an2 (an1 (idA (((((kO x14 x3 x5 x12)||(!(hM x10 (((12:Int)+x3),x4))))||(iX r15))==false)=true))) (bqA (((kO x14 x3 x5 x12)||(!(hM x10 (((12:Int)+x3),x4))))||(iX r15)) false)))) ?_;refine tN (cK ((((kO x14 x3 x5 x12)||(!(hM x10 (((12:Int)+x3),x4))))||(iX r15))||(!r16)) (fun hc1=> ?_) fun hc1=> ?_)
 ·replace h:=aF hc1 h;refine bJ [] [] ⟨129,[(4,.bool false)],(f66z4 x8 x9 x10 x11 x12 x13 x14),[2000],0⟩ trivial ?_;obtain rfl:=aaD h;refine aaG (tR ?_);exact bK
 ·replace h:=aG hc1 h;refine aaF (tN (aN [] [] [0,3,6,9,13,1000001,1000002,1000003] [3,2000,2001,2002,2003,2004,2005,2006,2007] trivial ?_));obtain⟨K1,hK1,h⟩:=aO h;refine aaU (α:=List Ty1) (fun(l19:List Ty1)=>⟨129,(f66z11 x10 x3 x4),[(3,.cells 51 (aBG x1 x2 x3 x4 x5 x6 x7)),(2000,.cells 115 (yR)),(2001,bP (V.int .i64) 0 cY [] x8),(2002,bP (V.int .i64) 0 dD false x9),(2003,bP aI bN bU [] x10),(2004,bP (V.int .i64) 0 dC 0 x11),(2005,bP aI bN bU [] x12),(2006,bP bF aZ dG false x13),(2007,bP bE bN dF false x14),(5013,aK l19)],[2000],0⟩) (fun x=>K1 x=some r) ?_ ?_
  ·refine bJ [] [] ⟨129,[(0,.ptr 2000 0),(3,.ptr 3 0),(6,.i ((12:Int)+x3)),(9,.str (gM x10 [] (((12:Int)+x3),x4))),(13,.nils),(85,.i x4),(86,.i (0:Int)),(1000001,pT),(1000002,bV),(1000003,bV)],(f66z3 x1 x2 x3 x4 x5 x6 x7 x8 x9 x10 x11 x12 x13 x14),[2000],0⟩ trivial ?_;refine aaJ (abI (α:=Nat×(Nat×List Ty1)) (fun x=>match x with|(_,n17,l18)=>⟨129,(f66z8 x3 x10 x4 n17),(f66z2 x1 x2 x3 x4 x5 x6 x7 x8 x9 x10 x11 x12 x13 x14 l18),[2000],0⟩) (fun x=>kC x3 x4 x8 x9 x10 x11 x12 x13 x14 K1 x.1 x.2=some r) (fun x=>x.1) (bB,0,[]) (aaL (aaL (adM 13 5013 9 1 (cE eS [] []) rfl rfl (aaW rfl)) (LR (s':=⟨129,[(0,.ptr 2000 0),(3,.ptr 3 0),(6,.i ((12:Int)+x3)),(9,.str (gM x10 [] (((12:Int)+x3),x4))),(13,.own 5013),(85,.i x4),(86,.i (0:Int)),(1000001,pT),(1000002,bV),(1000003,bV)],[(3,.cells 51 (aBG x1 x2 x3 x4 x5 x6 x7)),(2000,.cells 115 (yR)),(2001,bP (V.int .i64) 0 cY [] x8),(2002,bP (V.int .i64) 0 dD false x9),(2003,bP aI bN bU [] x10),(2004,bP (V.int .i64) 0 dC 0 x11),(2005,bP aI bN bU [] x12),(2006,bP bF aZ dG false x13),(2007,bP bE bN dF false x14),(5013,aK [])],[2000],0⟩))) LR) h ?_)
   rintro⟨k0,n17,l18⟩ h
   cases k0 with
   |zero=>exact nEx h
   |succ k0=>
   obtain⟨C0,hC0⟩:∃C,C=kC x3 x4 x8 x9 x10 x11 x12 x13 x14 K1 k0:=⟨_,rfl⟩;replace h:=(kC.eq_2 ..).symm.trans h
   try rw[<-hC0]at h
   refine aN [] [] [0,3,6,9,13,85,86,87,1000001,1000002,1000003] [3,2000,2001,2002,2003,2004,2005,2006,2007,5013] trivial ?_;refine aaE (cK (decide ((n17:Int)<x4)) (fun hc2=> ?_) fun hc2=> ?_)
   ·replace h:=aF hc2 h;refine aaF (tN (aaE (aaJ (aN [] [] [0,3,6,9,13,14,85,86,1000001,1000002,1000003] [3,2000,2001,2002,2003,2004,2005,2006,2007,5013] trivial ?_))));refine aN [] [(7,⟨[.own 2003,.agg [.i ((12:Int)+x3),.i (n17:Int)]],[2003],[2003],[(2003,bP aI bN bU [] x10)],.tup [.str (gM x10 [] (((12:Int)+x3),(n17:Int))),.bool (hM x10 (((12:Int)+x3),(n17:Int)))],[],[],[]⟩)] [0,3,6,9,13,15,16,85,86,1000001,1000002,1000003] [3,2000,2001,2002,2003,2004,2005,2006,2007,5013] (an1 (aaM (dW (P:=Tryz.prog) Tryz.underlying110 aI yD bN bU [] [] (by kernel_rfl) (.tmp 93) (.tmp 96) 118 2003 x10 (((12:Int)+x3),(n17:Int))) (eF.same [.own 2003,.agg [.i ((12:Int)+x3),.i (n17:Int)]]))) ?_;refine aaE (aN [] [] [0,3,6,9,13,15,85,86,101,1000001,1000002,1000003] [3,2000,2001,2002,2003,2004,2005,2006,2007,5013] trivial ?_);refine cK (!(hM x10 (((12:Int)+x3),(n17:Int)))) (fun hc3=> ?_) fun hc3=> ?_
    ·replace h:=aF hc3 h;refine bJ [] [] ⟨129,[(4,.bool false)],(f66z4 x8 x9 x10 x11 x12 x13 x14),[2000],0⟩ trivial ?_;obtain rfl:=aaD h;refine aaG (tR (kR (tR (tR (kR (aS ?_))))));exact bK
    ·replace h:=aG hc3 h;refine aaF (tN ?_);obtain⟨ob17,h⟩:=aB h;refine bH [] [] ⟨129,(f66z8 x3 x10 x4 n17),[(3,.cells 51 (aBG x1 x2 x3 x4 x5 x6 x7)),(2000,.cells 115 (yR)),(2001,bP (V.int .i64) 0 cY [] x8),(2002,bP (V.int .i64) 0 dD false x9),(2003,bP aI bN bU [] x10),(2004,bP (V.int .i64) 0 dC 0 x11),(2005,bP aI bN bU [] x12),(2006,bP bF aZ dG false x13),(2007,bP bE bN dF false x14),(5013,.rows 9 1 ((l18).length+1) (gK (l18).length (cE eS [] l18) (dN 1 [.str (gM x10 [] (((12:Int)+x3),(n17:Int)))])))],[2000],0⟩ (an1 ob17) ?_;refine kN (tN (aaX (acZ (s':=⟨129,(f66z8 x3 x10 x4 n17),(f66z6 x1 x2 x3 x4 x5 x6 x7 x8 x9 x10 x11 x12 x13 x14 l18 n17),[2000],0⟩) rfl rfl ⟨.refl _,.refl _,.refl _,.refl _,.refl _,.refl _,.refl _,.refl _,.refl _,.refl _,trivial⟩ ⟨⟨_,rfl,.refl _⟩,⟨_,rfl,.refl _⟩,⟨_,rfl,.refl _⟩,⟨_,rfl,.refl _⟩,⟨_,rfl,.refl _⟩,⟨_,rfl,.refl _⟩,⟨_,rfl,.refl _⟩,⟨_,rfl,.refl _⟩,⟨_,rfl,.refl _⟩,⟨_,rfl,(acK (adQ (acX _) (acV (enc:=eS) [(gM x10 [] (((12:Int)+x3),(n17:Int)))] rfl rfl (fun _=>rfl))))⟩,trivial⟩) ?_));obtain⟨ob18p,h⟩:=aB h;refine bG [] [] [0,3,6,9,13,85,86,1000001,1000002,1000003] [3,2000,2001,2002,2003,2004,2005,2006,2007,5013] (an1 (iP ob18p)) ?_;rw[hC0]at h;exact lN (_,(n17+1),(l18++[(gM x10 [] (((12:Int)+x3),(n17:Int)))])) LR h (aaK _)
   ·replace h:=aG hc2 h;refine abK (tE (tE (kS ?_)));exact jN (l18) LR h
  ·rintro l19 h;replace h:=(congrFun hK1 _).symm.trans h;refine aaE (aaX (aaL (aeU 5013 rfl rfl) (LR (s':=⟨129,[(3,.ptr 3 0),(9,.str (gM x10 [] (((12:Int)+x3),x4))),(13,eC l19),(1000001,pT),(1000002,bV),(1000003,bV)],(f66z3 x1 x2 x3 x4 x5 x6 x7 x8 x9 x10 x11 x12 x13 x14),[2000],0⟩))) ?_);obtain⟨r20,hr20,h⟩:=bind_ok h;obtain⟨r21,hr21,h⟩:=bind_ok h;refine bG [] [(1,⟨[eC l19],[],[],[],.agg [aY r20.1,bC r20.2],[],[],[1,2,3]⟩),(3,⟨[.agg [aY r20.1,bC r20.2],.str (gM x10 [] (((12:Int)+x3),x4))],[],[],[(6001,bR r21.2.2)],.tup [.agg [aY r21.1,bC r21.2.1],.own 6001],[6001],[],[1,2,3]⟩)] [3,18,1000001,1000002,1000003] [3,2000,2001,2002,2003,2004,2005,2006,2007,6001] (an3 (cpT (f91_ok _ _ hr20)) (cpT (aE.ren (aT 3000 6001) (aD 3000 6001) rfl (f90_ok _ _ _ _ hr21))) trivial) ?_;refine tN (aaE ?_);obtain⟨r22,hr22,h⟩:=bind_ok h;refine bG [] [(2,⟨[bC r21.2.2,.fn (.func 93) [.ptr 3 0]],[3],[3],[(3,.cells 51 (qpt r22.2))],.i r22.1,[],[6001],[]⟩)] [3,18,19,1000001,1000002,1000003] [3,2000,2001,2002,2003,2004,2005,2006,2007,6001] (an1 (cpL (c:=true) [(6001,bR r21.2.2)] [6001] [.own 6001,.fn (.func 93) [.ptr 3 0]] (fun _=>(aE.ren (aT 2000 3) (aD 2000 3) rfl (f92_ok _ _ _ _ _ _ _ _ _ hr22))) (fun _=>⟨.refl _,.refl _,trivial⟩) (.inr ⟨rfl,⟨rfl,trivial⟩⟩))) ?_;refine tN (aaE ?_);obtain⟨ob19,h⟩:=aB h;obtain⟨ob23,h⟩:=aB h;have ob28:true=true->(decide (r22.1>=(0:Int)))=true->(wB r22)=true:=fun _ h=>beq_iff_eq.2 h;refine bH [] [] ⟨129,[(4,.bool ((decide (r22.1>=(0:Int)))&&(((r21.2.2.getD ((r22.1).toNat) aZ).2.2)==r22.2.2.2.2.2.2.2)))],(f66z4 x8 x9 x10 x11 x12 x13 x14),[2000],0⟩ (an6 (aaM ob19 (an2 (idA ((wB r22)=true)) (idA ((wB r22)=true)))) (an1 (idA ((wB r22)=true))) (aaM ob23 (an1 (idA ((wB r22)=true)))) (an1 (idA ((wB r22)=true))) (an2 (idA ((wB r22)=true)) (idA ((wB r22)=true))) ob28) ?_;refine tN ?_;obtain rfl:=aaD h;refine aaG ?_;exact bK
abbrev aBK (x1 x2 x3 x4 x5:Int) (x6 x7:aaA):List V:=[.i x1,.i x2,.i x3,.i x4,.i x5,.str x6,.str x7,.opq,.opq,.opq,.opq,.opq,.opq,.opq,.opq,.opq,.opq,.opq,.opq,.opq,.opq,.opq,.opq,.opq,.opq,.opq,.opq,.opq]
abbrev yV (x1 x2 x3 x4 x5:Int) (x6 x7:aaA) (x8:List Tq5) (x9:List Tq3) (x10:List Ty0) (x11:List Tq1) (x12:List Ty0) (x13:List iB) (x14:List gZ):aJ:=[(3,.cells 51 (aBK x1 x2 x3 x4 x5 x6 x7)),(2000,.cells 115 [.own 2001,.own 2002,.own 2003,.own 2004,.own 2005,.own 2006,.own 2007]),(2001,bP (V.int .i64) 0 cY [] x8),(2002,bP (V.int .i64) 0 dD false x9),(2003,bP aI (default:Tq1) bU [] x10),(2004,bP (V.int .i64) 0 dC 0 x11),(2005,bP aI (default:Tq1) bU [] x12),(2006,bP bF (default:Tq0) dG false x13),(2007,bP bE (default:Tq1) dF false x14)]
abbrev f43z2 (x8:List Tq5) (x9:List Tq3) (x10:List Ty0) (x11:List Tq1) (x12:List Ty0) (x13:List iB) (x14:List gZ):aJ:=[(2000,.cells 115 [.own 2001,.own 2002,.own 2003,.own 2004,.own 2005,.own 2006,.own 2007]),(2001,bP (V.int .i64) 0 cY [] x8),(2002,bP (V.int .i64) 0 dD false x9),(2003,bP aI (default:Tq1) bU [] x10),(2004,bP (V.int .i64) 0 dC 0 x11),(2005,bP aI (default:Tq1) bU [] x12),(2006,bP bF (default:Tq0) dG false x13),(2007,bP bE (default:Tq1) dF false x14)]
abbrev f43z3 (r17:Bool×gN×gL×Ty5×iA×Ty5×Ty2×Ty3):aJ:=[(2000,.cells 115 [.own 2001,.own 2002,.own 2003,.own 2004,.own 2005,.own 2006,.own 2007]),(2001,bP (V.int .i64) 0 cY [] r17.2.1),(2002,bP (V.int .i64) 0 dD false r17.2.2.1),(2003,bP aI (default:Tq1) bU [] r17.2.2.2.1),(2004,bP (V.int .i64) 0 dC 0 r17.2.2.2.2.1),(2005,bP aI (default:Tq1) bU [] r17.2.2.2.2.2.1),(2006,bP bF (default:Tq0) dG false r17.2.2.2.2.2.2.1),(2007,bP bE (default:Tq1) dF false r17.2.2.2.2.2.2.2)]
abbrev f43z4 :List (Nat×V):=[(0,.ptr 2000 0),(3,.ptr 3 0),(1000001,pT),(1000002,bV),(1000003,bV)]
abbrev f43z5 (l18:List Tq5) (l19:List Tq3) (l20:List Ty0) (l21:List Tq1) (l22:List Ty0) (l23:List iB) (l24:List gZ):aJ:=[(2000,.cells 115 [.own 2001,.own 2002,.own 2003,.own 2004,.own 2005,.own 2006,.own 2007]),(2001,bP (V.int .i64) 0 cY [] l18),(2002,bP (V.int .i64) 0 dD false l19),(2003,bP aI (default:Tq1) bU [] l20),(2004,bP (V.int .i64) 0 dC 0 l21),(2005,bP aI (default:Tq1) bU [] l22),(2006,bP bF (default:Tq0) dG false l23),(2007,bP bE (default:Tq1) dF false l24)]
abbrev f43z6 :List (Nat×V):=[(1000001,pT),(1000002,bV),(1000003,bV)]
abbrev f43z7 :=Ty5
def f43 (x1 x2 x3 x4 x5:Int) (x6 x7:aaA) (x8:List Tq5) (x9:List Tq3) (x10:List Ty0) (x11:List Tq1) (x12:List Ty0) (x13:List iB) (x14:List gZ):Option Ty10:=
 jn (fun(_:Unit)=>
 jn (fun((l18,l19,l20,l21,l22,l23,l24):gN×gL×Ty5×iA×Ty5×Ty2×Ty3)=>
 some ((0:Int),l18,l19,l20,l21,l22,l23,l24)
 ) fun(K3:Ty7->Option Ty10)=>
 gB ((x2==(2:Int))==true) (f57 x1 x2 x3 x4 x5 x6 x7) fun r16=>
 if((x2==(2:Int))&&r16)=true then(
 (f66 x1 x2 x3 x4 x5 x6 x7 x8 x9 x10 x11 x12 x13 x14).bind fun r17=>
 if(!r17.1)then(
 some ((3:Int),r17.2.1,r17.2.2.1,r17.2.2.2.1,r17.2.2.2.2.1,r17.2.2.2.2.2.1,r17.2.2.2.2.2.2.1,r17.2.2.2.2.2.2.2)
 )else(
 K3 (r17.2.1,r17.2.2.1,r17.2.2.2.1,r17.2.2.2.2.1,r17.2.2.2.2.2.1,r17.2.2.2.2.2.2.1,r17.2.2.2.2.2.2.2)
 )
 )else(
 K3 (x8,x9,x10,x11,x12,x13,x14)
 )
 ) fun(K1:Unit->Option Ty10)=>
 (f50 x1 x2 x3 x4 x5 x6 x7).bind fun r15=>
 if r15.2 then(
 jn (fun(_:Unit)=>
 if(x2==(3:Int))=true then(
 if(x4 !=(gM x11 (0:Int) x3))then(
 some ((2:Int),x8,x9,x10,x11,x12,x13,x14)
 )else(
 K1 ()
 )
 )else(
 K1 ()
 )
 ) fun(K2:Unit->Option Ty10)=>
 if(hM x8 x4)=true then(
 if(!((gM x8 [] x4)==x6))=true then(
 some ((1:Int),x8,x9,x10,x11,x12,x13,x14)
 )else(
 if(gM x9 false x4)then(
 some ((1:Int),x8,x9,x10,x11,x12,x13,x14)
 )else(
 K2 ()
 )
 )
 )else(
 chk (false=true->false=true->(!((gM x8 [] x4)==x6))=false->false=true)<|
 K2 ()
 )
 )else(
 K1 ()
 )
theorem f43_ok (x1 x2 x3 x4 x5:Int) (x6 x7:aaA) (x8:List Tq5) (x9:List Tq3) (x10:List Ty0) (x11:List Tq1) (x12:List Ty0) (x13:List iB) (x14:List gZ) (r:Int×gN×gL×Ty5×iA×Ty5×Ty2×Ty3) (h:f43 x1 x2 x3 x4 x5 x6 x7 x8 x9 x10 x11 x12 x13 x14=some r):aE Tryz.prog 43 [(1,pT),(2,bV),(3,bV)] [2000] [(2000,.cells 115 [.own 2001,.own 2002,.own 2003,.own 2004,.own 2005,.own 2006,.own 2007]),(2001,bP (V.int .i64) 0 cY [] x8),(2002,bP (V.int .i64) 0 dD false x9),(2003,bP aI (default:Tq1) bU [] x10),(2004,bP (V.int .i64) 0 dC 0 x11),(2005,bP aI (default:Tq1) bU [] x12),(2006,bP bF (default:Tq0) dG false x13),(2007,bP bE (default:Tq1) dF false x14)] [.ptr 2000 0,.agg [.i x1,.i x2,.i x3,.i x4,.i x5,.str x6,.str x7,.opq,.opq,.opq,.opq,.opq,.opq,.opq,.opq,.opq,.opq,.opq,.opq,.opq,.opq,.opq,.opq,.opq,.opq,.opq,.opq,.opq]] (.i r.1) [(2000,.cells 115 [.own 2001,.own 2002,.own 2003,.own 2004,.own 2005,.own 2006,.own 2007]),(2001,bP (V.int .i64) 0 cY [] r.2.1),(2002,bP (V.int .i64) 0 dD false r.2.2.1),(2003,bP aI (default:Tq1) bU [] r.2.2.2.1),(2004,bP (V.int .i64) 0 dC 0 r.2.2.2.2.1),(2005,bP aI (default:Tq1) bU [] r.2.2.2.2.2.1),(2006,bP bF (default:Tq0) dG false r.2.2.2.2.2.2.1),(2007,bP bE (default:Tq1) dF false r.2.2.2.2.2.2.2)]:=by
 unfold f43 at h;refine aE.body 0 _ _ Tryz.func43 rfl Tryz.ntmps43 rfl rfl ?_;refine aN [] [] [0,3,1000001,1000002,1000003] [3,2000,2001,2002,2003,2004,2005,2006,2007] trivial ?_;obtain⟨K1,hK1,h⟩:=aO h;refine aaU (fun(x:Unit)=>match x with|()=>⟨69,(f43z4),(yV x1 x2 x3 x4 x5 x6 x7 x8 x9 x10 x11 x12 x13 x14),[2000],0⟩) (fun x=>K1 x=some r) ?_ ?_
 ·refine aaE ?_;obtain⟨r15,hr15,h⟩:=bind_ok h;refine bG [] [(1,⟨[.agg (aBK x1 x2 x3 x4 x5 x6 x7)],[],[],[],.tup [.i r15.1,.bool r15.2],[],[],[]⟩)] [0,3,6,1000001,1000002,1000003] [3,2000,2001,2002,2003,2004,2005,2006,2007] (an1 (cpT (wG _ _ _ _ _ _ _ _ hr15))) ?_;refine tN (bJ [] [] ⟨69,[(0,.ptr 2000 0),(3,.ptr 3 0),(14,.bool r15.2),(1000001,pT),(1000002,bV),(1000003,bV)],(yV x1 x2 x3 x4 x5 x6 x7 x8 x9 x10 x11 x12 x13 x14),[2000],0⟩ trivial ?_);refine cK r15.2 (fun hc1=> ?_) fun hc1=> ?_
  ·replace h:=aF hc1 h;obtain⟨K2,hK2,h⟩:=aO h;refine aaU (fun(x:Unit)=>match x with|()=>⟨69,(f43z4),(yV x1 x2 x3 x4 x5 x6 x7 x8 x9 x10 x11 x12 x13 x14),[2000],0⟩) (fun x=>K2 x=some r) ?_ ?_
   ·refine bJ [] [(6,⟨[.own 2001,.i x4],[2001],[2001],[(2001,bP (V.int .i64) 0 cY [] x8)],.tup [.str (gM x8 [] x4),.bool (hM x8 x4)],[],[],[]⟩)] ⟨69,[(0,.ptr 2000 0),(3,.ptr 3 0),(7,.str (gM x8 [] x4)),(8,.bool (hM x8 x4)),(1000001,pT),(1000002,bV),(1000003,bV)],(yV x1 x2 x3 x4 x5 x6 x7 x8 x9 x10 x11 x12 x13 x14),[2000],0⟩ (an1 (aaM (dW (P:=Tryz.prog) Tryz.underlying108 (V.int .i64) kE108 0 cY [] [] (by kernel_rfl) (.tmp 19) (.tmp 21) 118 2001 x8 x4) (eF.same [.own 2001,.i x4]))) ?_;refine aaE ?_;by_cases hg4_1:(hM x8 x4)=true
    ·replace h:=vA hg4_1 h;by_cases hg4_6:(!((gM x8 [] x4)==x6))=true
     ·replace h:=vA hg4_6 h;have ob0:=idA (true=true);have ob1:=idA (true=true);have ob2:=idA (true=true);have ob3:=idA (true=true);have ob4:=idA (false=true);have ob5:=idA (false=true);have ob6:=idA (false=true);have ob7:=idA (false=true);have ob8:true=true->true=true->true=false->false=true:=by first|decide|omega|simp|(intro h;cases h)
      have ob9:=idA (true=true);have ob10:true=true->true=true->true=true:=fun _ h=>h;refine bH [] [(1,⟨[],[],[],[],(.bool true),[],[0],[]⟩),(6,⟨[],[],[],[],(.opt true (.bool true)),[],[0],[]⟩),(13,⟨[],[],[],[],.bool (gM x9 false x4),[],[],[]⟩)] ⟨69,[(0,.ptr 2000 0),(3,.ptr 3 0),(40,.bool true),(1000001,pT),(1000002,bV),(1000003,bV)],(yV x1 x2 x3 x4 x5 x6 x7 x8 x9 x10 x11 x12 x13 x14),[2000],0⟩ (ac6 (show((.bool (hM x8 x4)):V)=(.bool true)from(congrArg (fun x=>((.bool x):V)) hg4_1)) (an1 ob0) (an2 ob1 ob2) (aaM (an1 ob3) (show((.opt true (.bool (!((gM x8 [] x4)==x6)))):V)=(.opt true (.bool true))from(congrArg (fun x=>((.opt true (.bool x)):V)) hg4_6))) (an1 ob4) (an1 ob5) (an5 (an1 ob6) (an1 ob7) trivial (aaM ob8 (an1 ob9)) ob10)) ?_;refine tN (cK true (fun hc=> ?_) fun hc=> ?_)
      ·clear hc;refine aN [] [] [4] [2000,2001,2002,2003,2004,2005,2006,2007] trivial ?_;obtain rfl:=aaD h;refine aaG (aS (aS ?_));exact bK
      ·cases hc
     ·replace h:=vB hg4_6 h;have ob0:=idA (true=true);have ob1:=idA (true=true);have ob2:=idA (true=true);have ob3:=idA (true=true);have ob4:=idA (true=true);have ob5:=idA (true=true);have ob6:=idA (true=true);have ob7:=idA (true=true);have ob8:=idA (true=true);have ob9:=idA (true=true);have ob10:true=true->True:=by first|decide|omega|simp|(intro h;cases h)
      have ob12:true=true->true=true->true=true:=fun _ h=>h;refine bG [] [(1,⟨[],[],[],[],(.bool true),[],[0],[]⟩),(6,⟨[],[],[],[],(.opt true (.bool false)),[],[0],[]⟩),(13,⟨[.own 2002,.i x4],[2002],[2002],[(2002,bP (V.int .i64) 0 dD false x9)],.bool (gM x9 false x4),[],[],[]⟩)] [0,3,40,1000001,1000002,1000003] [3,2000,2001,2002,2003,2004,2005,2006,2007] (ac6 (show((.bool (hM x8 x4)):V)=(.bool true)from(congrArg (fun x=>((.bool x):V)) hg4_1)) (an1 ob0) (an2 ob1 ob2) (aaM (an1 ob3) (show((.opt true (.bool (!((gM x8 [] x4)==x6)))):V)=(.opt true (.bool false))from(congrArg (fun x=>((.opt true (.bool x)):V)) (aeG.2 hg4_6)))) (an1 ob4) (an1 ob5) (an5 (an1 ob6) (an1 ob7) (aaM (aaM (eH (P:=Tryz.prog) Tryz.underlying109 (V.int .i64) kE109 0 dD false false (by kernel_rfl) (.tmp 35) (.tmp 37) 4 2002 x9 x4) (eF.same [.own 2002,.i x4])) (an2 ob8 ob9)) (aaM ob10 (an1 (idA (true=true)))) ob12)) ?_;refine tN (cK (gM x9 false x4) (fun hc4=> ?_) fun hc4=> ?_)
      ·replace h:=aF hc4 h;refine bJ [] [] ⟨69,[(4,.i (1:Int))],(f43z2 x8 x9 x10 x11 x12 x13 x14),[2000],0⟩ trivial ?_;obtain rfl:=aaD h;refine aaG (aS (aS ?_));exact bK
      ·replace h:=aG hc4 h;refine aaF ?_;exact jN () LR h
    ·replace h:=vB hg4_1 h;have ob0:=idA (false=true);have ob1:=idA (false=true);have ob2:=idA (false=true);have ob3:=idA (false=true);have ob4:=idA (false=true);have ob5:=idA (false=true);have ob6:=idA (false=true);have ob7:=idA (false=true);obtain⟨ob8,h⟩:=aB h;have ob9:=idA (false=true);have ob10:true=true->false=true->false=true:=fun _ h=>h;refine bH [] [(1,⟨[],[],[],[],(.bool false),[],[0],[]⟩),(13,⟨[],[],[],[],.bool (gM x9 false x4),[],[],[]⟩)] ⟨69,[(0,.ptr 2000 0),(3,.ptr 3 0),(40,.bool false),(1000001,pT),(1000002,bV),(1000003,bV)],(yV x1 x2 x3 x4 x5 x6 x7 x8 x9 x10 x11 x12 x13 x14),[2000],0⟩ (ac6 (show((.bool (hM x8 x4)):V)=(.bool false)from(congrArg (fun x=>((.bool x):V)) (aeG.2 hg4_1))) (an1 ob0) (an2 ob1 ob2) (an1 ob3) (an1 ob4) (an1 ob5) (an5 (an1 ob6) (an1 ob7) trivial (aaM ob8 (an1 ob9)) ob10)) ?_;refine tN (cK false (fun hc=> ?_) fun hc=> ?_)
     ·cases hc
     ·clear hc;refine aaF ?_;exact jN () LR h
   ·rintro⟨⟩ h;replace h:=(congrFun hK2 _).symm.trans h;refine aaE ?_;by_cases hg6_3:(x2==(3:Int))=true
    ·replace h:=vA hg6_3 h;have ob13:=idA (true=true);have ob14:=idA (true=true);have ob15:=idA (true=true);have ob16:=idA (true=true);have ob17:=idA (true=true);have ob18:=idA (true=true);have ob19:=idA (true=true);have ob20:=idA (true=true);have ob21:true=true->true=true->true=true:=fun _ h=>h;refine bG [] [(3,⟨[],[],[],[],(.bool true),[],[0],[]⟩),(12,⟨[.own 2004,.i x3],[2004],[2004],[(2004,bP (V.int .i64) 0 dC 0 x11)],.i (gM x11 (0:Int) x3),[],[],[]⟩)] [0,3,55,1000001,1000002,1000003] [3,2000,2001,2002,2003,2004,2005,2006,2007] (ac6 (show((.bool (x2==(3:Int))):V)=(.bool true)from(congrArg (fun x=>((.bool x):V)) hg6_3)) (an1 ob13) (an1 ob14) (an1 ob15) (an1 ob16) (an1 ob17) (an3 (aaM (aaM (eH (P:=Tryz.prog) Tryz.underlying111 (V.int .i64) kE111 0 dC 0 (0:Int) (by kernel_rfl) (.tmp 50) (.tmp 52) 3 2004 x11 x3) (eF.same [.own 2004,.i x3])) (an2 ob18 ob19)) (an1 ob20) ob21)) ?_;refine tN (cK (x4 !=(gM x11 (0:Int) x3)) (fun hc6=> ?_) fun hc6=> ?_)
     ·replace h:=aF hc6 h;refine bJ [] [] ⟨69,[(4,.i (2:Int))],(f43z2 x8 x9 x10 x11 x12 x13 x14),[2000],0⟩ trivial ?_;obtain rfl:=aaD h;refine aaG (aS ?_);exact bK
     ·replace h:=aG hc6 h;refine aaF ?_;exact jN () LR h
    ·replace h:=vB hg6_3 h;have ob13:=idA (false=true);have ob14:=idA (false=true);have ob15:=idA (false=true);have ob16:=idA (false=true);have ob17:=idA (false=true);have ob18:=idA (false=true);have ob19:=idA (false=true);have ob20:true=true->false=true->false=true:=fun _ h=>h;refine bH [] [(3,⟨[],[],[],[],(.bool false),[],[0],[]⟩),(12,⟨[],[],[],[],.i (gM x11 (0:Int) x3),[],[],[]⟩)] ⟨69,[(0,.ptr 2000 0),(3,.ptr 3 0),(55,.bool false),(1000001,pT),(1000002,bV),(1000003,bV)],(yV x1 x2 x3 x4 x5 x6 x7 x8 x9 x10 x11 x12 x13 x14),[2000],0⟩ (ac6 (show((.bool (x2==(3:Int))):V)=(.bool false)from(congrArg (fun x=>((.bool x):V)) (aeG.2 hg6_3))) (an1 ob13) (an1 ob14) (an1 ob15) (an1 ob16) (an1 ob17) (an3 trivial (an2 ob18 ob19) ob20)) ?_;refine tN (cK false (fun hc=> ?_) fun hc=> ?_)
     ·cases hc
     ·clear hc;refine aaF ?_;exact jN () LR h
  ·replace h:=aG hc1 h;refine aaF ?_;exact jN () LR h
 ·rintro⟨⟩ h;replace h:=(congrFun hK1 _).symm.trans h;obtain⟨K3,hK3,h⟩:=aO h;refine aaU (fun(x:gN×gL×(f43z7)×iA×(f43z7)×Ty2×Ty3)=>match x with|(l18,l19,l20,l21,l22,l23,l24)=>⟨69,(f43z6),(f43z5 l18 l19 l20 l21 l22 l23 l24),[2000],0⟩) (fun x=>K3 x=some r) ?_ ?_
  ·refine aaE ?_;obtain⟨r16,hr16,h⟩:=cF h;by_cases hg8_7:((x2==(2:Int))&&r16)=true
   ·replace h:=vA hg8_7 h;obtain⟨r17,hr17,h⟩:=bind_ok h;have ob22:=idA (((x2==(2:Int))==true)=true);have ob23:=bqA (x2==(2:Int)) true;have ob24:=idA (true=true);have ob25:=idA (true=true);have ob26:true=true->true=true->true=true:=fun _ h=>h;refine bG [] [(5,⟨[.agg (aBK x1 x2 x3 x4 x5 x6 x7)],[],[],[],.bool r16,[],[],[]⟩),(7,⟨[],[],[],[],(.bool true),[],[0],[]⟩),(10,⟨[.ptr 2000 0,.agg (aBK x1 x2 x3 x4 x5 x6 x7)],[2000,2001,2002,2003,2004,2005,2006,2007],[2000],(f43z3 r17),.bool r17.1,[2001,2002,2003,2004,2005,2006,2007],[],[1,2,3]⟩)] [68,1000001,1000002,1000003] [2000,2001,2002,2003,2004,2005,2006,2007] (an5 (aaM (cpC fun hc=>(wD _ _ _ _ _ _ _ _ (hr16 hc))) (an1 ob22)) ob23 (show((.bool ((x2==(2:Int))&&r16)):V)=(.bool true)from(congrArg (fun x=>((.bool x):V)) hg8_7)) (aaM (cpT (f66_ok _ _ _ _ _ _ _ _ _ _ _ _ _ _ _ hr17)) (an2 ob24 ob25)) ob26) ?_;refine tN (cK (!r17.1) (fun hc8=> ?_) fun hc8=> ?_)
    ·replace h:=aF hc8 h;refine bJ [] [] ⟨69,[(4,.i (3:Int))],(f43z3 r17),[2000],0⟩ trivial ?_;obtain rfl:=aaD h;refine aaG (aS ?_);exact bK
    ·replace h:=aG hc8 h;refine aaF ?_;exact jN (r17.2.1,r17.2.2.1,r17.2.2.2.1,r17.2.2.2.2.1,r17.2.2.2.2.2.1,r17.2.2.2.2.2.2.1,r17.2.2.2.2.2.2.2) LR h
   ·replace h:=vB hg8_7 h;have ob22:=idA (((x2==(2:Int))==true)=true);have ob23:=bqA (x2==(2:Int)) true;have ob24:=idA (false=true);have ob25:=idA (false=true);have ob26:=idA (false=true);have ob27:true=true->false=true->false=true:=fun _ h=>h;refine bH [] [(5,⟨[.agg (aBK x1 x2 x3 x4 x5 x6 x7)],[],[],[],.bool r16,[],[],[]⟩),(7,⟨[],[],[],[],(.bool false),[],[0],[]⟩),(10,⟨[],[],[],[],.bool false,[],[],[]⟩)] ⟨69,[(68,.bool false),(1000001,pT),(1000002,bV),(1000003,bV)],(f43z2 x8 x9 x10 x11 x12 x13 x14),[2000],0⟩ (an6 (aaM (cpC fun hc=>(wD _ _ _ _ _ _ _ _ (hr16 hc))) (an1 ob22)) ob23 (show((.bool ((x2==(2:Int))&&r16)):V)=(.bool false)from(congrArg (fun x=>((.bool x):V)) (aeG.2 hg8_7))) (aaM (show(qF Tryz.prog false 66 [] [] [] [] [] [.ptr 2000 0,.agg (aBK x1 x2 x3 x4 x5 x6 x7)] [] (.bool false) [])from⟨nofun,nofun,.inl rfl⟩) (an2 ob24 ob25)) (an1 ob26) ob27) ?_;refine tN (cK false (fun hc=> ?_) fun hc=> ?_)
    ·cases hc
    ·clear hc;refine aaF ?_;exact jN (x8,x9,x10,x11,x12,x13,x14) LR h
  ·rintro⟨l18,l19,l20,l21,l22,l23,l24⟩ h;replace h:=(congrFun hK3 _).symm.trans h;refine aN [] [] [4] [2000,2001,2002,2003,2004,2005,2006,2007] trivial ?_;obtain rfl:=aaD h;refine aaG ?_;exact bK
abbrev f42z0 (r16:Int×gN×gL×Ty5×iA×Ty5×Ty2×Ty3):aJ:=[(2000,.cells 115 [.own 2001,.own 2002,.own 2003,.own 2004,.own 2005,.own 2006,.own 2007]),(2001,bP (V.int .i64) 0 cY [] r16.2.1),(2002,bP (V.int .i64) 0 dD false r16.2.2.1),(2003,bP aI (default:Tq1) bU [] r16.2.2.2.1),(2004,bP (V.int .i64) 0 dC 0 r16.2.2.2.2.1),(2005,bP aI (default:Tq1) bU [] r16.2.2.2.2.2.1),(2006,bP bF (default:Tq0) dG false r16.2.2.2.2.2.2.1),(2007,bP bE (default:Tq1) dF false r16.2.2.2.2.2.2.2),(2008,.cells 3 [.i r16.1])]
def f42 (x1 x2 x3 x4 x5:Int) (x6 x7:aaA) (x8:List Tq5) (x9:List Tq3) (x10:List Ty0) (x11:List Tq1) (x12:List Ty0) (x13:List iB) (x14:List gZ) (x15:Int):Option (Bool×gN×gL×Ty5×iA×Ty5×Ty2×Ty3×Int):=
 (f43 x1 x2 x3 x4 x5 x6 x7 x8 x9 x10 x11 x12 x13 x14).bind fun r16=>
 some ((r16.1 !=(0:Int)),r16.2.1,r16.2.2.1,r16.2.2.2.1,r16.2.2.2.2.1,r16.2.2.2.2.2.1,r16.2.2.2.2.2.2.1,r16.2.2.2.2.2.2.2,r16.1)
theorem f42_ok (x1 x2 x3 x4 x5:Int) (x6 x7:aaA) (x8:List Tq5) (x9:List Tq3) (x10:List Ty0) (x11:List Tq1) (x12:List Ty0) (x13:List iB) (x14:List gZ) (x15:Int) (r:Bool×gN×gL×Ty5×iA×Ty5×Ty2×Ty3×Int) (h:f42 x1 x2 x3 x4 x5 x6 x7 x8 x9 x10 x11 x12 x13 x14 x15=some r):aE Tryz.prog 42 [(1,pT),(2,bV),(3,bV)] [2000,2008] [(2000,.cells 115 [.own 2001,.own 2002,.own 2003,.own 2004,.own 2005,.own 2006,.own 2007]),(2001,bP (V.int .i64) 0 cY [] x8),(2002,bP (V.int .i64) 0 dD false x9),(2003,bP aI (default:Tq1) bU [] x10),(2004,bP (V.int .i64) 0 dC 0 x11),(2005,bP aI (default:Tq1) bU [] x12),(2006,bP bF (default:Tq0) dG false x13),(2007,bP bE (default:Tq1) dF false x14),(2008,.cells 3 [.i x15])] [.ptr 2000 0,.agg [.i x1,.i x2,.i x3,.i x4,.i x5,.str x6,.str x7,.opq,.opq,.opq,.opq,.opq,.opq,.opq,.opq,.opq,.opq,.opq,.opq,.opq,.opq,.opq,.opq,.opq,.opq,.opq,.opq,.opq],.ptr 2008 0] (.bool r.1) [(2000,.cells 115 [.own 2001,.own 2002,.own 2003,.own 2004,.own 2005,.own 2006,.own 2007]),(2001,bP (V.int .i64) 0 cY [] r.2.1),(2002,bP (V.int .i64) 0 dD false r.2.2.1),(2003,bP aI (default:Tq1) bU [] r.2.2.2.1),(2004,bP (V.int .i64) 0 dC 0 r.2.2.2.2.1),(2005,bP aI (default:Tq1) bU [] r.2.2.2.2.2.1),(2006,bP bF (default:Tq0) dG false r.2.2.2.2.2.2.1),(2007,bP bE (default:Tq1) dF false r.2.2.2.2.2.2.2.1),(2008,.cells 3 [.i r.2.2.2.2.2.2.2.2])]:=by
 unfold f42 at h;refine aE.body 0 _ _ Tryz.func42 rfl Tryz.ntmps42 rfl rfl ?_;refine aN [] [] [0,2,4,1000001,1000002,1000003] [4,2000,2001,2002,2003,2004,2005,2006,2007,2008] trivial ?_;refine aaE ?_;obtain⟨r16,hr16,h⟩:=bind_ok h;refine bG [] [(2,⟨[.ptr 2000 0,.agg (qpc x1 x2 x3 x4 x5 x6 x7)],[2000,2001,2002,2003,2004,2005,2006,2007],[2000],((2000,.cells 115 [.own 2001,.own 2002,.own 2003,.own 2004,.own 2005,.own 2006,.own 2007])::qmp 2001 r16.2.1 r16.2.2.1 r16.2.2.2.1 r16.2.2.2.2.1 r16.2.2.2.2.2.1 r16.2.2.2.2.2.2.1 r16.2.2.2.2.2.2.2),.i r16.1,[2001,2002,2003,2004,2005,2006,2007],[],[1,2,3]⟩)] [2,1000001,1000002,1000003] [2000,2001,2002,2003,2004,2005,2006,2007,2008] (an2 (cpT (f43_ok _ _ _ _ _ _ _ _ _ _ _ _ _ _ _ hr16)) trivial) ?_;refine tN (bJ [] [] ⟨11,[(5,.bool (r16.1 !=(0:Int)))],(f42z0 r16),[2000,2008],0⟩ trivial ?_);obtain rfl:=aaD h;refine aaG ?_;exact bK
abbrev pR (x1 x2 x3 x4 x5:Int) (x6 x7:aaA):List V:=[.i x1,.i x2,.i x3,.i x4,.i x5,.str x6,.str x7,.opq,.opq,.opq,.opq,.opq,.opq,.opq,.opq,.opq,.opq,.opq,.opq,.opq,.opq,.opq,.opq,.opq,.opq,.opq,.opq,.opq]
abbrev f45z1 (x1 x2 x3 x4 x5:Int) (x6 x7:aaA) (x8:List Tq5) (x9:List Tq3) (x10:List Ty0) (x11:List Tq1) (x12:List Ty0) (x13:List iB) (x14:List gZ):aJ:=[(3,.cells 51 (pR x1 x2 x3 x4 x5 x6 x7)),(2000,.cells 115 [.own 2001,.own 2002,.own 2003,.own 2004,.own 2005,.own 2006,.own 2007]),(2001,bP (V.int .i64) 0 cY [] x8),(2002,bP (V.int .i64) 0 dD false x9),(2003,bP aI (default:Tq1) bU [] x10),(2004,bP (V.int .i64) 0 dC 0 x11),(2005,bP aI (default:Tq1) bU [] x12),(2006,bP bF (default:Tq0) dG false x13),(2007,bP bE (default:Tq1) dF false x14)]
abbrev lM :List V:=[.own 2001,.own 2002,.own 2003,.own 2004,.own 2005,.own 2006,.own 2007]
abbrev f45z3 (x1 x2 x3 x4 x5:Int) (x6 x7:aaA) (l16:List Tq5) (l17:List Tq3) (x10:List Ty0) (x11:List Tq1) (x12:List Ty0) (x13:List iB) (x14:List gZ):aJ:=[(3,.cells 51 (pR x1 x2 x3 x4 x5 x6 x7)),(2000,.cells 115 (lM)),(2001,bP (V.int .i64) 0 cY [] l16),(2002,bP (V.int .i64) 0 dD false l17),(2003,bP aI (default:Tq1) bU [] x10),(2004,bP (V.int .i64) 0 dC 0 x11),(2005,bP aI (default:Tq1) bU [] x12),(2006,bP bF (default:Tq0) dG false x13),(2007,bP bE (default:Tq1) dF false x14)]
abbrev f45z4 (x1 x2 x3 x4 x5:Int) (x6 x7:aaA) (l19:List Tq5) (l20:List Tq3) (l21:List Ty0) (l22:List Tq1) (x12:List Ty0) (x13:List iB) (x14:List gZ):aJ:=[(3,.cells 51 (pR x1 x2 x3 x4 x5 x6 x7)),(10,.cells 145 [.i x3,.i x5]),(2000,.cells 115 (lM)),(2001,bP (V.int .i64) 0 cY [] l19),(2002,bP (V.int .i64) 0 dD false l20),(2003,bP aI (default:Tq1) bU [] l21),(2004,bP (V.int .i64) 0 dC 0 l22),(2005,bP aI (default:Tq1) bU [] x12),(2006,bP bF (default:Tq0) dG false (fJ x13 (x3,x5,x6) true)),(2007,bP bE (default:Tq1) dF false x14)]
abbrev f45z5 (x1 x2 x3 x4 x5:Int) (x6 x7:aaA) (l16:List Tq5) (l17:List Tq3) (l18:List Ty0) (x11:List Tq1) (x12:List Ty0) (x13:List iB) (x14:List gZ):aJ:=[(3,.cells 51 (pR x1 x2 x3 x4 x5 x6 x7)),(2000,.cells 115 (lM)),(2001,bP (V.int .i64) 0 cY [] l16),(2002,bP (V.int .i64) 0 dD false l17),(2003,bP aI (default:Tq1) bU [] l18),(2004,bP (V.int .i64) 0 dC 0 x11),(2005,bP aI (default:Tq1) bU [] x12),(2006,bP bF (default:Tq0) dG false x13),(2007,bP bE (default:Tq1) dF false x14)]
abbrev f45z6 :List (Nat×V):=[(0,.ptr 2000 0),(3,.ptr 3 0)]
abbrev f45z7 (r15:Tq3):List (Nat×V):=[(0,.ptr 2000 0),(3,.ptr 3 0),(4,.i r15.1)]
abbrev yT (x3 x5:Int):List V:=[.i x3,.i x5]
def f45 (x1 x2 x3 x4 x5:Int) (x6 x7:aaA) (x8:List Tq5) (x9:List Tq3) (x10:List Ty0) (x11:List Tq1) (x12:List Ty0) (x13:List iB) (x14:List gZ):Option Ty7:=
 jn (fun((l19,l20,l21,l22):gN×gL×Ty5×iA)=>
 gB ((x2==(1:Int))==true) (f57 x1 x2 x3 x4 x5 x6 x7) fun r23=>
 if((x2==(1:Int))&&r23)then(
 if(!(hM x12 (x3,x5)))then(
 some (l19,l20,l21,l22,(fJ x12 (x3,x5) x6),(fJ x13 (x3,x5,x6) true),x14)
 )else(
 some (l19,l20,l21,l22,x12,(fJ x13 (x3,x5,x6) true),x14)
 )
 )else(
 gB ((x2==(2:Int))==true) (f57 x1 x2 x3 x4 x5 x6 x7) fun r24=>
 if((x2==(2:Int))&&r24)then(
 some (l19,l20,l21,l22,x12,x13,(fJ x14 (x3,x5) true))
 )else(
 some (l19,l20,l21,l22,x12,x13,x14)
 )
 )
 ) fun(K1:(gN×gL×Ty5×iA)->Option Ty7)=>
 (f50 x1 x2 x3 x4 x5 x6 x7).bind fun r15=>
 if r15.2 then(
 jn (fun((l16,l17):gN×gL)=>
 jn (fun(l18:List Ty0)=>
 if(x2==(3:Int))then(
 chk (-9223372036854775808<=((gM x11 (0:Int) x3)+(1:Int))/\((gM x11 (0:Int) x3)+(1:Int))<=9223372036854775807)<|
 K1 (l16,l17,l18,(fJ x11 x3 ((gM x11 (0:Int) x3)+(1:Int))))
 )else(
 K1 (l16,l17,l18,x11)
 )
 ) fun(K3:Ty5->Option Ty7)=>
 if(!(hM x10 (r15.1,x4)))then(
 K3 (fJ x10 (r15.1,x4) x6)
 )else(
 K3 x10
 )
 ) fun(K2:(gN×gL)->Option Ty7)=>
 if(!(hM x8 x4))then(
 K2 ((fJ x8 x4 x6),x9)
 )else(
 if(!((gM x8 [] x4)==x6))then(
 K2 (x8,(fJ x9 x4 true))
 )else(
 K2 (x8,x9)
 )
 )
 )else(
 K1 (x8,x9,x10,x11)
 )
theorem aAH (x1 x2 x3 x4 x5:Int) (x6 x7:aaA) (x8:List Tq5) (x9:List Tq3) (x10:List Ty0) (x11:List Tq1) (x12:List Ty0) (x13:List iB) (x14:List gZ) (r:gN×gL×Ty5×iA×Ty5×Ty2×Ty3) (h:f45 x1 x2 x3 x4 x5 x6 x7 x8 x9 x10 x11 x12 x13 x14=some r):aE Tryz.prog 45 [] [2000] [(2000,.cells 115 [.own 2001,.own 2002,.own 2003,.own 2004,.own 2005,.own 2006,.own 2007]),(2001,bP (V.int .i64) 0 cY [] x8),(2002,bP (V.int .i64) 0 dD false x9),(2003,bP aI (default:Tq1) bU [] x10),(2004,bP (V.int .i64) 0 dC 0 x11),(2005,bP aI (default:Tq1) bU [] x12),(2006,bP bF (default:Tq0) dG false x13),(2007,bP bE (default:Tq1) dF false x14)] [.ptr 2000 0,.agg [.i x1,.i x2,.i x3,.i x4,.i x5,.str x6,.str x7,.opq,.opq,.opq,.opq,.opq,.opq,.opq,.opq,.opq,.opq,.opq,.opq,.opq,.opq,.opq,.opq,.opq,.opq,.opq,.opq,.opq]] (.tup []) [(2000,.cells 115 [.own 2001,.own 2002,.own 2003,.own 2004,.own 2005,.own 2006,.own 2007]),(2001,bP (V.int .i64) 0 cY [] r.1),(2002,bP (V.int .i64) 0 dD false r.2.1),(2003,bP aI (default:Tq1) bU [] r.2.2.1),(2004,bP (V.int .i64) 0 dC 0 r.2.2.2.1),(2005,bP aI (default:Tq1) bU [] r.2.2.2.2.1),(2006,bP bF (default:Tq0) dG false r.2.2.2.2.2.1),(2007,bP bE (default:Tq1) dF false r.2.2.2.2.2.2)]:=by
 unfold f45 at h;refine aE.body 0 _ _ Tryz.func45 rfl Tryz.ntmps45 rfl rfl ?_;refine aN [] [] [0,3] [3,2000,2001,2002,2003,2004,2005,2006,2007] trivial ?_;obtain⟨K1,hK1,h⟩:=aO h;refine aaU (fun(x:gN×gL×Ty5×iA)=>match x with|(l19,l20,l21,l22)=>⟨139,(f45z6),((3,.cells 51 (pR x1 x2 x3 x4 x5 x6 x7))::(2000,.cells 115 (lM))::qmp 2001 l19 l20 l21 l22 x12 x13 x14),[2000],0⟩) (fun x=>K1 x=some r) ?_ ?_
 ·refine aaE ?_;obtain⟨r15,hr15,h⟩:=bind_ok h;refine bG [] [(1,⟨[.agg (pR x1 x2 x3 x4 x5 x6 x7)],[],[],[],.tup [.i r15.1,.bool r15.2],[],[],[]⟩)] [0,3,4,5] [3,2000,2001,2002,2003,2004,2005,2006,2007] (an1 (cpT (wG _ _ _ _ _ _ _ _ hr15))) ?_;refine tN (bJ [] [] ⟨139,[(0,.ptr 2000 0),(3,.ptr 3 0),(4,.i r15.1),(18,.bool r15.2)],(f45z1 x1 x2 x3 x4 x5 x6 x7 x8 x9 x10 x11 x12 x13 x14),[2000],0⟩ trivial ?_);refine cK r15.2 (fun hc1=> ?_) fun hc1=> ?_
  ·replace h:=aF hc1 h;obtain⟨K2,hK2,h⟩:=aO h;refine aaU (fun(x:gN×gL)=>match x with|(l16,l17)=>⟨139,(f45z7 r15),(f45z3 x1 x2 x3 x4 x5 x6 x7 l16 l17 x10 x11 x12 x13 x14),[2000],0⟩) (fun x=>K2 x=some r) ?_ ?_
   ·refine aN [] [(6,⟨[.own 2001,.i x4],[2001],[2001],[(2001,bP (V.int .i64) 0 cY [] x8)],.tup [.str (gM x8 [] x4),.bool (hM x8 x4)],[],[],[]⟩)] [0,3,4,6,7] [3,2000,2001,2002,2003,2004,2005,2006,2007] (an1 (aaM (dW (P:=Tryz.prog) Tryz.underlying108 (V.int .i64) kE108 0 cY [] [] (by kernel_rfl) (.tmp 23) (.tmp 25) 118 2001 x8 x4) (eF.same [.own 2001,.i x4]))) ?_;refine aN [] [] [0,3,4,6,30] [3,2000,2001,2002,2003,2004,2005,2006,2007] trivial ?_;refine cK (!(hM x8 x4)) (fun hc2=> ?_) fun hc2=> ?_
    ·replace h:=aF hc2 h;refine bH [] [(8,⟨[.own 2001,.i x4,.str x6],[2001],[2001],[(2001,bP (V.int .i64) 0 cY [] (fJ x8 x4 x6))],.any,[],[],[]⟩)] ⟨139,(f45z7 r15),[(3,.cells 51 (pR x1 x2 x3 x4 x5 x6 x7)),(2000,.cells 115 (lM)),(2001,bP (V.int .i64) 0 cY [] (fJ x8 x4 x6)),(2002,bP (V.int .i64) 0 dD false x9),(2003,bP aI bN bU [] x10),(2004,bP (V.int .i64) 0 dC 0 x11),(2005,bP aI bN bU [] x12),(2006,bP bF aZ dG false x13),(2007,bP bE bN dF false x14)],[2000],0⟩ (an1 (aaM (eX Tryz.underlying108 (V.int .i64) kE108 (.mapUpdate 108 (.tmp 34) (.tmp 36) (.tmp 38)) (.tmp 34) (.tmp 36) (.tmp 38) (.inr rfl) 0 cY [] (fun _=>rfl) 0 2001 x8 x4 x6) (eF.same [.own 2001,.i x4,.str x6]))) ?_;exact jN ((fJ x8 x4 x6),x9) LR h
    ·replace h:=aG hc2 h;refine aN [] [] [0,3,4,42] [3,2000,2001,2002,2003,2004,2005,2006,2007] trivial ?_;refine cK (!((gM x8 [] x4)==x6)) (fun hc3=> ?_) fun hc3=> ?_
     ·replace h:=aF hc3 h;refine bH [] [(6,⟨[.own 2002,.i x4,.bool true],[2002],[2002],[(2002,bP (V.int .i64) 0 dD false (fJ x9 x4 true))],.any,[],[],[]⟩)] ⟨139,(f45z7 r15),[(3,.cells 51 (pR x1 x2 x3 x4 x5 x6 x7)),(2000,.cells 115 (lM)),(2001,bP (V.int .i64) 0 cY [] x8),(2002,bP (V.int .i64) 0 dD false (fJ x9 x4 true)),(2003,bP aI bN bU [] x10),(2004,bP (V.int .i64) 0 dC 0 x11),(2005,bP aI bN bU [] x12),(2006,bP bF aZ dG false x13),(2007,bP bE bN dF false x14)],[2000],0⟩ (an1 (aaM (eX Tryz.underlying109 (V.int .i64) kE109 (.mapUpdate 109 (.tmp 46) (.tmp 48) (.const (.bool true))) (.tmp 46) (.tmp 48) (.const (.bool true)) (.inr rfl) 0 dD false (fun _=>rfl) 0 2002 x9 x4 true) (eF.same [.own 2002,.i x4,.bool true]))) ?_;exact jN (x8,(fJ x9 x4 true)) LR h
     ·replace h:=aG hc3 h;refine aaF ?_;exact jN (x8,x9) LR h
   ·rintro⟨l16,l17⟩ h;replace h:=(congrFun hK2 _).symm.trans h;obtain⟨K3,hK3,h⟩:=aO h;refine aaU (α:=List Ty0) (fun(l18:List Ty0)=>⟨139,(f45z6),(f45z5 x1 x2 x3 x4 x5 x6 x7 l16 l17 l18 x11 x12 x13 x14),[2000],0⟩) (fun x=>K3 x=some r) ?_ ?_
    ·refine aN [] [(8,⟨[.own 2003,.agg [.i r15.1,.i x4]],[2003],[2003],[(2003,bP aI bN bU [] x10)],.tup [.str (gM x10 [] (r15.1,x4)),.bool (hM x10 (r15.1,x4))],[],[],[]⟩)] [0,3,4,9] [3,2000,2001,2002,2003,2004,2005,2006,2007] (an1 (aaM (dW (P:=Tryz.prog) Tryz.underlying110 aI yD bN bU [] [] (by kernel_rfl) (.tmp 53) (.tmp 57) 118 2003 x10 (r15.1,x4)) (eF.same [.own 2003,.agg [.i r15.1,.i x4]]))) ?_;refine bJ [] [] ⟨139,[(0,.ptr 2000 0),(3,.ptr 3 0),(4,.i r15.1),(62,.bool (!(hM x10 (r15.1,x4))))],(f45z3 x1 x2 x3 x4 x5 x6 x7 l16 l17 x10 x11 x12 x13 x14),[2000],0⟩ trivial ?_;refine cK (!(hM x10 (r15.1,x4))) (fun hc4=> ?_) fun hc4=> ?_
     ·replace h:=aF hc4 h;refine bG [] [(10,⟨[.own 2003,.agg [.i r15.1,.i x4],.str x6],[2003],[2003],[(2003,bP aI bN bU [] (fJ x10 (r15.1,x4) x6))],.any,[],[],[]⟩)] [0,3] [3,2000,2001,2002,2003,2004,2005,2006,2007] (an1 (aaM (eX Tryz.underlying110 aI yD (.mapUpdate 110 (.tmp 66) (.tmp 70) (.tmp 72)) (.tmp 66) (.tmp 70) (.tmp 72) (.inr rfl) bN bU [] (fun _=>rfl) 0 2003 x10 (r15.1,x4) x6) (eF.same [.own 2003,.agg [.i r15.1,.i x4],.str x6]))) ?_;exact jN ((fJ x10 (r15.1,x4) x6)) LR h
     ·replace h:=aG hc4 h;refine aaF ?_;exact jN (x10) LR h
    ·rintro l18 h;replace h:=(congrFun hK3 _).symm.trans h;refine aN [] [] [0,3,75] [3,2000,2001,2002,2003,2004,2005,2006,2007] trivial ?_;refine cK (x2==(3:Int)) (fun hc5=> ?_) fun hc5=> ?_
     ·replace h:=aF hc5 h;obtain⟨ob0,h⟩:=aB h;refine bH [] [(6,⟨[.own 2004,.i x3],[2004],[2004],[(2004,bP (V.int .i64) 0 dC 0 x11)],.i (gM x11 (0:Int) x3),[],[],[]⟩),(8,⟨[.own 2004,.i x3,.i ((gM x11 (0:Int) x3)+(1:Int))],[2004],[2004],[(2004,bP (V.int .i64) 0 dC 0 (fJ x11 x3 ((gM x11 (0:Int) x3)+(1:Int))))],.any,[],[],[]⟩)] ⟨139,(f45z6),[(3,.cells 51 (pR x1 x2 x3 x4 x5 x6 x7)),(2000,.cells 115 (lM)),(2001,bP (V.int .i64) 0 cY [] l16),(2002,bP (V.int .i64) 0 dD false l17),(2003,bP aI bN bU [] l18),(2004,bP (V.int .i64) 0 dC 0 (fJ x11 x3 ((gM x11 (0:Int) x3)+(1:Int)))),(2005,bP aI bN bU [] x12),(2006,bP bF aZ dG false x13),(2007,bP bE bN dF false x14)],[2000],0⟩ (an3 (aaM (eH (P:=Tryz.prog) Tryz.underlying111 (V.int .i64) kE111 0 dC 0 (0:Int) (by kernel_rfl) (.tmp 79) (.tmp 81) 3 2004 x11 x3) (eF.same [.own 2004,.i x3])) ob0 (aaM (eX Tryz.underlying111 (V.int .i64) kE111 (.mapUpdate 111 (.tmp 79) (.tmp 81) (.tmp 83)) (.tmp 79) (.tmp 81) (.tmp 83) (.inr rfl) 0 dC 0 (fun _=>rfl) 0 2004 x11 x3 ((gM x11 (0:Int) x3)+(1:Int))) (eF.same [.own 2004,.i x3,.i ((gM x11 (0:Int) x3)+(1:Int))]))) ?_;exact jN (l16,l17,l18,(fJ x11 x3 ((gM x11 (0:Int) x3)+(1:Int)))) LR h
     ·replace h:=aG hc5 h;refine aaF ?_;exact jN (l16,l17,l18,x11) LR h
  ·replace h:=aG hc1 h;refine aaF ?_;exact jN (x8,x9,x10,x11) LR h
 ·rintro⟨l19,l20,l21,l22⟩ h;replace h:=(congrFun hK1 _).symm.trans h;refine aN [] [] [0,3,10] [3,10,2000,2001,2002,2003,2004,2005,2006,2007] (an1 trivial) ?_;refine aaJ (aaE ?_);obtain⟨r23,hr23,h⟩:=cF h;refine bG [] [(5,⟨[.agg (pR x1 x2 x3 x4 x5 x6 x7)],[],[],[],.bool r23,[],[],[]⟩)] [0,3,10,89] [3,10,2000,2001,2002,2003,2004,2005,2006,2007] (an2 (aaM (cpC fun hc=>(wD _ _ _ _ _ _ _ _ (hr23 hc))) (an1 (idA (((x2==(1:Int))==true)=true)))) (bqA (x2==(1:Int)) true)) ?_;refine tN (cK ((x2==(1:Int))&&r23) (fun hc6=> ?_) fun hc6=> ?_)
  ·replace h:=aF hc6 h;refine aN [] [(11,⟨[.own 2006,.agg [.i x3,.i x5,.str x6],.bool true],[2006],[2006],[(2006,bP bF aZ dG false (fJ x13 (x3,x5,x6) true))],.any,[],[],[]⟩)] [0,3,10] [3,10,2000,2001,2002,2003,2004,2005,2006,2007] (an1 (aaM (eX Tryz.underlying112 bF kE112 (.mapUpdate 112 (.tmp 100) (.tmp 107) (.const (.bool true))) (.tmp 100) (.tmp 107) (.const (.bool true)) (.inr rfl) aZ dG false (fun _=>rfl) 0 2006 x13 (x3,x5,x6) true) (eF.same [.own 2006,.agg [.i x3,.i x5,.str x6],.bool true]))) ?_;refine aN [] [(5,⟨[.own 2005,.agg (yT x3 x5)],[2005],[2005],[(2005,bP aI bN bU [] x12)],.tup [.str (gM x12 [] (x3,x5)),.bool (hM x12 (x3,x5))],[],[],[]⟩)] [0,3,10,12] [3,10,2000,2001,2002,2003,2004,2005,2006,2007] (an1 (aaM (dW (P:=Tryz.prog) Tryz.underlying110 aI yD bN bU [] [] (by kernel_rfl) (.tmp 112) (.tmp 113) 118 2005 x12 (x3,x5)) (eF.same [.own 2005,.agg (yT x3 x5)]))) ?_;refine bJ [] [] ⟨139,[(0,.ptr 2000 0),(3,.ptr 3 0),(10,.ptr 10 0),(118,.bool (!(hM x12 (x3,x5))))],(f45z4 x1 x2 x3 x4 x5 x6 x7 l19 l20 l21 l22 x12 x13 x14),[2000],0⟩ trivial ?_;refine cK (!(hM x12 (x3,x5))) (fun hc7=> ?_) fun hc7=> ?_
   ·replace h:=aF hc7 h;refine bH [] [(7,⟨[.own 2005,.agg (yT x3 x5),.str x6],[2005],[2005],[(2005,bP aI bN bU [] (fJ x12 (x3,x5) x6))],.any,[],[],[]⟩)] ⟨139,[],[(2000,.cells 115 (lM)),(2001,bP (V.int .i64) 0 cY [] l19),(2002,bP (V.int .i64) 0 dD false l20),(2003,bP aI bN bU [] l21),(2004,bP (V.int .i64) 0 dC 0 l22),(2005,bP aI bN bU [] (fJ x12 (x3,x5) x6)),(2006,bP bF aZ dG false (fJ x13 (x3,x5,x6) true)),(2007,bP bE bN dF false x14)],[2000],0⟩ (an1 (aaM (eX Tryz.underlying110 aI yD (.mapUpdate 110 (.tmp 122) (.tmp 123) (.tmp 125)) (.tmp 122) (.tmp 123) (.tmp 125) (.inr rfl) bN bU [] (fun _=>rfl) 0 2005 x12 (x3,x5) x6) (eF.same [.own 2005,.agg (yT x3 x5),.str x6]))) ?_;refine kN ?_;obtain rfl:=aaD h;exact oD (LR (s':=⟨139,[],[(2000,.cells 115 (lM)),(2001,bP (V.int .i64) 0 cY [] l19),(2002,bP (V.int .i64) 0 dD false l20),(2003,bP aI bN bU [] l21),(2004,bP (V.int .i64) 0 dC 0 l22),(2005,bP aI bN bU [] (fJ x12 (x3,x5) x6)),(2006,bP bF aZ dG false (fJ x13 (x3,x5,x6) true)),(2007,bP bE bN dF false x14)],[2000],0⟩)) (fQ _ rfl ⟨rfl,rfl⟩ rfl)
   ·replace h:=aG hc7 h;refine aaF (kN ?_);obtain rfl:=aaD h;exact oD (LR (s':=⟨139,[],[(2000,.cells 115 (lM)),(2001,bP (V.int .i64) 0 cY [] l19),(2002,bP (V.int .i64) 0 dD false l20),(2003,bP aI bN bU [] l21),(2004,bP (V.int .i64) 0 dC 0 l22),(2005,bP aI bN bU [] x12),(2006,bP bF aZ dG false (fJ x13 (x3,x5,x6) true)),(2007,bP bE bN dF false x14)],[2000],0⟩)) (fQ _ rfl ⟨rfl,rfl⟩ rfl)
  ·replace h:=aG hc6 h;refine aaE ?_;obtain⟨r24,hr24,h⟩:=cF h;refine bH [] [(5,⟨[.agg (pR x1 x2 x3 x4 x5 x6 x7)],[],[],[],.bool r24,[],[],[]⟩)] ⟨139,[(0,.ptr 2000 0),(10,.ptr 10 0),(126,.bool ((x2==(2:Int))&&r24))],((10,.cells 145 (yT x3 x5))::(2000,.cells 115 (lM))::qmp 2001 l19 l20 l21 l22 x12 x13 x14),[2000],0⟩ (an2 (aaM (cpC fun hc=>(wD _ _ _ _ _ _ _ _ (hr24 hc))) (an1 (idA (((x2==(2:Int))==true)=true)))) (bqA (x2==(2:Int)) true)) ?_;refine tN (cK ((x2==(2:Int))&&r24) (fun hc8=> ?_) fun hc8=> ?_)
   ·replace h:=aF hc8 h;refine bH [] [(5,⟨[.own 2007,.agg (yT x3 x5),.bool true],[2007],[2007],[(2007,bP bE bN dF false (fJ x14 (x3,x5) true))],.any,[],[],[]⟩)] ⟨139,[],[(2000,.cells 115 (lM)),(2001,bP (V.int .i64) 0 cY [] l19),(2002,bP (V.int .i64) 0 dD false l20),(2003,bP aI bN bU [] l21),(2004,bP (V.int .i64) 0 dC 0 l22),(2005,bP aI bN bU [] x12),(2006,bP bF aZ dG false x13),(2007,bP bE bN dF false (fJ x14 (x3,x5) true))],[2000],0⟩ (an1 (aaM (eX Tryz.underlying113 bE kE113 (.mapUpdate 113 (.tmp 137) (.tmp 138) (.const (.bool true))) (.tmp 137) (.tmp 138) (.const (.bool true)) (.inr rfl) bN dF false (fun _=>rfl) 0 2007 x14 (x3,x5) true) (eF.same [.own 2007,.agg (yT x3 x5),.bool true]))) ?_;refine kN ?_;obtain rfl:=aaD h;exact oD (LR (s':=⟨139,[],[(2000,.cells 115 (lM)),(2001,bP (V.int .i64) 0 cY [] l19),(2002,bP (V.int .i64) 0 dD false l20),(2003,bP aI bN bU [] l21),(2004,bP (V.int .i64) 0 dC 0 l22),(2005,bP aI bN bU [] x12),(2006,bP bF aZ dG false x13),(2007,bP bE bN dF false (fJ x14 (x3,x5) true))],[2000],0⟩)) (fQ _ rfl ⟨rfl,rfl⟩ rfl)
   ·replace h:=aG hc8 h;refine aaF (kN ?_);obtain rfl:=aaD h;exact oD (LR (s':=⟨139,[],((2000,.cells 115 (lM))::qmp 2001 l19 l20 l21 l22 x12 x13 x14),[2000],0⟩)) (fQ _ rfl ⟨rfl,rfl⟩ rfl)
def nJ (x1:List Y51) (K1:Int->Option Tq6):Nat->(Nat×Int×gN×gL×Ty5×iA×Ty5×Ty2×Ty3)->Option Tq6
 |0,_=>none
 |k+1,(n4,i5,l6,l7,l8,l9,l10,l11,l12)=>
  if(decide ((n4:Int)<(((x1).length:Nat):Int)))then(
  chk ((n4:Int)<(((x1).length:Nat):Int))<|
  (f42 ((x1.getD n4 (default:Y51)).1) ((x1.getD n4 (default:Y51)).2.1) ((x1.getD n4 (default:Y51)).2.2.1) ((x1.getD n4 (default:Y51)).2.2.2.1) ((x1.getD n4 (default:Y51)).2.2.2.2.1) ((x1.getD n4 (default:Y51)).2.2.2.2.2.1) ((x1.getD n4 (default:Y51)).2.2.2.2.2.2) l6 l7 l8 l9 l10 l11 l12 i5).bind fun r13=>
  if r13.1 then(
  some ((n4:Int),(0:Int),r13.2.2.2.2.2.2.2.2)
  )else(
  (f45 ((x1.getD n4 (default:Y51)).1) ((x1.getD n4 (default:Y51)).2.1) ((x1.getD n4 (default:Y51)).2.2.1) ((x1.getD n4 (default:Y51)).2.2.2.1) ((x1.getD n4 (default:Y51)).2.2.2.2.1) ((x1.getD n4 (default:Y51)).2.2.2.2.2.1) ((x1.getD n4 (default:Y51)).2.2.2.2.2.2) r13.2.1 r13.2.2.1 r13.2.2.2.1 r13.2.2.2.2.1 r13.2.2.2.2.2.1 r13.2.2.2.2.2.2.1 r13.2.2.2.2.2.2.2.1).bind fun r14=>
  chk (((n4:Int)+(1:Int))<=9223372036854775807)<|
  (nJ x1 K1 k) ((n4+1),r13.2.2.2.2.2.2.2.2,r14.1,r14.2.1,r14.2.2.1,r14.2.2.2.1,r14.2.2.2.2.1,r14.2.2.2.2.2.1,r14.2.2.2.2.2.2)
  )
  )else(
  K1 i5
  )
abbrev yW :List V:=[.own 6001,.own 6002,.own 6003,.own 6004,.own 6005,.own 6006,.own 6007]
abbrev f41z1 (x2:Int) (r3:gN×gL×Ty5×iA×Ty5×Ty2×Ty3):aJ:=[(6,.cells 115 (yW)),(2000,.cells 3 [.i x2]),(6001,bP (V.int .i64) 0 cY [] r3.1),(6002,bP (V.int .i64) 0 dD false r3.2.1),(6003,bP aI (default:Tq1) bU [] r3.2.2.1),(6004,bP (V.int .i64) 0 dC 0 r3.2.2.2.1),(6005,bP aI (default:Tq1) bU [] r3.2.2.2.2.1),(6006,bP bF (default:Tq0) dG false r3.2.2.2.2.2.1),(6007,bP bE (default:Tq1) dF false r3.2.2.2.2.2.2)]
abbrev f41z2 (r13:Bool×gN×gL×Ty5×iA×Ty5×Ty2×Ty3×Int) (r14:gN×gL×Ty5×iA×Ty5×Ty2×Ty3):aJ:=[(6,.cells 115 (yW)),(2000,.cells 3 [.i r13.2.2.2.2.2.2.2.2]),(6001,bP (V.int .i64) 0 cY [] r14.1),(6002,bP (V.int .i64) 0 dD false r14.2.1),(6003,bP aI (default:Tq1) bU [] r14.2.2.1),(6004,bP (V.int .i64) 0 dC 0 r14.2.2.2.1),(6005,bP aI (default:Tq1) bU [] r14.2.2.2.2.1),(6006,bP bF (default:Tq0) dG false r14.2.2.2.2.2.1),(6007,bP bE (default:Tq1) dF false r14.2.2.2.2.2.2)]
def f41 (x1:List Y51) (x2:Int):Option Tq6:=
 (f44).bind fun r3=>
 jn (fun(i15:Int)=>
 some ((0:Int),(13:Int),i15)
 ) fun(K1:Int->Option Tq6)=>
 nJ x1 K1 bB (0,x2,r3.1,r3.2.1,r3.2.2.1,r3.2.2.2.1,r3.2.2.2.2.1,r3.2.2.2.2.2.1,r3.2.2.2.2.2.2)
theorem f41_ok (x1:List Y51) (x2:Int) (r:Tq6) (h:f41 x1 x2=some r):aE Tryz.prog 41 [(1,pT),(2,bV),(3,bV)] [2000] [(2000,.cells 3 [.i x2])] [vL 28 kT (default:Y51) x1,.fn (.func 42) [.ptr 2000 0]] (.tup [.i r.1,.i r.2.1]) [(2000,.cells 3 [.i r.2.2])]:=by
 unfold f41 at h;refine aE.body 0 _ _ Tryz.func41 rfl Tryz.ntmps41 rfl rfl ?_;refine aN [] [] [0,1,1000001,1000002,1000003] [2000] trivial ?_;refine aaE ?_;obtain⟨r3,hr3,h⟩:=bind_ok h;refine bH [] [(0,⟨[],[],[],(qmp 6001 r3.1 r3.2.1 r3.2.2.1 r3.2.2.2.1 r3.2.2.2.2.1 r3.2.2.2.2.2.1 r3.2.2.2.2.2.2),.agg (yW),[6001,6002,6003,6004,6005,6006,6007],[],[]⟩)] ⟨24,[(0,aQ x1),(1,.fn (.func 42) [.ptr 2000 0]),(6,.ptr 6 0),(1000001,pT),(1000002,bV),(1000003,bV)],(f41z1 x2 r3),[2000],0⟩ (an2 (cpT (aE.ren (aT 3006 6007) (aD 3006 6007) rfl (aE.ren (aT 3005 6006) (aD 3005 6006) rfl (aE.ren (aT 3004 6005) (aD 3004 6005) rfl (aE.ren (aT 3003 6004) (aD 3003 6004) rfl (aE.ren (aT 3002 6003) (aD 3002 6003) rfl (aE.ren (aT 3001 6002) (aD 3001 6002) rfl (aE.ren (aT 3000 6001) (aD 3000 6001) rfl (aAI _ hr3))))))))) trivial) ?_;refine tN ?_;obtain⟨K1,hK1,h⟩:=aO h;refine aaU (α:=Int) (fun(i15:Int)=>⟨24,[(1000001,pT),(1000002,bV),(1000003,bV)],[(2000,.cells 3 [.i i15])],[2000],0⟩) (fun x=>K1 x=some r) ?_ ?_
 ·refine aN [] [] [1,6,10,11,12,1000001,1000002,1000003] [6,2000,6001,6002,6003,6004,6005,6006,6007] trivial ?_;refine aaJ (abI (α:=Nat×(Nat×Int×gN×gL×Ty5×iA×Ty5×Ty2×Ty3)) (fun x=>match x with|(_,n4,i5,l6,l7,l8,l9,l10,l11,l12)=>⟨24,[(1,.fn (.func 42) [.ptr 2000 0]),(6,.ptr 6 0),(10,aQ x1),(11,.i (lZ x1)),(12,.i (n4:Int)),(1000001,pT),(1000002,bV),(1000003,bV)],((6,.cells 115 (yW))::(2000,.cells 3 [.i i5])::qmp 6001 l6 l7 l8 l9 l10 l11 l12),[2000],0⟩) (fun x=>nJ x1 K1 x.1 x.2=some r) (fun x=>x.1) (bB,0,x2,r3.1,r3.2.1,r3.2.2.1,r3.2.2.2.1,r3.2.2.2.2.1,r3.2.2.2.2.2.1,r3.2.2.2.2.2.2) LR h ?_)
  rintro⟨k0,n4,i5,l6,l7,l8,l9,l10,l11,l12⟩ h
  cases k0 with
  |zero=>exact nEx h
  |succ k0=>
  obtain⟨C0,hC0⟩:∃C,C=nJ x1 K1 k0:=⟨_,rfl⟩;replace h:=(nJ.eq_2 ..).symm.trans h
  try rw[<-hC0]at h
  refine bJ [] [] ⟨24,[(1,.fn (.func 42) [.ptr 2000 0]),(6,.ptr 6 0),(10,aQ x1),(11,.i (lZ x1)),(12,.i (n4:Int)),(13,.bool (decide ((n4:Int)<(lZ x1)))),(1000001,pT),(1000002,bV),(1000003,bV)],((6,.cells 115 (yW))::(2000,.cells 3 [.i i5])::qmp 6001 l6 l7 l8 l9 l10 l11 l12),[2000],0⟩ trivial ?_;refine aaE (cK (decide ((n4:Int)<(lZ x1))) (fun hc1=> ?_) fun hc1=> ?_)
  ·replace h:=aF hc1 h;refine aaF (tN (aaE (aaJ (aaE ?_))));obtain⟨ob0p,h⟩:=aB h;refine bG [] [] [1,6,7,8,10,11,12,1000001,1000002,1000003] [6,8,2000,6001,6002,6003,6004,6005,6006,6007] (an2 (iN ob0p) trivial) ?_;refine tN (aaE (aaE ?_));obtain⟨r13,hr13,h⟩:=bind_ok h;refine bG [] [(2,⟨[.ptr 6 0,.agg (qpt (x1.getD n4 aH)),.ptr 2000 0],[6,6001,6002,6003,6004,6005,6006,6007,2000],[6,2000],[(6,.cells 115 (yW)),(6001,bP (V.int .i64) 0 cY [] r13.2.1),(6002,bP (V.int .i64) 0 dD false r13.2.2.1),(6003,bP aI bN bU [] r13.2.2.2.1),(6004,bP (V.int .i64) 0 dC 0 r13.2.2.2.2.1),(6005,bP aI bN bU [] r13.2.2.2.2.2.1),(6006,bP bF aZ dG false r13.2.2.2.2.2.2.1),(6007,bP bE bN dF false r13.2.2.2.2.2.2.2.1),(2000,.cells 3 [.i r13.2.2.2.2.2.2.2.2])],.bool r13.1,[6001,6002,6003,6004,6005,6006,6007],[],[1,2,3]⟩)] [1,6,7,8,10,11,12,19,1000001,1000002,1000003] [6,8,2000,6001,6002,6003,6004,6005,6006,6007] (an1 (cpT (aE.ren (aT 2008 2000) (aD 2008 2000) rfl (aE.ren (aT 2007 6007) (aD 2007 6007) rfl (aE.ren (aT 2006 6006) (aD 2006 6006) rfl (aE.ren (aT 2005 6005) (aD 2005 6005) rfl (aE.ren (aT 2004 6004) (aD 2004 6004) rfl (aE.ren (aT 2003 6003) (aD 2003 6003) rfl (aE.ren (aT 2002 6002) (aD 2002 6002) rfl (aE.ren (aT 2001 6001) (aD 2001 6001) rfl (aE.ren (aT 2000 6) (aD 2000 6) rfl (f42_ok _ _ _ _ _ _ _ _ _ _ _ _ _ _ _ _ hr13)))))))))))) ?_;refine tN (cK r13.1 (fun hc2=> ?_) fun hc2=> ?_)
   ·replace h:=aF hc2 h;refine bJ [] [] ⟨24,[(4,.i (n4:Int)),(5,.i (0:Int))],[(2000,.cells 3 [.i r13.2.2.2.2.2.2.2.2])],[2000],0⟩ trivial ?_;obtain rfl:=aaD h;refine aaG (tR (kR (tR (tR (kR (aS ?_))))));exact bK
   ·replace h:=aG hc2 h;refine aaF (tN ?_);obtain⟨r14,hr14,h⟩:=bind_ok h;refine bG [] [(1,⟨[.ptr 6 0,.agg (qpt (x1.getD n4 aH))],[6,6001,6002,6003,6004,6005,6006,6007],[6],((6,.cells 115 (yW))::qmp 6001 r14.1 r14.2.1 r14.2.2.1 r14.2.2.2.1 r14.2.2.2.2.1 r14.2.2.2.2.2.1 r14.2.2.2.2.2.2),.tup [],[6001,6002,6003,6004,6005,6006,6007],[],[]⟩)] [1,6,10,11,12,1000001,1000002,1000003] [6,2000,6001,6002,6003,6004,6005,6006,6007] (an1 (cpT (aE.ren (aT 2007 6007) (aD 2007 6007) rfl (aE.ren (aT 2006 6006) (aD 2006 6006) rfl (aE.ren (aT 2005 6005) (aD 2005 6005) rfl (aE.ren (aT 2004 6004) (aD 2004 6004) rfl (aE.ren (aT 2003 6003) (aD 2003 6003) rfl (aE.ren (aT 2002 6002) (aD 2002 6002) rfl (aE.ren (aT 2001 6001) (aD 2001 6001) rfl (aE.ren (aT 2000 6) (aD 2000 6) rfl (aAH _ _ _ _ _ _ _ _ _ _ _ _ _ _ _ hr14))))))))))) ?_;refine kN (tN ?_);obtain⟨ob1p,h⟩:=aB h;refine bH [] [] ⟨24,[(1,.fn (.func 42) [.ptr 2000 0]),(6,.ptr 6 0),(10,aQ x1),(11,.i (lZ x1)),(12,.i (((n4+1):Nat):Int)),(1000001,pT),(1000002,bV),(1000003,bV)],(f41z2 r13 r14),[2000],0⟩ (an1 (iP ob1p)) ?_;rw[hC0]at h;exact lN (_,(n4+1),r13.2.2.2.2.2.2.2.2,r14.1,r14.2.1,r14.2.2.1,r14.2.2.2.1,r14.2.2.2.2.1,r14.2.2.2.2.2.1,r14.2.2.2.2.2.2) LR h (aaK _)
  ·replace h:=aG hc1 h;refine abK (tE (tE (kS ?_)));exact jN (i5) LR h
 ·rintro i15 h;replace h:=(congrFun hK1 _).symm.trans h;refine aN [] [] [4,5] [2000] trivial ?_;obtain rfl:=aaD h;refine aaG ?_;exact bK
def f13 (x1:List Ty1) (x2:List (aaA×BitVec 16)) (x3:BitVec 16) (x4:List Ty9) (x5:List Int) (x6:List (aaA×Bool×(List Tq7))) (x7:List Y51):Option Tq6:=
 (f41 x7 (0:Int)).bind fun r8=>
 some (r8.1,r8.2.2,r8.2.1)
theorem wU (x1:List Ty1) (x2:List (aaA×BitVec 16)) (x3:BitVec 16) (x4:List Ty9) (x5:List Int) (x6:List (aaA×Bool×(List Tq7))) (x7:List Y51) (r:Tq6) (h:f13 x1 x2 x3 x4 x5 x6 x7=some r):aE Tryz.prog 13 [(1,pT),(2,bV),(3,bV)] [] [] [.agg [vL 1 eS [] x1,vL 2 eSW (default:aaA×BitVec 16) x2,.b16 x3,vL 6 eT73 (default:aaA×Int×BitVec 16×aaB×aaB×(List Tq7)) x4,vL 1 eI 0 x5,vL 3 fZ (default:aaA×Bool×(List Tq7)) x6],vL 28 kT (default:Y51) x7] (.tup [.i r.1,.i r.2.1,.i r.2.2]) []:=by
 unfold f13 at h;refine aE.body 0 _ _ Tryz.func13 rfl Tryz.ntmps13 rfl rfl ?_;refine aN [] [] [1,1000001,1000002,1000003] [] trivial ?_;refine aN [] [] [1,7,1000001,1000002,1000003] [7] (an1 trivial) ?_;refine aaE ?_;obtain⟨r8,hr8,h⟩:=bind_ok h;refine bG [] [(2,⟨[aQ x7,.fn (.func 42) [.ptr 7 0]],[7],[7],[(7,.cells 3 [.i r8.2.2])],.tup [.i r8.1,.i r8.2.1],[],[],[1,2,3]⟩)] [7,8,9,1000001,1000002,1000003] [7] (an1 (cpT (aE.ren (aT 2000 7) (aD 2000 7) rfl (f41_ok _ _ _ hr8)))) ?_;refine tN (bJ [] [] ⟨19,[(4,.i r8.1),(5,.i r8.2.2),(6,.i r8.2.1)],[],[],0⟩ trivial ?_);obtain rfl:=aaD h;refine aaG ?_;exact bK
def wT (x1:List Y51) (K1:Ty7->Option (List Ty1)):Nat->Ty11->Option (List Ty1)
 |0,_=>none
 |k+1,(n3,l4,l5,l6,l7,l8,l9,l10)=>
  if(decide ((n3:Int)<(((x1).length:Nat):Int)))then(
  chk ((n3:Int)<(((x1).length:Nat):Int))<|
  (f45 ((x1.getD n3 (default:Y51)).1) ((x1.getD n3 (default:Y51)).2.1) ((x1.getD n3 (default:Y51)).2.2.1) ((x1.getD n3 (default:Y51)).2.2.2.1) ((x1.getD n3 (default:Y51)).2.2.2.2.1) ((x1.getD n3 (default:Y51)).2.2.2.2.2.1) ((x1.getD n3 (default:Y51)).2.2.2.2.2.2) l4 l5 l6 l7 l8 l9 l10).bind fun r11=>
  chk (((n3:Int)+(1:Int))<=9223372036854775807)<|
  (wT x1 K1 k) ((n3+1),r11.1,r11.2.1,r11.2.2.1,r11.2.2.2.1,r11.2.2.2.2.1,r11.2.2.2.2.2.1,r11.2.2.2.2.2.2)
  )else(
  K1 (l4,l5,l6,l7,l8,l9,l10)
  )
def wS (l12:List Tq5) (l13:List Tq3):Nat->(List Ty1)->Option (List Ty1)
 |0,_=>none
 |k+1,l19=>
  if(!(hM l12 (((l19).length:Nat):Int)))=true then(
  some l19
  )else(
  if(gM l13 false (((l19).length:Nat):Int))then(
  some l19
  )else(
  chk (((l19).length+1) *16<=140737488355328)<|
  (wS l12 l13 k) (l19++[(gM l12 [] (((l19).length:Nat):Int))])
  )
  )
abbrev tH :List V:=[.own 6001,.own 6002,.own 6003,.own 6004,.own 6005,.own 6006,.own 6007]
abbrev f14z1 (r11:gN×gL×Ty5×iA×Ty5×Ty2×Ty3):aJ:=[(3,.cells 115 (tH)),(6001,bP (V.int .i64) 0 cY [] r11.1),(6002,bP (V.int .i64) 0 dD false r11.2.1),(6003,bP aI (default:Tq1) bU [] r11.2.2.1),(6004,bP (V.int .i64) 0 dC 0 r11.2.2.2.1),(6005,bP aI (default:Tq1) bU [] r11.2.2.2.2.1),(6006,bP bF (default:Tq0) dG false r11.2.2.2.2.2.1),(6007,bP bE (default:Tq1) dF false r11.2.2.2.2.2.2)]
abbrev f14z2 (l19:List Ty1) (l12:List Tq5) (l13:List Tq3) (l14:List Ty0) (l15:List Tq1) (l16:List Ty0) (l17:List iB) (l18:List gZ):aJ:=[(3,.cells 115 (tH)),(5006,bL 9 1 eS [] l19),(6001,bP (V.int .i64) 0 cY [] l12),(6002,bP (V.int .i64) 0 dD false l13),(6003,bP aI (default:Tq1) bU [] l14),(6004,bP (V.int .i64) 0 dC 0 l15),(6005,bP aI (default:Tq1) bU [] l16),(6006,bP bF (default:Tq0) dG false l17),(6007,bP bE (default:Tq1) dF false l18)]
abbrev f14z3 (r2:gN×gL×Ty5×iA×Ty5×Ty2×Ty3):aJ:=[(3,.cells 115 (tH)),(6001,bP (V.int .i64) 0 cY [] r2.1),(6002,bP (V.int .i64) 0 dD false r2.2.1),(6003,bP aI (default:Tq1) bU [] r2.2.2.1),(6004,bP (V.int .i64) 0 dC 0 r2.2.2.2.1),(6005,bP aI (default:Tq1) bU [] r2.2.2.2.2.1),(6006,bP bF (default:Tq0) dG false r2.2.2.2.2.2.1),(6007,bP bE (default:Tq1) dF false r2.2.2.2.2.2.2)]
abbrev f14z4 (l4:List Tq5) (l5:List Tq3) (l6:List Ty0) (l7:List Tq1) (l8:List Ty0) (l9:List iB) (l10:List gZ):aJ:=[(3,.cells 115 (tH)),(6001,bP (V.int .i64) 0 cY [] l4),(6002,bP (V.int .i64) 0 dD false l5),(6003,bP aI (default:Tq1) bU [] l6),(6004,bP (V.int .i64) 0 dC 0 l7),(6005,bP aI (default:Tq1) bU [] l8),(6006,bP bF (default:Tq0) dG false l9),(6007,bP bE (default:Tq1) dF false l10)]
abbrev f14z5 (l12:List Tq5) (l13:List Tq3) (l14:List Ty0) (l15:List Tq1) (l16:List Ty0) (l17:List iB) (l18:List gZ):aJ:=[(3,.cells 115 (tH)),(6001,bP (V.int .i64) 0 cY [] l12),(6002,bP (V.int .i64) 0 dD false l13),(6003,bP aI (default:Tq1) bU [] l14),(6004,bP (V.int .i64) 0 dC 0 l15),(6005,bP aI (default:Tq1) bU [] l16),(6006,bP bF (default:Tq0) dG false l17),(6007,bP bE (default:Tq1) dF false l18)]
abbrev f14z6 :=Ty5
abbrev f14z7 :List (Nat×V):=[(3,.ptr 3 0),(6,.own 5006)]
def f14 (x1:List Y51):Option (List Ty1):=
 (f44).bind fun r2=>
 jn (fun((l12,l13,l14,l15,l16,l17,l18):gN×gL×Ty5×iA×Ty5×Ty2×Ty3)=>
 wS l12 l13 bB []
 ) fun(K1:Ty7->Option (List Ty1))=>
 wT x1 K1 bB (0,r2.1,r2.2.1,r2.2.2.1,r2.2.2.2.1,r2.2.2.2.2.1,r2.2.2.2.2.2.1,r2.2.2.2.2.2.2)
theorem f14_ok (x1:List Y51) (r:List Ty1) (h:f14 x1=some r):aE Tryz.prog 14 [] [] [] [vL 28 kT (default:Y51) x1] (.own 3000) [(3000,bL 9 1 eS [] r)]:=by
 unfold f14 at h;refine aE.body 0 _ _ Tryz.func14 rfl Tryz.ntmps14 rfl rfl ?_;refine aN [] [] [0] [] trivial ?_;refine aaE ?_;obtain⟨r2,hr2,h⟩:=bind_ok h;refine bH [] [(0,⟨[],[],[],(qmp 6001 r2.1 r2.2.1 r2.2.2.1 r2.2.2.2.1 r2.2.2.2.2.1 r2.2.2.2.2.2.1 r2.2.2.2.2.2.2),.agg (tH),[6001,6002,6003,6004,6005,6006,6007],[],[]⟩)] ⟨41,[(0,aQ x1),(3,.ptr 3 0)],(f14z3 r2),[],0⟩ (an2 (cpT (aE.ren (aT 3006 6007) (aD 3006 6007) rfl (aE.ren (aT 3005 6006) (aD 3005 6006) rfl (aE.ren (aT 3004 6005) (aD 3004 6005) rfl (aE.ren (aT 3003 6004) (aD 3003 6004) rfl (aE.ren (aT 3002 6003) (aD 3002 6003) rfl (aE.ren (aT 3001 6002) (aD 3001 6002) rfl (aE.ren (aT 3000 6001) (aD 3000 6001) rfl (aAI _ hr2))))))))) trivial) ?_;refine tN ?_;obtain⟨K1,hK1,h⟩:=aO h;refine aaU (fun(x:gN×gL×(f14z6)×iA×(f14z6)×Ty2×Ty3)=>match x with|(l12,l13,l14,l15,l16,l17,l18)=>⟨41,[(3,.ptr 3 0)],(f14z5 l12 l13 l14 l15 l16 l17 l18),[],0⟩) (fun x=>K1 x=some r) ?_ ?_
 ·refine aN [] [] [3,10,11,12] [3,6001,6002,6003,6004,6005,6006,6007] trivial ?_;refine aaJ (abI (α:=Nat×(Nat×gN×gL×(f14z6)×iA×(f14z6)×Ty2×Ty3)) (fun x=>match x with|(_,n3,l4,l5,l6,l7,l8,l9,l10)=>⟨41,[(3,.ptr 3 0),(10,aQ x1),(11,.i (lZ x1)),(12,.i (n3:Int))],(f14z4 l4 l5 l6 l7 l8 l9 l10),[],0⟩) (fun x=>wT x1 K1 x.1 x.2=some r) (fun x=>x.1) (bB,0,r2.1,r2.2.1,r2.2.2.1,r2.2.2.2.1,r2.2.2.2.2.1,r2.2.2.2.2.2.1,r2.2.2.2.2.2.2) LR h ?_)
  rintro⟨k0,n3,l4,l5,l6,l7,l8,l9,l10⟩ h
  cases k0 with
  |zero=>exact nEx h
  |succ k0=>
  obtain⟨C0,hC0⟩:∃C,C=wT x1 K1 k0:=⟨_,rfl⟩;replace h:=(wT.eq_2 ..).symm.trans h
  try rw[<-hC0]at h
  refine aN [] [] [3,10,11,12,13] [3,6001,6002,6003,6004,6005,6006,6007] trivial ?_;refine aaE (cK (decide ((n3:Int)<(lZ x1))) (fun hc1=> ?_) fun hc1=> ?_)
  ·replace h:=aF hc1 h;refine aaF (tN (aaE (aaJ (aaE ?_))));obtain⟨ob0p,h⟩:=aB h;refine bG [] [] [3,5,10,11,12] [3,5,6001,6002,6003,6004,6005,6006,6007] (an2 (iN ob0p) trivial) ?_;refine tN ?_;obtain⟨r11,hr11,h⟩:=bind_ok h;refine bH [] [(1,⟨[.ptr 3 0,.agg (qpt (x1.getD n3 aH))],[3,6001,6002,6003,6004,6005,6006,6007],[3],(f14z1 r11),.tup [],[6001,6002,6003,6004,6005,6006,6007],[],[]⟩)] ⟨41,[(3,.ptr 3 0),(10,aQ x1),(11,.i (lZ x1)),(12,.i (n3:Int))],(f14z1 r11),[],0⟩ (an1 (cpT (aE.ren (aT 2007 6007) (aD 2007 6007) rfl (aE.ren (aT 2006 6006) (aD 2006 6006) rfl (aE.ren (aT 2005 6005) (aD 2005 6005) rfl (aE.ren (aT 2004 6004) (aD 2004 6004) rfl (aE.ren (aT 2003 6003) (aD 2003 6003) rfl (aE.ren (aT 2002 6002) (aD 2002 6002) rfl (aE.ren (aT 2001 6001) (aD 2001 6001) rfl (aE.ren (aT 2000 3) (aD 2000 3) rfl (aAH _ _ _ _ _ _ _ _ _ _ _ _ _ _ _ hr11))))))))))) ?_;refine kN (tN ?_);obtain⟨ob1p,h⟩:=aB h;refine bG [] [] [3,10,11,12] [3,6001,6002,6003,6004,6005,6006,6007] (an1 (iP ob1p)) ?_;rw[hC0]at h;exact lN (_,(n3+1),r11.1,r11.2.1,r11.2.2.1,r11.2.2.2.1,r11.2.2.2.2.1,r11.2.2.2.2.2.1,r11.2.2.2.2.2.2) LR h (aaK _)
  ·replace h:=aG hc1 h;refine abK (tE (tE (kS ?_)));exact jN (l4,l5,l6,l7,l8,l9,l10) LR h
 ·rintro⟨l12,l13,l14,l15,l16,l17,l18⟩ h;replace h:=(congrFun hK1 _).symm.trans h;refine bJ [] [] ⟨41,[(3,.ptr 3 0),(6,.nils)],(f14z5 l12 l13 l14 l15 l16 l17 l18),[],0⟩ trivial ?_;refine aaJ (abI (α:=Nat×(List Ty1)) (fun x=>match x with|(_,l19)=>⟨41,(f14z7),(f14z2 l19 l12 l13 l14 l15 l16 l17 l18),[],0⟩) (fun x=>wS l12 l13 x.1 x.2=some r) (fun x=>x.1) (bB,[]) (aaL (aaL (adM 6 5006 9 1 (cE eS [] []) rfl rfl (aaW rfl)) (LR (s':=⟨41,(f14z7),[(3,.cells 115 (tH)),(6001,bP (V.int .i64) 0 cY [] l12),(6002,bP (V.int .i64) 0 dD false l13),(6003,bP aI bN bU [] l14),(6004,bP (V.int .i64) 0 dC 0 l15),(6005,bP aI bN bU [] l16),(6006,bP bF aZ dG false l17),(6007,bP bE bN dF false l18),(5006,aK [])],[],0⟩))) LR) h ?_)
  rintro⟨k1,l19⟩ h
  cases k1 with
  |zero=>exact nEx h
  |succ k1=>
  obtain⟨C1,hC1⟩:∃C,C=wS l12 l13 k1:=⟨_,rfl⟩;replace h:=(wS.eq_2 ..).symm.trans h
  try rw[<-hC1]at h
  refine aaJ ?_;refine bJ [] [(4,⟨[.own 6001,.i (lZ l19)],[6001],[6001],[(6001,bP (V.int .i64) 0 cY [] l12)],.tup [.str (gM l12 [] (lZ l19)),.bool (hM l12 (lZ l19))],[],[],[]⟩)] ⟨41,[(3,.ptr 3 0),(6,.own 5006),(7,.str (gM l12 [] (lZ l19))),(8,.bool (hM l12 (lZ l19)))],(f14z2 l19 l12 l13 l14 l15 l16 l17 l18),[],0⟩ (an1 (aaM (dW (P:=Tryz.prog) Tryz.underlying108 (V.int .i64) kE108 0 cY [] [] (by kernel_rfl) (.tmp 21) (.tmp 23) 118 6001 l12 (lZ l19)) (eF.same [.own 6001,.i (lZ l19)]))) ?_;refine aaE (aaE ?_);by_cases hg9_2:(!(hM l12 (((l19).length:Nat):Int)))=true
  ·replace h:=vA hg9_2 h;have ob2:=idA (false=true);have ob3:=idA (false=true);have ob4:true=true->true=false->false=true:=by first|decide|omega|simp|(intro h;cases h)
   refine bH [] [(2,⟨[],[],[],[],(.bool true),[],[0],[]⟩),(7,⟨[],[],[],[],.bool (gM l13 false (lZ l19)),[],[],[]⟩)] ⟨41,[(3,.ptr 3 0),(6,.own 5006),(7,.str (gM l12 [] (lZ l19))),(35,.bool true)],(f14z2 l19 l12 l13 l14 l15 l16 l17 l18),[],0⟩ (an5 (show((.bool (!(hM l12 (lZ l19)))):V)=(.bool true)from(congrArg (fun x=>((.bool x):V)) hg9_2)) (an1 ob2) (an1 ob3) trivial ob4) ?_;refine tN (cK true (fun hc=> ?_) fun hc=> ?_)
   ·clear hc;refine bJ [] [] ⟨41,[(2,.own 5006)],[(5006,aK l19)],[],0⟩ trivial ?_;refine aaX (aaL (acQ (aT 5006 3000) (aD 5006 3000) rfl) (LR (s':=⟨41,[(2,.own 3000)],[(3000,aK l19)],[],0⟩))) ?_;obtain rfl:=aaD h;refine aaX (LR (s':=⟨41,[(2,.own 3000)],[(3000,aK l19)],[],0⟩)) ?_;refine aaG (tR (kR (tR (kR ?_))));exact bK
   ·cases hc
  ·replace h:=vB hg9_2 h;have ob2:=idA (true=true);have ob3:=idA (true=true);have ob4:=idA (true=true);refine bG [] [(2,⟨[],[],[],[],(.bool false),[],[0],[]⟩),(7,⟨[.own 6002,.i (lZ l19)],[6002],[6002],[(6002,bP (V.int .i64) 0 dD false l13)],.bool (gM l13 false (lZ l19)),[],[],[]⟩)] [3,6,7,35] [3,5006,6001,6002,6003,6004,6005,6006,6007] (an5 (show((.bool (!(hM l12 (lZ l19)))):V)=(.bool false)from(congrArg (fun x=>((.bool x):V)) (aeG.2 hg9_2))) (an1 ob2) (an1 ob3) (aaM (aaM (eH (P:=Tryz.prog) Tryz.underlying109 (V.int .i64) kE109 0 dD false false (by kernel_rfl) (.tmp 31) (.tmp 33) 4 6002 l13 (lZ l19)) (eF.same [.own 6002,.i (lZ l19)])) (an2 ob4 (idA (true=true)))) trivial) ?_;refine tN (cK (gM l13 false (lZ l19)) (fun hc3=> ?_) fun hc3=> ?_)
   ·replace h:=aF hc3 h;refine bJ [] [] ⟨41,[(2,.own 5006)],[(5006,aK l19)],[],0⟩ trivial ?_;refine aaX (aaL (acQ (aT 5006 3000) (aD 5006 3000) rfl) (LR (s':=⟨41,[(2,.own 3000)],[(3000,aK l19)],[],0⟩))) ?_;obtain rfl:=aaD h;refine aaX (LR (s':=⟨41,[(2,.own 3000)],[(3000,aK l19)],[],0⟩)) ?_;refine aaG (tR (kR (tR (kR ?_))));exact bK
   ·replace h:=aG hc3 h;refine aaF (tN ?_);obtain⟨ob6,h⟩:=aB h;refine bH [] [] ⟨41,(f14z7),((3,.cells 115 (tH))::(5006,.rows 9 1 ((l19).length+1) (gK (l19).length (cE eS [] l19) (dN 1 [.str (gM l12 [] (lZ l19))])))::qmp 6001 l12 l13 l14 l15 l16 l17 l18),[],0⟩ (an1 ob6) ?_;refine kN ?_;rw[hC1]at h;exact lN (_,(l19++[(gM l12 [] (lZ l19))])) (aaL (acZ (s':=⟨41,(f14z7),((3,.cells 115 (tH))::(5006,aK (l19++[(gM l12 [] (lZ l19))]))::qmp 6001 l12 l13 l14 l15 l16 l17 l18),[],0⟩) rfl rfl ⟨.refl _,.refl _,trivial⟩ ⟨⟨_,rfl,.refl _⟩,⟨_,rfl,(acK (adQ (acX _) (acV (enc:=eS) [(gM l12 [] (lZ l19))] rfl rfl (fun _=>rfl))))⟩,⟨_,rfl,.refl _⟩,⟨_,rfl,.refl _⟩,⟨_,rfl,.refl _⟩,⟨_,rfl,.refl _⟩,⟨_,rfl,.refl _⟩,⟨_,rfl,.refl _⟩,⟨_,rfl,.refl _⟩,trivial⟩) LR) h (aaK _)
def wP (x1 x2:List Ty1) (K1:Unit->Option Bool):Nat->Nat->Option Bool
 |0,_=>none
 |k+1,n3=>
  if(decide ((n3:Int)<(((x1).length:Nat):Int)))then(
  chk ((n3:Int)<(((x1).length:Nat):Int))<|
  chk ((n3:Int)<(((x2).length:Nat):Int))<|
  if(!((x1.getD n3 [])==(x2.getD n3 [])))then(
  some false
  )else(
  chk (((n3:Int)+(1:Int))<=9223372036854775807)<|
  (wP x1 x2 K1 k) (n3+1)
  )
  )else(
  K1 ()
  )
def f15 (x1 x2:List Ty1):Option Bool:=
 if((((x1).length:Nat):Int) !=(((x2).length:Nat):Int))then(
 some false
 )else(
 jn (fun(_:Unit)=>
 some true
 ) fun(K1:Unit->Option Bool)=>
 wP x1 x2 K1 bB 0
 )
theorem f15_ok (x1 x2:List Ty1) (r:Bool) (h:f15 x1 x2=some r):aE Tryz.prog 15 [] [] [] [vL 1 eS [] x1,vL 1 eS [] x2] (.bool r) []:=by
 unfold f15 at h;refine aE.body 0 _ _ Tryz.func15 rfl Tryz.ntmps15 rfl rfl ?_;refine aN [] [] [0,1] [] trivial ?_;refine aaE (bJ [] [] ⟨26,[(0,eC x1),(1,eC x2),(10,.bool ((lZ x1) !=(lZ x2)))],[],[],0⟩ trivial ?_);refine cK ((lZ x1) !=(lZ x2)) (fun hc1=> ?_) fun hc1=> ?_
 ·replace h:=aF hc1 h;refine aN [] [] [4] [] trivial ?_;obtain rfl:=aaD h;refine aaG (tR ?_);exact bK
 ·replace h:=aG hc1 h;refine aaF (tN ?_);obtain⟨K1,hK1,h⟩:=aO h;refine aaU (fun(x:Unit)=>match x with|()=>⟨26,[],[],[],0⟩) (fun x=>K1 x=some r) ?_ ?_
  ·refine bJ [] [] ⟨26,[(0,eC x1),(1,eC x2),(5,.i (0:Int))],[],[],0⟩ trivial ?_;refine aaJ (abI (α:=Nat×Nat) (fun x=>match x with|(_,n3)=>⟨26,[(0,eC x1),(1,eC x2),(5,.i (n3:Int))],[],[],0⟩) (fun x=>wP x1 x2 K1 x.1 x.2=some r) (fun x=>x.1) (bB,0) LR h ?_)
   rintro⟨k0,n3⟩ h
   cases k0 with
   |zero=>exact nEx h
   |succ k0=>
   obtain⟨C0,hC0⟩:∃C,C=wP x1 x2 K1 k0:=⟨_,rfl⟩;replace h:=(wP.eq_2 ..).symm.trans h
   try rw[<-hC0]at h
   refine aaE (aN [] [] [0,1,5,14] [] trivial ?_);refine cK (decide ((n3:Int)<(lZ x1))) (fun hc2=> ?_) fun hc2=> ?_
   ·replace h:=aF hc2 h;refine aaF (tN (aaE (aaJ (aaE ?_))));obtain⟨ob0p,h⟩:=aB h;obtain⟨ob1p,h⟩:=aB h;refine bH [] [] ⟨26,[(0,eC x1),(1,eC x2),(5,.i (n3:Int)),(25,.bool (!((x1.getD n3 [])==(x2.getD n3 []))))],[],[],0⟩ (an2 (iN ob0p) (iN ob1p)) ?_;refine tN (cK (!((x1.getD n3 [])==(x2.getD n3 []))) (fun hc3=> ?_) fun hc3=> ?_)
    ·replace h:=aF hc3 h;refine aN [] [] [4] [] trivial ?_;obtain rfl:=aaD h;refine aaG (kR (tR (tR (kR (aS ?_)))));exact bK
    ·replace h:=aG hc3 h;refine aaF (kN (tN ?_));obtain⟨ob2p,h⟩:=aB h;refine bH [] [] ⟨26,[(0,eC x1),(1,eC x2),(5,.i (((n3+1):Nat):Int))],[],[],0⟩ (an1 (iP ob2p)) ?_;rw[hC0]at h;exact lN (_,(n3+1)) LR h (aaK _)
   ·replace h:=aG hc2 h;refine abK (tE (tE (kS ?_)));exact jN () LR h
  ·rintro⟨⟩ h;replace h:=(congrFun hK1 _).symm.trans h;refine aN [] [] [4] [] trivial ?_;obtain rfl:=aaD h;refine aaG ?_;exact bK
abbrev aBS (r1:Tq4) (r2:Tq6):=((((r1.2.2.2==(0:Int))&&((r1.1==(0:Int))&&((r1.2.1==(0:Int))&&((r1.2.2.1==(12:Int))&&true))))&&(r2.2.2==(0:Int)))&&(r2.1==(1:Int)))
abbrev f11z1 (r1:Tq4) (r2 r3 r4:Tq6):=((((aBS r1 r2)&&(r2.2.1==(1:Int)))&&(r3.2.2==(13:Int)))&&(r4.2.2==(0:Int)))
abbrev zM (r1:Tq4):=((r1.2.2.2==(0:Int))&&((r1.1==(0:Int))&&((r1.2.1==(0:Int))&&((r1.2.2.1==(12:Int))&&true))))
abbrev bW :=([118]:aaA)
abbrev cC :=([119]:aaA)
abbrev qT (r1:Tq4) (r2 r3 r4:Tq6):=((f11z1 r1 r2 r3 r4)&&(r4.2.1==(3:Int)))
abbrev zL (r1:Tq4) (r2:Tq6):=((aBS r1 r2)&&(r2.2.1==(1:Int)))
abbrev f11z7 (r1:Tq4):List V:=[.i r1.1,.i r1.2.1,.i r1.2.2.1]
abbrev aBR (r1:Tq4):=((r1.2.2.2==(0:Int))==true)
abbrev xA :=(List Tq7)
abbrev aAY (r1:Tq4) (r2:Tq6):=(((zM r1)&&(r2.2.2==(0:Int)))==true)
abbrev aAX (r1:Tq4) (r2 r3:Tq6):=(((zL r1 r2)&&(r3.2.2==(13:Int)))==true)
def f11  :Option Bool:=
 (f22 ([(((0:Int),(4:Int),(0:Int),(0:Int),(0:Int),([118]:aaA),[]):Y51),(((0:Int),(3:Int),(0:Int),(0:Int),(0:Int),([119]:aaA),[]):Y51)])).bind fun r1=>
 (f13 [] [] (BitVec.ofInt 16 0) [] [] [] ([(((0:Int),(4:Int),(0:Int),(0:Int),(0:Int),([118]:aaA),[]):Y51),(((0:Int),(3:Int),(0:Int),(0:Int),(0:Int),([119]:aaA),[]):Y51)])).bind fun r2=>
 chk ((0:Int)<((([(((0:Int),(4:Int),(0:Int),(0:Int),(0:Int),([118]:aaA),[]):Y51),(((0:Int),(3:Int),(0:Int),(0:Int),(0:Int),([119]:aaA),[]):Y51)]).length:Nat):Int))<|
 chk (0<([(((0:Int),(4:Int),(0:Int),(0:Int),(0:Int),([118]:aaA),[]):Y51),(((0:Int),(3:Int),(0:Int),(0:Int),(0:Int),([119]:aaA),[]):Y51)]).length)<|
 (f13 [] [] (BitVec.ofInt 16 0) [] [] [] ([(((([(((0:Int),(4:Int),(0:Int),(0:Int),(0:Int),([118]:aaA),[]):Y51),(((0:Int),(3:Int),(0:Int),(0:Int),(0:Int),([119]:aaA),[]):Y51)]).getD 0 (default:Y51)).1,(([(((0:Int),(4:Int),(0:Int),(0:Int),(0:Int),([118]:aaA),[]):Y51),(((0:Int),(3:Int),(0:Int),(0:Int),(0:Int),([119]:aaA),[]):Y51)]).getD 0 (default:Y51)).2.1,(([(((0:Int),(4:Int),(0:Int),(0:Int),(0:Int),([118]:aaA),[]):Y51),(((0:Int),(3:Int),(0:Int),(0:Int),(0:Int),([119]:aaA),[]):Y51)]).getD 0 (default:Y51)).2.2.1,(([(((0:Int),(4:Int),(0:Int),(0:Int),(0:Int),([118]:aaA),[]):Y51),(((0:Int),(3:Int),(0:Int),(0:Int),(0:Int),([119]:aaA),[]):Y51)]).getD 0 (default:Y51)).2.2.2.1,(([(((0:Int),(4:Int),(0:Int),(0:Int),(0:Int),([118]:aaA),[]):Y51),(((0:Int),(3:Int),(0:Int),(0:Int),(0:Int),([119]:aaA),[]):Y51)]).getD 0 (default:Y51)).2.2.2.2.1,(([(((0:Int),(4:Int),(0:Int),(0:Int),(0:Int),([118]:aaA),[]):Y51),(((0:Int),(3:Int),(0:Int),(0:Int),(0:Int),([119]:aaA),[]):Y51)]).getD 0 (default:Y51)).2.2.2.2.2.1,(([(((0:Int),(4:Int),(0:Int),(0:Int),(0:Int),([118]:aaA),[]):Y51),(((0:Int),(3:Int),(0:Int),(0:Int),(0:Int),([119]:aaA),[]):Y51)]).getD 0 (default:Y51)).2.2.2.2.2.2):Y51),(((0:Int),(3:Int),(0:Int),(0:Int),(0:Int),([118]:aaA),[]):Y51)])).bind fun r3=>
 (f13 [] [] (BitVec.ofInt 16 0) [] [] [] ([(((0:Int),(2:Int),(0:Int),(0:Int),(1:Int),[],([111,107,32,49]:aaA)):Y51)])).bind fun r4=>
 (f13 [] [] (BitVec.ofInt 16 0) [] [] [] ([(((0:Int),(3:Int),(0:Int),(1:Int),(0:Int),([118]:aaA),[]):Y51)])).bind fun r5=>
 if((((((((((r1.2.2.2==(0:Int))&&((r1.1==(0:Int))&&((r1.2.1==(0:Int))&&((r1.2.2.1==(12:Int))&&true))))&&(r2.2.2==(0:Int)))&&(r2.1==(1:Int)))&&(r2.2.1==(1:Int)))&&(r3.2.2==(13:Int)))&&(r4.2.2==(0:Int)))&&(r4.2.1==(3:Int)))&&(r5.2.2==(0:Int)))&&(r5.2.1==(2:Int)))=true then(
 (f14 ([(((([(((0:Int),(4:Int),(0:Int),(0:Int),(0:Int),([118]:aaA),[]):Y51),(((0:Int),(3:Int),(0:Int),(0:Int),(0:Int),([119]:aaA),[]):Y51)]).getD 0 (default:Y51)).1,(([(((0:Int),(4:Int),(0:Int),(0:Int),(0:Int),([118]:aaA),[]):Y51),(((0:Int),(3:Int),(0:Int),(0:Int),(0:Int),([119]:aaA),[]):Y51)]).getD 0 (default:Y51)).2.1,(([(((0:Int),(4:Int),(0:Int),(0:Int),(0:Int),([118]:aaA),[]):Y51),(((0:Int),(3:Int),(0:Int),(0:Int),(0:Int),([119]:aaA),[]):Y51)]).getD 0 (default:Y51)).2.2.1,(([(((0:Int),(4:Int),(0:Int),(0:Int),(0:Int),([118]:aaA),[]):Y51),(((0:Int),(3:Int),(0:Int),(0:Int),(0:Int),([119]:aaA),[]):Y51)]).getD 0 (default:Y51)).2.2.2.1,(([(((0:Int),(4:Int),(0:Int),(0:Int),(0:Int),([118]:aaA),[]):Y51),(((0:Int),(3:Int),(0:Int),(0:Int),(0:Int),([119]:aaA),[]):Y51)]).getD 0 (default:Y51)).2.2.2.2.1,(([(((0:Int),(4:Int),(0:Int),(0:Int),(0:Int),([118]:aaA),[]):Y51),(((0:Int),(3:Int),(0:Int),(0:Int),(0:Int),([119]:aaA),[]):Y51)]).getD 0 (default:Y51)).2.2.2.2.2.1,(([(((0:Int),(4:Int),(0:Int),(0:Int),(0:Int),([118]:aaA),[]):Y51),(((0:Int),(3:Int),(0:Int),(0:Int),(0:Int),([119]:aaA),[]):Y51)]).getD 0 (default:Y51)).2.2.2.2.2.2):Y51),(((0:Int),(3:Int),(0:Int),(0:Int),(0:Int),([118]:aaA),[]):Y51)])).bind fun r6=>
 (f15 r6 ([([118]:aaA)])).bind fun r7=>
 some r7
 )else(
 some false
 )
end Go.Abs
