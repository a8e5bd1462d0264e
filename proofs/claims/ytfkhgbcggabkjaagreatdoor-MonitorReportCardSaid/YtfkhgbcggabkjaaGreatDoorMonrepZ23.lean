/- Part 23 of the proof: X54R. -/
import Derived.Test.YtfkhgbcggabkjaaGreatDoorMonrepZ22
namespace Go.Abs
open Go Go.Proofs
set_option maxRecDepth 100000
set_option maxHeartbeats 4000000
abbrev aaG:=@AWp.skip
abbrev aaH:=@AWp.ret
abbrev aaJ:=@AWp.block
abbrev aaK:=@And.intro
abbrev aaM:=@Nat.lt_succ_self
abbrev aaR:=@AWp.join
abbrev aaS:=@AWp.le
abbrev abG:=@AWp.loopL
abbrev abJ:=@AWp.exit
abbrev abX:=@Le.ren
abbrev acE:=@BLe.of
abbrev acH:=@RL.self
abbrev acM:=@RL.lst
abbrev adE:=@Le.nilOwn
abbrev adF:=@RL.app
abbrev adI:=@Le.freeze
abbrev aeL:=@Bool.eq_false_iff
theorem nEx {α:Type} {r:α} {C:Prop} (h:(none:Option α)=some r):C:=nomatch h
abbrev Y51 :Type:=Int×Int×Int×Int×Int×aaA×aaA
abbrev Ty0 :=aaA
abbrev Ty1 :=aaA×Int×BitVec 16×aaB×aaB×(List Tq3)
abbrev Ty2 :=Tq2×aaA
abbrev Ty3 :=Int×Int×Int×aaB×aaB×(List Tq3)
abbrev Ty4 :=aaA×Bool×(List Tq3)
abbrev Ty5 :=List Tq0
abbrev Ty6 :=(List Tq5)×(List Tq4)×(List Ty2)×(List Tq2)×(List Ty2)×(List (Tq0×Bool))×(List (Tq2×Bool))
abbrev Ty7 :=List Tq1
abbrev Ty8 :=aaB
abbrev Ty9 :=List Ty0×BitVec 16×(List Tq7)×(List Ty1)×List Int×(List Ty4)
abbrev rZ :=List (Tq0×Bool)
abbrev rY :=List (Tq2×Bool)
abbrev cU :=List Tq3
abbrev gB :=List Ty2
abbrev Ty14 :=Bool×(List Tq5)×(List Tq4)×gB×(List Tq2)×gB×rZ×rY
abbrev Ty15 :=Int×(List Tq5)×(List Tq4)×gB×(List Tq2)×gB×rZ×rY
abbrev aCY :=Ty7×Ty5×aaA
abbrev aC5 :=Nat×aaB
abbrev kS := @aAQ
abbrev kR := @aCU
abbrev tR := @thenQ_ret
abbrev tE := @aB5
abbrev kN := @vU
abbrev lN := @wX
abbrev jN := @xB
abbrev tN := @nP
theorem kY :Tryz.prog.follows .mixedOrders=true:=by kernel_rfl
def T4 :List Nat:=[0,1,28,2,29,14,24,3,30,22,20,15,25,17,4,8,31,27,13,23,21,19,16,7,26,12,18,6,11,5,10,9]
def T5 :List Nat:=[0,1,56,2,57,49,28,3,61,58,42,50,38,29,17,4,62,47,59,36,45,43,51,22,53,39,33,30,24,18,12,5,63,55,48,27,60,41,37,16,46,35,44,21,52,32,23,11,54,26,40,15,34,20,31,10,25,14,19,9,13,8,7,6]
def T1 :List Nat:=[1,10,100,1000,10000,100000,1000000,10000000,100000000,1000000000,10000000000,100000000000,1000000000000,10000000000000,100000000000000,1000000000000000,10000000000000000,100000000000000000,1000000000000000000,10000000000000000000]
def T8 :List Nat:=[128,191,160,191,128,159,144,191,128,143,0,0,0,0,0,0,0,0,0,0,0,0,0,0,0,0,0,0,0,0,0,0]
def T0 :List Ty0:=[[],[102,111,114,107],[103,97,112],[97,99,107,110,111,119,108,101,100,103,101,109,101,110,116]]
def T0F :Nat->Nat->V:=fun _ j=> .str (T0.getD j [])
instance :DecidableEq Y51:= @instDecidableEqProd Int _ inferInstance (@instDecidableEqProd Int _ inferInstance (@instDecidableEqProd Int _ inferInstance (@instDecidableEqProd Int _ inferInstance (@instDecidableEqProd Int _ inferInstance (@instDecidableEqProd Ty0 _ inferInstance (inferInstance))))))
def sB (x:Y51):List V:=[.i x.1,.i x.2.1,.i x.2.2.1,.i x.2.2.2.1,.i x.2.2.2.2.1,.str x.2.2.2.2.2.1,.str x.2.2.2.2.2.2,.opq,.opq,.opq,.opq,.opq,.opq,.opq,.opq,.opq,.opq,.opq,.opq,.opq,.opq,.opq,.opq,.opq,.opq,.opq,.opq,.opq]
def eI (x:Int):List V:=[.i x]
def eS (x:aaA):List V:=[.str x]
theorem eS_flat (x:aaA) (j:Nat):((eS x).getD j .any).flat=true:=by
 match j with
 |0=>rfl
 |_+1=>rfl
def eSW (x:Tq7):List V:=[.str x.1,.b16 x.2]
def eW (x:BitVec 16):List V:=[.b16 x]
theorem eW_flat (x:BitVec 16) (j:Nat):((eW x).getD j .any).flat=true:=by
 match j with
 |0=>rfl
 |_+1=>rfl
def eWW (x:Tq3):List V:=[.b16 x.1,.b16 x.2]
theorem eWW_flat (x:Tq3) (j:Nat):((eWW x).getD j .any).flat=true:=by
 match j with
 |0=>rfl
 |1=>rfl
 |_+2=>rfl
instance :DecidableEq Ty1:= @instDecidableEqProd Ty0 _ inferInstance (@instDecidableEqProd Int _ inferInstance (@instDecidableEqProd (BitVec 16) _ inferInstance (@instDecidableEqProd Ty8 _ inferInstance (@instDecidableEqProd Ty8 _ inferInstance (inferInstance)))))
def dL (x:aaA×Int×BitVec 16×aaB×aaB×cU):List V:=[.str x.1,.i x.2.1,.b16 x.2.2.1,vL 1 eW 0#16 x.2.2.2.1,vL 1 eW 0#16 x.2.2.2.2.1,vL 2 eWW (default:Tq3) x.2.2.2.2.2]
instance :DecidableEq Ty4:= @instDecidableEqProd Ty0 _ inferInstance (@instDecidableEqProd Bool _ inferInstance (inferInstance))
def aX (x:aaA×Bool×cU):List V:=[.str x.1,.bool x.2.1,vL 2 eWW (default:Tq3) x.2.2]
def eG (x:aaA):V:= .str x
theorem kE108 :aCZ Tryz.prog 3 (V.int .i64):=nC Tryz.underlying3 (dW .i64) (fun _=>rfl) (fun _=>rfl)
def eN (x:Bool):V:= .bool x
theorem kE109 :aCZ Tryz.prog 3 (V.int .i64):=nC Tryz.underlying3 (dW .i64) (fun _=>rfl) (fun _=>rfl)
def aP (x:Tq2):V:= .agg [.i x.1,.i x.2]
def cH (x:aaA):V:= .str x
theorem aAg :aCZ Tryz.prog 145 aP:=lK (default:Tq2) (fun _=>⟨_,rfl,rfl⟩) Tryz.underlying145 (fun a b=>(show eqV Tryz.prog 10000 145 (aP a) (aP b)=some ((a.1==b.1)&&((a.2==b.2)&&true))from by kernel_rfl).trans (congrArg some (by rw[aeT];simp[Prod.ext_iff]))) (fun _=>rfl)
def eM (x:Int):V:= .i x
theorem kE111 :aCZ Tryz.prog 3 (V.int .i64):=nC Tryz.underlying3 (dW .i64) (fun _=>rfl) (fun _=>rfl)
def cC (x:Tq0):List V:=[.i x.1,.i x.2.1,.str x.2.2]
def bO (x:Tq0):V:= .agg [.i x.1,.i x.2.1,.str x.2.2]
def eV (x:Bool):V:= .bool x
theorem kE112 :aCZ Tryz.prog 88 bO:=lK (default:Tq0) (fun _=>⟨_,rfl,rfl⟩) Tryz.underlying88 (fun a b=>(show eqV Tryz.prog 10000 88 (bO a) (bO b)=some ((a.1==b.1)&&((a.2.1==b.2.1)&&((a.2.2==b.2.2)&&true)))from by kernel_rfl).trans (congrArg some (by rw[aeT];simp[Prod.ext_iff]))) (fun _=>rfl)
def bJ (x:Tq2):V:= .agg [.i x.1,.i x.2]
def eP (x:Bool):V:= .bool x
theorem kE113 :aCZ Tryz.prog 145 bJ:=lK (default:Tq2) (fun _=>⟨_,rfl,rfl⟩) Tryz.underlying145 (fun a b=>(show eqV Tryz.prog 10000 145 (bJ a) (bJ b)=some ((a.1==b.1)&&((a.2==b.2)&&true))from by kernel_rfl).trans (congrArg some (by rw[aeT];simp[Prod.ext_iff]))) (fun _=>rfl)
def cs0 :aaA:=[0,1,2,2,3,3,3,3,4,4,4,4,4,4,4,4,5,5,5,5,5,5,5,5,5,5,5,5,5,5,5,5,6,6,6,6,6,6,6,6,6,6,6,6,6,6,6,6,6,6,6,6,6,6,6,6,6,6,6,6,6,6,6,6,7,7,7,7,7,7,7,7,7,7,7,7,7,7,7,7,7,7,7,7,7,7,7,7,7,7,7,7,7,7,7,7,7,7,7,7,7,7,7,7,7,7,7,7,7,7,7,7,7,7,7,7,7,7,7,7,7,7,7,7,7,7,7,7,8,8,8,8,8,8,8,8,8,8,8,8,8,8,8,8,8,8,8,8,8,8,8,8,8,8,8,8,8,8,8,8,8,8,8,8,8,8,8,8,8,8,8,8,8,8,8,8,8,8,8,8,8,8,8,8,8,8,8,8,8,8,8,8,8,8,8,8,8,8,8,8,8,8,8,8,8,8,8,8,8,8,8,8,8,8,8,8,8,8,8,8,8,8,8,8,8,8,8,8,8,8,8,8,8,8,8,8,8,8,8,8,8,8,8,8,8,8,8,8,8,8,8,8,8,8,8,8]
def cs1 :aaA:=[102,105,110,105,115,104]
def cs2 :aaA:=[98,97,116,99,104]
def cN (x:Tq1):List V:=[.str x.1,.str x.2.1,.i x.2.2]
def cs3 :aaA:=[105,110,118,97,108,105,100]
def cs4 :aaA:=[115,116,97,108,101]
def cs5 :aaA:=[109,97,108,102,111,114,109,101,100]
def iW (x:Tq8):V:= .agg [.str x.1,.bool x.2.1,.bool x.2.2.1,.bool x.2.2.2]
def cs6 :aaA:=[100,101,108,101,116,101]
def cs7 :aaA:=[97,112,112,101,110,100]
def cs8 :aaA:=[99,111,117,110,116]
def bV :List (Int):=(((((([]++[(1:Int)])++[(2:Int)])++[(3:Int)])++[(4:Int)])++[(5:Int)])++[(6:Int)])
def bQ :List Tq8:=(((((([]++[(([112,117,116]:aaA),true,false,true)])++[(([103,101,116]:aaA),true,false,false)])++[(cs6,true,false,false)])++[(cs7,true,false,true)])++[(([99,97,115]:aaA),true,true,true)])++[(cs8,false,false,false)])
def cs9 :aaA:=[99,111,117,110,116,32]
def sO :aaA:=[118,97,108,117,101,32]
instance :DecidableEq Ty3:= @instDecidableEqProd Int _ inferInstance (@instDecidableEqProd Int _ inferInstance (@instDecidableEqProd Int _ inferInstance (@instDecidableEqProd Ty8 _ inferInstance (@instDecidableEqProd Ty8 _ inferInstance (inferInstance)))))
def eT129 (x:Int×Int×Int×aaB×aaB×cU):List V:=[.int .u8 x.1,.int .u8 x.2.1,.int .u8 x.2.2.1,vL 1 eW 0#16 x.2.2.2.1,vL 1 eW 0#16 x.2.2.2.2.1,vL 2 eWW (default:Tq3) x.2.2.2.2.2]
def aAO :aaA:=[32,97,99,99,101,112,116,101,100,44,32]
def cs12 :aaA:=[32,97,99,107,110,111,119,108,101,100,103,101,100,10]
def cs13 :aaA:=[97,99,107,110,111,119,108,101,100,103,101,109,101,110,116]
abbrev aO (l:List (Y51)):V:=vL 28 sB (default:Y51) l
abbrev fO (l:List (Y51)):Blk:=bL 51 28 sB (default:Y51) l
abbrev aH :Y51:=default
abbrev fB (l:List (Int)):V:=vL 1 eI 0 l
abbrev cG (l:List (Int)):Blk:=bL 3 1 eI 0 l
abbrev cQ (l:List Ty0):V:=vL 1 eS [] l
abbrev aU (l:List Ty0):Blk:=bL 9 1 eS [] l
abbrev dI (l:List Tq7):V:=vL 2 eSW (default:Tq7) l
abbrev bR (l:List Tq7):Blk:=bL 126 2 eSW (default:Tq7) l
abbrev gR (l:aaB):V:=vL 1 eW 0#16 l
abbrev qI (l:aaB):Blk:=bL 31 1 eW 0#16 l
abbrev aT (l:aaB):Blk:=bL 32 1 eW 0#16 l
abbrev dN (l:List Tq3):V:=vL 2 eWW (default:Tq3) l
abbrev bX (l:List Tq3):Blk:=bL 186 2 eWW (default:Tq3) l
abbrev sH :BitVec 16×BitVec 16:=default
abbrev bN :Int×Int:=default
abbrev bH (l:List Tq0):V:=vL 3 cC (default:Tq0) l
abbrev bF (l:List Tq0):Blk:=bL 160 3 cC (default:Tq0) l
abbrev cM (l:List Tq0):Blk:=bL 88 3 cC (default:Tq0) l
abbrev cD (l:List Tq0):Blk:=bL 98 3 cC (default:Tq0) l
abbrev bE :Int×Int×aaA:=default
abbrev bA (l:List Tq1):V:=vL 3 cN (default:Tq1) l
abbrev aS (l:List Tq1):Blk:=bL 202 3 cN (default:Tq1) l
abbrev aQ :aaA×aaA×Int:=default
abbrev aW :aaA×Bool×Bool×Bool:=default
abbrev fA :Int×Int×Int×aaB×aaB×cU:=default
abbrev aL (i:Int):BitVec 16:=BitVec.ofInt 16 i
theorem bC {Q:Exit->S->Prop} {id:Nat} {draw:Bool} {y:Code} (W:List Nat) (calls:List (Nat×CC)) {l:List Oper} {s:S} (s':S) {φ:Prop} (hφ:φ) (hQ:AWp Tryz.prog y Q s') (h:Abs.regC Tryz.prog W draw calls (s'.t.map (·.1)) (s'.h.map (·.1)) l s=some (s',φ):=by kernel_rfl):AWp Tryz.prog (.seq (.region id l.toArray draw) y) Q s:=AWp.sq W calls _ _ s' φ kY h hφ hQ
theorem bB {Q:Exit->S->Prop} {id:Nat} {draw:Bool} (W:List Nat) (calls:List (Nat×CC)) {l:List Oper} {s:S} (s':S) {φ:Prop} (hφ:φ) (hQ:Q .normal s') (h:Abs.regC Tryz.prog W draw calls (s'.t.map (·.1)) (s'.h.map (·.1)) l s=some (s',φ):=by kernel_rfl):AWp Tryz.prog (.region id l.toArray draw) Q s:=AWp.regC W calls _ _ s' φ kY h hφ hQ
theorem aN {Q:Exit->S->Prop} {id:Nat} {draw:Bool} {y:Code} (W:List Nat) (calls:List (Nat×CC)) {l:List Oper} {s:S} (kt kh:List Nat) {φ:Prop} (hφ:φ) (hQ:AWp Tryz.prog y Q (rS (Abs.regC Tryz.prog W draw calls kt kh l s))) (h:(Abs.regC Tryz.prog W draw calls kt kh l s).map (·.2)=some φ:=by kernel_rfl):AWp Tryz.prog (.seq (.region id l.toArray draw) y) Q s:=AWp.sq W calls _ _ _ φ kY (rS_eq h) hφ hQ
theorem aZ {Q:Exit->S->Prop} {id:Nat} {draw:Bool} (W:List Nat) (calls:List (Nat×CC)) {l:List Oper} {s:S} (kt kh:List Nat) {φ:Prop} (hφ:φ) (hQ:Q .normal (rS (Abs.regC Tryz.prog W draw calls kt kh l s))) (h:(Abs.regC Tryz.prog W draw calls kt kh l s).map (·.2)=some φ:=by kernel_rfl):AWp Tryz.prog (.region id l.toArray draw) Q s:=AWp.regC W calls _ _ _ φ kY (rS_eq h) hφ hQ
abbrev f57z0 (x3:Int):=(decide (x3>=(0:Int)))
abbrev qpt (p:Y51):List V:=[.i p.1,.i p.2.1,.i p.2.2.1,.i p.2.2.2.1,.i p.2.2.2.2.1,.str p.2.2.2.2.2.1,.str p.2.2.2.2.2.2,.opq,.opq,.opq,.opq,.opq,.opq,.opq,.opq,.opq,.opq,.opq,.opq,.opq,.opq,.opq,.opq,.opq,.opq,.opq,.opq,.opq]
abbrev qpc (a b c d e:Int) (s t:aaA):List V:=[.i a,.i b,.i c,.i d,.i e,.str s,.str t,.opq,.opq,.opq,.opq,.opq,.opq,.opq,.opq,.opq,.opq,.opq,.opq,.opq,.opq,.opq,.opq,.opq,.opq,.opq,.opq,.opq]
abbrev qmp (n:Nat) (a:List Tq5) (b:List Tq4) (c:List Ty2) (d:List Tq2) (e:List Ty2) (f:List (Tq0×Bool)) (g:List (Tq2×Bool)):List (Nat×Blk):=[(n,bP (V.int .i64) 0 eG [] a),(n+1,bP (V.int .i64) 0 eN false b),(n+2,bP aP bN cH [] c),(n+3,bP (V.int .i64) 0 eM 0 d),(n+4,bP aP bN cH [] e),(n+5,bP bO bE eV false f),(n+6,bP bJ bN eP false g)]
def f57 (x1 x2 x3 x4 x5:Int) (x6 x7:aaA):Option Bool:=
 some ((decide (x3>=(0:Int)))&&(decide (x3<(6:Int))))
theorem tM (x1 x2 x3 x4 x5:Int) (x6 x7:aaA) (r:Bool) (h:f57 x1 x2 x3 x4 x5 x6 x7=some r):aG Tryz.prog 57 [] [] [] [.agg [.i x1,.i x2,.i x3,.i x4,.i x5,.str x6,.str x7,.opq,.opq,.opq,.opq,.opq,.opq,.opq,.opq,.opq,.opq,.opq,.opq,.opq,.opq,.opq,.opq,.opq,.opq,.opq,.opq,.opq]] (.bool r) []:=by
 unfold f57 at h;refine aG.body 0 _ _ Tryz.func57 rfl Tryz.ntmps57 rfl rfl ?_;refine aN [] [] [1] [1] trivial ?_;refine aaE (bB [] [] ⟨11,[(2,.bool ((f57z0 x3)&&(decide (x3<(6:Int)))))],[],[],0⟩ (an3 (an1 (idA (((f57z0 x3)==true)=true))) (an1 (idA (((f57z0 x3)==true)=true))) (bqA (f57z0 x3) true)) ?_);refine tN ?_;obtain rfl:=aaD h;refine aaH ?_;exact bK
abbrev f50z0 (x1 x2 x3 x4 x5:Int) (x6 x7:aaA):List V:=[.i x1,.i x2,.i x3,.i x4,.i x5,.str x6,.str x7,.opq,.opq,.opq,.opq,.opq,.opq,.opq,.opq,.opq,.opq,.opq,.opq,.opq,.opq,.opq,.opq,.opq,.opq,.opq,.opq,.opq]
abbrev f50z1 (x2 x3:Int):=((x2==(4:Int))&&(decide (x3>=(0:Int))))
def f50 (x1 x2 x3 x4 x5:Int) (x6 x7:aaA):Option Tq4:=
 if(((x2==(4:Int))&&(decide (x3>=(0:Int))))&&(decide (x3<(12:Int))))then(
 some (x3,true)
 )else(
 eO ((x2==(3:Int))==true) (f57 x1 x2 x3 x4 x5 x6 x7) fun r8=>
 if((x2==(3:Int))&&r8)then(
 chk (-9223372036854775808<=((12:Int)+x3)/\((12:Int)+x3)<=9223372036854775807)<|
 some (((12:Int)+x3),true)
 )else(
 some ((0:Int),false)
 )
 )
theorem aBy (x1 x2 x3 x4 x5:Int) (x6 x7:aaA) (r:Tq4) (h:f50 x1 x2 x3 x4 x5 x6 x7=some r):aG Tryz.prog 50 [] [] [] [.agg [.i x1,.i x2,.i x3,.i x4,.i x5,.str x6,.str x7,.opq,.opq,.opq,.opq,.opq,.opq,.opq,.opq,.opq,.opq,.opq,.opq,.opq,.opq,.opq,.opq,.opq,.opq,.opq,.opq,.opq]] (.tup [.i r.1,.bool r.2]) []:=by
 unfold f50 at h;refine aG.body 0 _ _ Tryz.func50 rfl Tryz.ntmps50 rfl rfl ?_;refine aN [] [] [1] [1] trivial ?_;refine aaE (aaJ (aaE (aZ [] [] [1,4] [1] (an6 (an1 (idA (((x2==(4:Int))==true)=true))) (an1 (idA (((x2==(4:Int))==true)=true))) (bqA (x2==(4:Int)) true) (an1 (idA (((f50z1 x2 x3)==true)=true))) (an1 (idA (((f50z1 x2 x3)==true)=true))) (bqA (f50z1 x2 x3) true)) ?_)));refine tN (cK ((f50z1 x2 x3)&&(decide (x3<(12:Int)))) (fun hc1=> ?_) fun hc1=> ?_)
 ·replace h:=aE hc1 h;refine bC [] [] ⟨31,[(2,.i x3),(3,.bool true)],[],[],0⟩ trivial ?_;obtain rfl:=aaD h;refine aaH (kR (tR ?_));exact bK
 ·replace h:=aF hc1 h;refine aaE ?_;obtain⟨r8,hr8,h⟩:=bI h;refine aZ [] [(5,⟨[.agg (f50z0 x1 x2 x3 x4 x5 x6 x7)],[],[],[],.bool r8,[],[],[]⟩)] [1,20] [1] (an2 (aaK (cpC fun hc=>(tM _ _ _ _ _ _ _ _ (hr8 hc))) (an1 (idA (((x2==(3:Int))==true)=true)))) (bqA (x2==(3:Int)) true)) ?_;refine tN (cK ((x2==(3:Int))&&r8) (fun hc2=> ?_) fun hc2=> ?_)
  ·replace h:=aE hc2 h;refine aaE ?_;obtain⟨ob8,h⟩:=aB h;refine bB [] [] ⟨31,[(2,.i ((12:Int)+x3)),(3,.bool true)],[],[],0⟩ (an1 ob8) ?_;refine tN ?_;obtain rfl:=aaD h;refine aaH (kR (tR ?_));exact bK
  ·replace h:=aF hc2 h;refine aaG (kN (tN (aN [] [] [2,3] [] trivial ?_)));obtain rfl:=aaD h;refine aaH ?_;exact bK
def f101 (x1:Int):Option Bool:=
 some (x1 !=x1)
theorem f101_ok (x1:Int) (r:Bool) (h:f101 x1=some r):aG Tryz.prog 101 [] [] [] [.i x1] (.bool r) []:=by
 unfold f101 at h;refine aG.body 0 _ _ Tryz.func101 rfl Tryz.ntmps101 rfl rfl ?_;refine aN [] [] [0] [] trivial ?_;refine bC [] [] ⟨6,[(2,.bool (x1 !=x1))],[],[],0⟩ trivial ?_;obtain rfl:=aaD h;refine aaH ?_;exact bK
def f71 (x1 x2:Int):Option Int:=
 (f101 x1).bind fun r3=>
 (f101 x2).bind fun r4=>
 if r3 then(
 if r4 then(
 some (0:Int)
 )else(
 some (-1:Int)
 )
 )else(
 if r4 then(
 some (1:Int)
 )else(
 if(decide (x1<x2))then(
 some (-1:Int)
 )else(
 if(decide (x1>x2))then(
 some (1:Int)
 )else(
 some (0:Int)
 )
 )
 )
 )
theorem f71_ok (x1 x2 r:Int) (h:f71 x1 x2=some r):aG Tryz.prog 71 [] [] [] [.i x1,.i x2] (.i r) []:=by
 unfold f71 at h;refine aG.body 0 _ _ Tryz.func71 rfl Tryz.ntmps71 rfl rfl ?_;refine aN [] [] [0,1] [] trivial ?_;refine aaE ?_;obtain⟨r3,hr3,h⟩:=bind_ok h;refine aZ [] [(1,⟨[.i x1],[],[],[],.bool r3,[],[],[]⟩)] [0,1,5] [] (an1 (cpT (f101_ok _ _ hr3))) ?_;refine tN (aaE ?_);obtain⟨r4,hr4,h⟩:=bind_ok h;refine aZ [] [(1,⟨[.i x2],[],[],[],.bool r4,[],[],[]⟩)] [0,1,5,6] [] (an1 (cpT (f101_ok _ _ hr4))) ?_;refine tN (aaE (aN [] [] [0,1,6,11] [] trivial ?_));refine cK r3 (fun hc1=> ?_) fun hc1=> ?_
 ·replace h:=aE hc1 h;refine aaE (aN [] [] [12] [] trivial ?_);refine cK r4 (fun hc2=> ?_) fun hc2=> ?_
  ·replace h:=aE hc2 h;refine bC [] [] ⟨20,[(4,.i (0:Int))],[],[],0⟩ trivial ?_;obtain rfl:=aaD h;refine aaH (tR (tR ?_));exact bK
  ·replace h:=aF hc2 h;refine aaG (tN (aN [] [] [4] [] trivial ?_));obtain rfl:=aaD h;refine aaH (tR ?_);exact bK
 ·replace h:=aF hc1 h;refine aaG (tN (aaE (aN [] [] [0,1,13] [] trivial ?_)));refine cK r4 (fun hc3=> ?_) fun hc3=> ?_
  ·replace h:=aE hc3 h;refine bC [] [] ⟨20,[(4,.i (1:Int))],[],[],0⟩ trivial ?_;obtain rfl:=aaD h;refine aaH (tR ?_);exact bK
  ·replace h:=aF hc3 h;refine aaG (tN (aaE (aN [] [] [0,1,16] [] trivial ?_)));refine cK (decide (x1<x2)) (fun hc4=> ?_) fun hc4=> ?_
   ·replace h:=aE hc4 h;refine bC [] [] ⟨20,[(4,.i (-1:Int))],[],[],0⟩ trivial ?_;obtain rfl:=aaD h;refine aaH (tR ?_);exact bK
   ·replace h:=aF hc4 h;refine aaG (tN (aaE (aN [] [] [19] [] trivial ?_)));refine cK (decide (x1>x2)) (fun hc5=> ?_) fun hc5=> ?_
    ·replace h:=aE hc5 h;refine bC [] [] ⟨20,[(4,.i (1:Int))],[],[],0⟩ trivial ?_;obtain rfl:=aaD h;refine aaH (tR ?_);exact bK
    ·replace h:=aF hc5 h;refine aaG (tN (aN [] [] [4] [] trivial ?_));obtain rfl:=aaD h;refine aaH ?_;exact bK
def yD (x1 x2:List Int) (K1:Unit->Option Int):Nat->Nat->Option Int
 |0,_=>none
 |k+1,n3=>
  if(decide ((n3:Int)<(((x1).length:Nat):Int)))then(
  chk ((n3:Int)<(((x1).length:Nat):Int))<|
  if(decide ((n3:Int)>=(((x2).length:Nat):Int)))then(
  some (1:Int)
  )else(
  chk ((n3:Int)<(((x2).length:Nat):Int))<|
  (f71 (x1.getD n3 0) (x2.getD n3 0)).bind fun r4=>
  if(r4 !=(0:Int))then(
  some r4
  )else(
  chk (((n3:Int)+(1:Int))<=9223372036854775807)<|
  (yD x1 x2 K1 k) (n3+1)
  )
  )
  )else(
  K1 ()
  )
def f51 (x1 x2:List Int):Option Int:=
 jn (fun(_:Unit)=>
 if(decide ((((x1).length:Nat):Int)<(((x2).length:Nat):Int)))then(
 some (-1:Int)
 )else(
 some (0:Int)
 )
 ) fun(K1:Unit->Option Int)=>
 yD x1 x2 K1 aY 0
theorem f51_ok (x1 x2:List Int) (r:Int) (h:f51 x1 x2=some r):aG Tryz.prog 51 [] [] [] [vL 1 eI 0 x1,vL 1 eI 0 x2] (.i r) []:=by
 unfold f51 at h;refine aG.body 0 _ _ Tryz.func51 rfl Tryz.ntmps51 rfl rfl ?_;refine aN [] [] [0,1] [] trivial ?_;obtain⟨K1,hK1,h⟩:=aI h;refine aaR (fun(x:Unit)=>match x with|()=>⟨36,[(0,fB x1),(1,fB x2)],[],[],0⟩) (fun x=>K1 x=some r) ?_ ?_
 ·refine bC [] [] ⟨36,[(0,fB x1),(1,fB x2),(9,fB x1),(10,.i (lZ x1)),(11,.i (0:Int))],[],[],0⟩ trivial ?_;refine aaJ (abG (α:=Nat×Nat) (fun x=>match x with|(_,n3)=>⟨36,[(0,fB x1),(1,fB x2),(9,fB x1),(10,.i (lZ x1)),(11,.i (n3:Int))],[],[],0⟩) (fun x=>yD x1 x2 K1 x.1 x.2=some r) (fun x=>x.1) (aY,0) LR h ?_)
  rintro⟨k0,n3⟩ h
  cases k0 with
  |zero=>exact nEx h
  |succ k0=>
  obtain⟨C0,hC0⟩:∃C,C=yD x1 x2 K1 k0:=⟨_,rfl⟩;replace h:=(yD.eq_2 ..).symm.trans h
  try rw[<-hC0]at h
  refine aN [] [] [0,1,9,10,11,12] [] trivial ?_;refine aaE (cK (decide ((n3:Int)<(lZ x1))) (fun hc1=> ?_) fun hc1=> ?_)
  ·replace h:=aE hc1 h;refine aaG (tN (aaE (aaJ (aaE ?_))));obtain⟨ob0p,h⟩:=aB h;refine aZ [] [] [0,1,5,6,9,10,11] [] (an1 (iN ob0p)) ?_;refine tN (aaE (aN [] [] [0,1,5,6,9,10,11,19] [] trivial ?_));refine cK (decide ((n3:Int)>=(lZ x2))) (fun hc2=> ?_) fun hc2=> ?_
   ·replace h:=aE hc2 h;refine bC [] [] ⟨36,[(4,.i (1:Int))],[],[],0⟩ trivial ?_;obtain rfl:=aaD h;refine aaH (tR (kR (tR (tR (kR (aR ?_))))));exact bK
   ·replace h:=aF hc2 h;refine aaG (tN (aaE ?_));obtain⟨ob1p,h⟩:=aB h;refine aZ [] [] [0,1,6,7,9,10,11] [] (an1 (iN ob1p)) ?_;refine tN (aaE ?_);obtain⟨r4,hr4,h⟩:=bind_ok h;refine aZ [] [(2,⟨[.i (x1.getD n3 0),.i (x2.getD n3 0)],[],[],[],.i r4,[],[],[]⟩)] [0,1,8,9,10,11] [] (an1 (cpT (f71_ok _ _ _ hr4))) ?_;refine tN (bC [] [] ⟨36,[(0,fB x1),(1,fB x2),(8,.i r4),(9,fB x1),(10,.i (lZ x1)),(11,.i (n3:Int)),(28,.bool (r4 !=(0:Int)))],[],[],0⟩ trivial ?_);refine cK (r4 !=(0:Int)) (fun hc3=> ?_) fun hc3=> ?_
    ·replace h:=aE hc3 h;refine aN [] [] [4] [] trivial ?_;obtain rfl:=aaD h;refine aaH (kR (tR (tR (kR (aR ?_)))));exact bK
    ·replace h:=aF hc3 h;refine aaG (kN (tN ?_));obtain⟨ob2p,h⟩:=aB h;refine bB [] [] ⟨36,[(0,fB x1),(1,fB x2),(9,fB x1),(10,.i (lZ x1)),(11,.i (((n3+1):Nat):Int))],[],[],0⟩ (an1 (iP ob2p)) ?_;rw[hC0]at h;exact lN (_,(n3+1)) LR h (aaM _)
  ·replace h:=aF hc1 h;refine abJ (tE (tE (kS ?_)));exact jN () LR h
 ·rintro⟨⟩ h;replace h:=(congrFun hK1 _).symm.trans h;refine aaE (aN [] [] [35] [] trivial ?_);refine cK (decide ((lZ x1)<(lZ x2))) (fun hc4=> ?_) fun hc4=> ?_
  ·replace h:=aE hc4 h;refine bC [] [] ⟨36,[(4,.i (-1:Int))],[],[],0⟩ trivial ?_;obtain rfl:=aaD h;refine aaH (tR ?_);exact bK
  ·replace h:=aF hc4 h;refine aaG (tN (aN [] [] [4] [] trivial ?_));obtain rfl:=aaD h;refine aaH ?_;exact bK
def yK (x1:List Y51) (n2:Nat) (K2:Tq6->Option (Int×Int×Int×Int)) (r6:Tq4):Nat->(Nat×Int×Int×Int)->Option (Int×Int×Int×Int)
 |0,_=>none
 |k+1,(n11,i12,i13,i14)=>
  if(decide ((n11:Int)<(((x1).length:Nat):Int)))then(
  jn (fun((i17,i18,i19):Tq6)=>
  chk (((n11:Int)+(1:Int))<=9223372036854775807)<|
  (yK x1 n2 K2 r6 k) ((n11+1),i17,i18,i19)
  ) fun(K3:Tq6->Option (Int×Int×Int×Int))=>
  chk ((n11:Int)<(((x1).length:Nat):Int))<|
  (f50 ((x1.getD n11 (default:Y51)).1) ((x1.getD n11 (default:Y51)).2.1) ((x1.getD n11 (default:Y51)).2.2.1) ((x1.getD n11 (default:Y51)).2.2.2.1) ((x1.getD n11 (default:Y51)).2.2.2.2.1) ((x1.getD n11 (default:Y51)).2.2.2.2.2.1) ((x1.getD n11 (default:Y51)).2.2.2.2.2.2)).bind fun r15=>
  if((((!r15.2)||(decide (r15.1<r6.1)))||((x1.getD n2 (default:Y51)).2.2.2.1 !=(x1.getD n11 (default:Y51)).2.2.2.1))||(((x1.getD n2 (default:Y51)).2.2.2.2.2.1)==((x1.getD n11 (default:Y51)).2.2.2.2.2.1)))then(
  K3 (i12,i13,i14)
  )else(
  if(decide (i13<(0:Int)))=true then(
  K3 ((x1.getD n2 (default:Y51)).2.2.2.1,r6.1,r15.1)
  )else(
  (f51 [(x1.getD n2 (default:Y51)).2.2.2.1,r6.1,r15.1] [i12,i13,i14]).bind fun r20=>
  if(decide (r20<(0:Int)))then(
  K3 ((x1.getD n2 (default:Y51)).2.2.2.1,r6.1,r15.1)
  )else(
  K3 (i12,i13,i14)
  )
  )
  )
  )else(
  K2 (i12,i13,i14)
  )
def yL (x1:List Y51) (K1:Tq6->Option (Int×Int×Int×Int)):Nat->(Nat×Int×Int×Int)->Option (Int×Int×Int×Int)
 |0,_=>none
 |k+1,(n2,i3,i4,i5)=>
  if(decide ((n2:Int)<(((x1).length:Nat):Int)))then(
  jn (fun((i7,i9,i10):Tq6)=>
  chk (((n2:Int)+(1:Int))<=9223372036854775807)<|
  (yL x1 K1 k) ((n2+1),i7,i9,i10)
  ) fun(K2:Tq6->Option (Int×Int×Int×Int))=>
  chk ((n2:Int)<(((x1).length:Nat):Int))<|
  (f50 ((x1.getD n2 (default:Y51)).1) ((x1.getD n2 (default:Y51)).2.1) ((x1.getD n2 (default:Y51)).2.2.1) ((x1.getD n2 (default:Y51)).2.2.2.1) ((x1.getD n2 (default:Y51)).2.2.2.2.1) ((x1.getD n2 (default:Y51)).2.2.2.2.2.1) ((x1.getD n2 (default:Y51)).2.2.2.2.2.2)).bind fun r6=>
  if(!r6.2)then(
  K2 (i3,i4,i5)
  )else(
  yK x1 n2 K2 r6 aY (0,i3,i4,i5)
  )
  )else(
  K1 (i3,i4,i5)
  )
abbrev nJ :List V:=[.i (0:Int),.i (0:Int),.i (0:Int)]
abbrev pJ (r15 r6:Tq4):=((!r15.2)||(decide (r15.1<r6.1)))
abbrev f22z2 (i12 i13 i14:Int):List V:=[.i i12,.i i13,.i i14]
abbrev f22z3 :aJ:=[(2,.cells 60 (nJ)),(4,.cells 60 [.i (0:Int),.i (-1:Int),.i (0:Int)])]
abbrev f22z4 (i3 i4 i5:Int):List V:=[.i i3,.i i4,.i i5]
abbrev f22z5 (i7 i9 i10:Int):aJ:=[(2,.cells 60 (nJ)),(4,.cells 60 [.i i7,.i i9,.i i10])]
abbrev f22z6 (i3 i4 i5:Int):aJ:=[(2,.cells 60 (nJ)),(4,.cells 60 (f22z4 i3 i4 i5))]
def f22 (x1:List Y51):Option (Int×Int×Int×Int):=
 jn (fun((i21,i22,i23):Tq6)=>
 if(decide (i22<(0:Int)))then(
 some ((0:Int),(0:Int),(0:Int),(13:Int))
 )else(
 some (i21,i22,i23,(0:Int))
 )
 ) fun(K1:Tq6->Option (Int×Int×Int×Int))=>
 yL x1 K1 aY (0,(0:Int),(-1:Int),(0:Int))
theorem f22_ok (x1:List Y51) (r:Int×Int×Int×Int) (h:f22 x1=some r):aG Tryz.prog 22 [] [] [] [vL 28 sB (default:Y51) x1] (.tup [.agg [.i r.1,.i r.2.1,.i r.2.2.1],.i r.2.2.2]) []:=by
 unfold f22 at h;refine aG.bodyD [2] 0 _ _ Tryz.func22 rfl Tryz.ntmps22 rfl rfl ?_;refine aN [] [] [0,2] [2] trivial ?_;refine bC [] [] ⟨94,[(0,aO x1),(2,.ptr 2 0),(4,.ptr 4 0)],(f22z3),[],0⟩ (an1 trivial) ?_;obtain⟨K1,hK1,h⟩:=aI h;refine aaR (fun(x:Tq6)=>match x with|(i21,i22,i23)=>⟨94,[(2,.ptr 2 0),(4,.ptr 4 0)],[(2,.cells 60 (nJ)),(4,.cells 60 [.i i21,.i i22,.i i23])],[],0⟩) (fun x=>K1 x=some r) ?_ ?_
 ·refine aN [] [] [0,2,4,15,16,17] [2,4] trivial ?_;refine aaJ (abG (α:=Nat×(Nat×Int×Int×Int)) (fun x=>match x with|(_,n2,i3,i4,i5)=>⟨94,[(0,aO x1),(2,.ptr 2 0),(4,.ptr 4 0),(15,aO x1),(16,.i (lZ x1)),(17,.i (n2:Int))],(f22z6 i3 i4 i5),[],0⟩) (fun x=>yL x1 K1 x.1 x.2=some r) (fun x=>x.1) (aY,0,(0:Int),(-1:Int),(0:Int)) LR h ?_)
  rintro⟨k0,n2,i3,i4,i5⟩ h
  cases k0 with
  |zero=>exact nEx h
  |succ k0=>
  obtain⟨C0,hC0⟩:∃C,C=yL x1 K1 k0:=⟨_,rfl⟩;replace h:=(yL.eq_2 ..).symm.trans h
  try rw[<-hC0]at h
  refine aN [] [] [0,2,4,15,16,17,18] [2,4] trivial ?_;refine aaE (cK (decide ((n2:Int)<(lZ x1))) (fun hc1=> ?_) fun hc1=> ?_)
  ·replace h:=aE hc1 h;refine aaG (tN ?_);obtain⟨K2,hK2,h⟩:=aI h;refine aaR (fun(x:Tq6)=>match x with|(i7,i9,i10)=>⟨94,[(0,aO x1),(2,.ptr 2 0),(4,.ptr 4 0),(15,aO x1),(16,.i (lZ x1)),(17,.i (n2:Int))],(f22z5 i7 i9 i10),[],0⟩) (fun x=>K2 x=some r) ?_ ?_
   ·refine aaJ (aaE ?_);obtain⟨ob0p,h⟩:=aB h;refine aZ [] [] [0,2,4,6,15,16,17] [2,4,6] (an2 (iN ob0p) trivial) ?_;refine tN (aaE ?_);obtain⟨r6,hr6,h⟩:=bind_ok h;refine aZ [] [(1,⟨[.agg (qpt (x1.getD n2 aH))],[],[],[],.tup [.i r6.1,.bool r6.2],[],[],[]⟩)] [0,2,4,6,7,8,15,16,17] [2,4,6] (an1 (cpT (aBy _ _ _ _ _ _ _ _ hr6))) ?_;refine tN (aaE (bC [] [] ⟨94,[(0,aO x1),(2,.ptr 2 0),(4,.ptr 4 0),(6,.ptr 6 0),(7,.i r6.1),(15,aO x1),(16,.i (lZ x1)),(17,.i (n2:Int)),(27,.bool (!r6.2))],[(2,.cells 60 (nJ)),(4,.cells 60 (f22z4 i3 i4 i5)),(6,.cells 51 (qpt (x1.getD n2 aH)))],[],0⟩ trivial ?_));refine cK (!r6.2) (fun hc2=> ?_) fun hc2=> ?_
    ·replace h:=aE hc2 h;refine abJ (tE (kS ?_));exact jN (i3,i4,i5) LR h
    ·replace h:=aF hc2 h;refine aaG (tN (aN [] [] [0,2,4,6,7,15,16,17,28,29,30] [2,4,6] trivial ?_));refine aaJ (abG (α:=Nat×(Nat×Int×Int×Int)) (fun x=>match x with|(_,n11,i12,i13,i14)=>⟨94,[(0,aO x1),(2,.ptr 2 0),(4,.ptr 4 0),(6,.ptr 6 0),(7,.i r6.1),(15,aO x1),(16,.i (lZ x1)),(17,.i (n2:Int)),(28,aO x1),(29,.i (lZ x1)),(30,.i (n11:Int))],[(2,.cells 60 (nJ)),(4,.cells 60 (f22z2 i12 i13 i14)),(6,.cells 51 (qpt (x1.getD n2 aH)))],[],0⟩) (fun x=>yK x1 n2 K2 r6 x.1 x.2=some r) (fun x=>x.1) (aY,0,i3,i4,i5) LR h ?_)
     rintro⟨k1,n11,i12,i13,i14⟩ h
     cases k1 with
     |zero=>exact nEx h
     |succ k1=>
     obtain⟨C1,hC1⟩:∃C,C=yK x1 n2 K2 r6 k1:=⟨_,rfl⟩;replace h:=(yK.eq_2 ..).symm.trans h
     try rw[<-hC1]at h
     refine aN [] [] [0,2,4,6,7,15,16,17,28,29,30,31] [2,4,6] trivial ?_;refine aaE (cK (decide ((n11:Int)<(lZ x1))) (fun hc3=> ?_) fun hc3=> ?_)
     ·replace h:=aE hc3 h;refine aaG (tN ?_);obtain⟨K3,hK3,h⟩:=aI h;refine aaR (fun(x:Tq6)=>match x with|(i17,i18,i19)=>⟨94,[(0,aO x1),(2,.ptr 2 0),(4,.ptr 4 0),(6,.ptr 6 0),(7,.i r6.1),(15,aO x1),(16,.i (lZ x1)),(17,.i (n2:Int)),(28,aO x1),(29,.i (lZ x1)),(30,.i (n11:Int))],[(2,.cells 60 (nJ)),(4,.cells 60 [.i i17,.i i18,.i i19]),(6,.cells 51 (qpt (x1.getD n2 aH)))],[],0⟩) (fun x=>K3 x=some r) ?_ ?_
      ·refine aaJ (aaE ?_);obtain⟨ob1p,h⟩:=aB h;refine aZ [] [] [0,2,4,6,7,10,15,16,17,28,29,30] [2,4,6,10] (an2 (iN ob1p) trivial) ?_;refine tN (aaE ?_);obtain⟨r15,hr15,h⟩:=bind_ok h;refine aZ [] [(1,⟨[.agg (qpt (x1.getD n11 aH))],[],[],[],.tup [.i r15.1,.bool r15.2],[],[],[]⟩)] [0,2,4,6,7,10,11,12,15,16,17,28,29,30] [2,4,6,10] (an1 (cpT (aBy _ _ _ _ _ _ _ _ hr15))) ?_;refine tN (aaE (aaE (bB [] [] ⟨94,[(0,aO x1),(2,.ptr 2 0),(4,.ptr 4 0),(6,.ptr 6 0),(7,.i r6.1),(11,.i r15.1),(15,aO x1),(16,.i (lZ x1)),(17,.i (n2:Int)),(28,aO x1),(29,.i (lZ x1)),(30,.i (n11:Int)),(59,.bool (((pJ r15 r6)||((x1.getD n2 aH).2.2.2.1 !=(x1.getD n11 aH).2.2.2.1))||(((x1.getD n2 aH).2.2.2.2.2.1)==((x1.getD n11 aH).2.2.2.2.2.1))))],[(2,.cells 60 (nJ)),(4,.cells 60 (f22z2 i12 i13 i14)),(6,.cells 51 (qpt (x1.getD n2 aH)))],[],0⟩ (ac6 (an2 (idA (((!r15.2)==false)=true)) (idA (((!r15.2)==false)=true))) (bqA (!r15.2) false) (an1 (idA (((pJ r15 r6)==false)=true))) (an1 (idA (((pJ r15 r6)==false)=true))) (an2 (idA (((pJ r15 r6)==false)=true)) (idA (((pJ r15 r6)==false)=true))) (bqA (pJ r15 r6) false) (an4 (an1 (idA ((((pJ r15 r6)||((x1.getD n2 aH).2.2.2.1 !=(x1.getD n11 aH).2.2.2.1))==false)=true))) (an1 (idA ((((pJ r15 r6)||((x1.getD n2 aH).2.2.2.1 !=(x1.getD n11 aH).2.2.2.1))==false)=true))) (an2 (idA ((((pJ r15 r6)||((x1.getD n2 aH).2.2.2.1 !=(x1.getD n11 aH).2.2.2.1))==false)=true)) (idA ((((pJ r15 r6)||((x1.getD n2 aH).2.2.2.1 !=(x1.getD n11 aH).2.2.2.1))==false)=true))) (bqA ((pJ r15 r6)||((x1.getD n2 aH).2.2.2.1 !=(x1.getD n11 aH).2.2.2.1)) false))) ?_)));refine tN (cK (((pJ r15 r6)||((x1.getD n2 aH).2.2.2.1 !=(x1.getD n11 aH).2.2.2.1))||(((x1.getD n2 aH).2.2.2.2.2.1)==((x1.getD n11 aH).2.2.2.2.2.1))) (fun hc4=> ?_) fun hc4=> ?_)
       ·replace h:=aE hc4 h;refine abJ (tE (kS ?_));exact jN (i12,i13,i14) LR h
       ·replace h:=aF hc4 h;refine aaG (tN (bC [] [] ⟨94,[(0,aO x1),(2,.ptr 2 0),(4,.ptr 4 0),(6,.ptr 6 0),(7,.i r6.1),(13,.ptr 13 0),(15,aO x1),(16,.i (lZ x1)),(17,.i (n2:Int)),(28,aO x1),(29,.i (lZ x1)),(30,.i (n11:Int))],[(2,.cells 60 (nJ)),(4,.cells 60 (f22z2 i12 i13 i14)),(6,.cells 51 (qpt (x1.getD n2 aH))),(13,.cells 60 [.i (x1.getD n2 aH).2.2.2.1,.i r6.1,.i r15.1])],[],0⟩ (an1 trivial) ?_));refine aaE ?_;by_cases hg13_3:(decide (i13<(0:Int)))=true
        ·replace h:=xC hg13_3 h;have ob15:=idA (false=true);have ob16:=idA (false=true);have ob17:=idA (false=true);have ob18:=idA (false=true);have ob19:=idA (false=true);have ob20:=idA (false=true);have ob21:=idA (false=true);have ob22:=idA (false=true);have ob23:true=true->true=false->false=true:=by first|decide|omega|simp|(intro h;cases h)
         refine bB [] [(3,⟨[],[],[],[],(.bool true),[],[0],[]⟩),(18,⟨[],[],[],[],.any,[],[],[]⟩)] ⟨94,[(0,aO x1),(2,.ptr 2 0),(4,.ptr 4 0),(6,.ptr 6 0),(7,.i r6.1),(13,.ptr 13 0),(15,aO x1),(16,.i (lZ x1)),(17,.i (n2:Int)),(28,aO x1),(29,.i (lZ x1)),(30,.i (n11:Int)),(85,.bool true)],[(2,.cells 60 (nJ)),(4,.cells 60 (f22z2 i12 i13 i14)),(6,.cells 51 (qpt (x1.getD n2 aH))),(13,.cells 60 [.i (x1.getD n2 aH).2.2.2.1,.i r6.1,.i r15.1])],[],0⟩ (ac6 (show((.bool (decide (i13<(0:Int)))):V)=(.bool true)from(congrArg (fun x=>((.bool x):V)) hg13_3)) (an1 ob15) (an1 ob16) (an1 ob17) (an1 ob18) (an1 ob19) (an3 (an1 ob20) (aaK (show(rX Tryz.prog false 51 [] [] [] [] [] [.bool false,.bool false] [] (.any) [])from⟨nofun,nofun,.inl rfl⟩) (an2 ob21 ob22)) ob23)) ?_;refine tN (cK true (fun hc=> ?_) fun hc=> ?_)
         ·clear hc;refine bB [] [] ⟨94,[(0,aO x1),(2,.ptr 2 0),(4,.ptr 4 0),(6,.ptr 6 0),(7,.i r6.1),(15,aO x1),(16,.i (lZ x1)),(17,.i (n2:Int)),(28,aO x1),(29,.i (lZ x1)),(30,.i (n11:Int))],[(2,.cells 60 (nJ)),(4,.cells 60 [.i (x1.getD n2 aH).2.2.2.1,.i r6.1,.i r15.1]),(6,.cells 51 (qpt (x1.getD n2 aH)))],[],0⟩ (an1 trivial) ?_;refine kN ?_;have eq29:(x1.getD n2 aH).2.2.2.1=((x1.getD n2 aH).2.2.2.1):=by first|omega|(simp only[aaF,aaN,abB,abE,aaZ]at *;omega)|(simp;done)|(simp_all;done)|(simp_all;omega)|rfl
          exact jN ((x1.getD n2 aH).2.2.2.1,r6.1,r15.1) (acO rfl rfl ⟨.refl _,.refl _,.refl _,.refl _,.refl _,.refl _,.refl _,.refl _,.refl _,.refl _,.refl _,trivial⟩ ⟨⟨_,rfl,.refl _⟩,⟨_,rfl,(.cellsL ⟨(.int eq29),.refl _,.refl _,trivial⟩)⟩,⟨_,rfl,.refl _⟩,trivial⟩) h
         ·cases hc
        ·replace h:=xD hg13_3 h;obtain⟨r20,hr20,h⟩:=bind_ok h;have ob15:=idA (true=true);have ob16:=idA (true=true);have ob17:=idA (true=true);have ob18:=idA (true=true);have ob19:=idA (true=true);have ob20:=idA (true=true);have ob21:=idA (true=true);have ob22:=idA (true=true);have ob23:=idA (true=true);have ob28:true=true->false=false->true=true:=by first|decide|omega|simp|(intro h;cases h)
         refine aZ [] [(3,⟨[],[],[],[],(.bool false),[],[0],[]⟩),(18,⟨[fB [(x1.getD n2 aH).2.2.2.1,r6.1,r15.1],fB [i12,i13,i14]],[],[],[],.i r20,[],[75,82],[]⟩)] [0,2,4,6,7,13,15,16,17,28,29,30,85] [2,4,6,13] (ac6 (show((.bool (decide (i13<(0:Int)))):V)=(.bool false)from(congrArg (fun x=>((.bool x):V)) (aeL.2 hg13_3))) (an1 ob15) (an1 ob16) (an1 ob17) (an3 ob18 ob19 ob20) (an1 ob21) (an6 (an1 ob22) (an1 ob23) (an3 (idA (true=true)) (idA (true=true)) (idA (true=true))) (cpL (c:=true) [(75,.rows 3 1 3 (dE 1 [.i (x1.getD n2 aH).2.2.2.1,.i r6.1,.i r15.1])),(82,.rows 3 1 3 (dE 1 (f22z2 i12 i13 i14)))] [75,82] [.own 75,.own 82] (fun _=>(f51_ok _ _ _ hr20)) (fun _=>⟨(VLe.of (acM (enc:=eI) [(x1.getD n2 aH).2.2.2.1,r6.1,r15.1] rfl rfl (fun _=>rfl))),(VLe.of (acM (enc:=eI) [i12,i13,i14] rfl rfl (fun _=>rfl))),trivial⟩) (.inr ⟨rfl,trivial⟩)) (an1 (idA (true=true))) ob28)) ?_;refine tN (cK (decide (r20<(0:Int))) (fun hc6=> ?_) fun hc6=> ?_)
         ·replace h:=aE hc6 h;refine bB [] [] ⟨94,[(0,aO x1),(2,.ptr 2 0),(4,.ptr 4 0),(6,.ptr 6 0),(7,.i r6.1),(15,aO x1),(16,.i (lZ x1)),(17,.i (n2:Int)),(28,aO x1),(29,.i (lZ x1)),(30,.i (n11:Int))],[(2,.cells 60 (nJ)),(4,.cells 60 [.i (x1.getD n2 aH).2.2.2.1,.i r6.1,.i r15.1]),(6,.cells 51 (qpt (x1.getD n2 aH)))],[],0⟩ (an1 trivial) ?_;refine kN ?_;have eq30:(x1.getD n2 aH).2.2.2.1=((x1.getD n2 aH).2.2.2.1):=by first|omega|(simp only[aaF,aaN,abB,abE,aaZ]at *;omega)|(simp;done)|(simp_all;done)|(simp_all;omega)|rfl
          exact jN ((x1.getD n2 aH).2.2.2.1,r6.1,r15.1) (acO rfl rfl ⟨.refl _,.refl _,.refl _,.refl _,.refl _,.refl _,.refl _,.refl _,.refl _,.refl _,.refl _,trivial⟩ ⟨⟨_,rfl,.refl _⟩,⟨_,rfl,(.cellsL ⟨(.int eq30),.refl _,.refl _,trivial⟩)⟩,⟨_,rfl,.refl _⟩,trivial⟩) h
         ·replace h:=aF hc6 h;refine aaG (kN ?_);exact jN (i12,i13,i14) LR h
      ·rintro⟨i17,i18,i19⟩ h;replace h:=(congrFun hK3 _).symm.trans h;obtain⟨ob31p,h⟩:=aB h;refine aZ [] [] [0,2,4,6,7,15,16,17,28,29,30] [2,4,6] (an1 (iP ob31p)) ?_;rw[hC1]at h;exact lN (_,(n11+1),i17,i18,i19) LR h (aaM _)
     ·replace h:=aF hc3 h;refine abJ (tE (tE (kS (kN ?_))));exact jN (i12,i13,i14) LR h
   ·rintro⟨i7,i9,i10⟩ h;replace h:=(congrFun hK2 _).symm.trans h;obtain⟨ob32p,h⟩:=aB h;refine aZ [] [] [0,2,4,15,16,17] [2,4] (an1 (iP ob32p)) ?_;rw[hC0]at h;exact lN (_,(n2+1),i7,i9,i10) LR h (aaM _)
  ·replace h:=aF hc1 h;refine abJ (tE (tE (kS ?_)));exact jN (i3,i4,i5) LR h
 ·rintro⟨i21,i22,i23⟩ h;replace h:=(congrFun hK1 _).symm.trans h;refine aaE (aN [] [] [2,4,91] [2,4] trivial ?_);refine cK (decide (i22<(0:Int))) (fun hc7=> ?_) fun hc7=> ?_
  ·replace h:=aE hc7 h;refine bC [] [] ⟨94,[(2,.ptr 2 0),(3,.i (13:Int))],[(2,.cells 60 (nJ))],[],0⟩ (an1 trivial) ?_;obtain rfl:=aaD h;refine aaH (tR ?_);exact bD
  ·replace h:=aF hc7 h;refine aaG (tN (aN [] [] [2,3] [2] (an1 trivial) ?_));obtain rfl:=aaD h;refine aaH ?_;exact bD
def f44  :Option Ty6:=
 some ([],[],[],[],[],[],[])
theorem f44_ok (r:(List Tq5)×(List Tq4)×gB×(List Tq2)×gB×rZ×rY) (h:f44=some r):aG Tryz.prog 44 [] [] [] [] (.agg [.own 3000,.own 3001,.own 3002,.own 3003,.own 3004,.own 3005,.own 3006]) [(3000,bP (V.int .i64) 0 eG [] r.1),(3001,bP (V.int .i64) 0 eN false r.2.1),(3002,bP aP (default:Tq2) cH [] r.2.2.1),(3003,bP (V.int .i64) 0 eM 0 r.2.2.2.1),(3004,bP aP (default:Tq2) cH [] r.2.2.2.2.1),(3005,bP bO (default:Tq0) eV false r.2.2.2.2.2.1),(3006,bP bJ (default:Tq2) eP false r.2.2.2.2.2.2)]:=by
 unfold f44 at h;refine aG.bodyD [0] 0 _ _ Tryz.func44 rfl Tryz.ntmps44 rfl rfl ?_;refine aN [] [] [0] [0] trivial ?_;refine bC [] [(0,⟨[],[],[],[(1,bP (V.int .i64) 0 eG [] [])],.own 1,[1],[],[]⟩),(1,⟨[],[],[],[(2,bP (V.int .i64) 0 eN false [])],.own 2,[2],[],[]⟩),(2,⟨[],[],[],[(3,bP aP bN cH [] [])],.own 3,[3],[],[]⟩),(3,⟨[],[],[],[(4,bP (V.int .i64) 0 eM 0 [])],.own 4,[4],[],[]⟩),(4,⟨[],[],[],[(5,bP aP bN cH [] [])],.own 5,[5],[],[]⟩),(5,⟨[],[],[],[(6,bP bO bE eV false [])],.own 6,[6],[],[]⟩),(6,⟨[],[],[],[(7,bP bJ bN eP false [])],.own 7,[7],[],[]⟩)] ⟨9,[(0,.ptr 0 0)],((0,.cells 115 [.own 1,.own 2,.own 3,.own 4,.own 5,.own 6,.own 7])::qmp 1 ([]) ([]) ([]) ([]) ([]) ([]) ([])),[],0⟩ (ac6 (aaK (eR (P:=Tryz.prog) (V.int .i64) 0 eG [] 108 1 108) (eU.same [])) (aaK (eR (P:=Tryz.prog) (V.int .i64) 0 eN false 109 2 109) (eU.same [])) (aaK (eR (P:=Tryz.prog) aP bN cH [] 110 3 110) (eU.same [])) (aaK (eR (P:=Tryz.prog) (V.int .i64) 0 eM 0 111 4 111) (eU.same [])) (aaK (eR (P:=Tryz.prog) aP bN cH [] 110 5 110) (eU.same [])) (aaK (eR (P:=Tryz.prog) bO bE eV false 112 6 112) (eU.same [])) (an2 (aaK (eR (P:=Tryz.prog) bJ bN eP false 113 7 113) (eU.same [])) trivial)) ?_;refine aaS (aaI (abX (aV 1 3000) (aD 1 3000) rfl) (LR (s':=⟨9,[(0,.ptr 0 0)],[(0,.cells 115 [.own 3000,.own 2,.own 3,.own 4,.own 5,.own 6,.own 7]),(3000,bP (V.int .i64) 0 eG [] []),(2,bP (V.int .i64) 0 eN false []),(3,bP aP bN cH [] []),(4,bP (V.int .i64) 0 eM 0 []),(5,bP aP bN cH [] []),(6,bP bO bE eV false []),(7,bP bJ bN eP false [])],[],0⟩))) ?_;refine aaS (aaI (abX (aV 2 3001) (aD 2 3001) rfl) (LR (s':=⟨9,[(0,.ptr 0 0)],[(0,.cells 115 [.own 3000,.own 3001,.own 3,.own 4,.own 5,.own 6,.own 7]),(3000,bP (V.int .i64) 0 eG [] []),(3001,bP (V.int .i64) 0 eN false []),(3,bP aP bN cH [] []),(4,bP (V.int .i64) 0 eM 0 []),(5,bP aP bN cH [] []),(6,bP bO bE eV false []),(7,bP bJ bN eP false [])],[],0⟩))) ?_;refine aaS (aaI (abX (aV 3 3002) (aD 3 3002) rfl) (LR (s':=⟨9,[(0,.ptr 0 0)],[(0,.cells 115 [.own 3000,.own 3001,.own 3002,.own 4,.own 5,.own 6,.own 7]),(3000,bP (V.int .i64) 0 eG [] []),(3001,bP (V.int .i64) 0 eN false []),(3002,bP aP bN cH [] []),(4,bP (V.int .i64) 0 eM 0 []),(5,bP aP bN cH [] []),(6,bP bO bE eV false []),(7,bP bJ bN eP false [])],[],0⟩))) ?_;refine aaS (aaI (abX (aV 4 3003) (aD 4 3003) rfl) (LR (s':=⟨9,[(0,.ptr 0 0)],[(0,.cells 115 [.own 3000,.own 3001,.own 3002,.own 3003,.own 5,.own 6,.own 7]),(3000,bP (V.int .i64) 0 eG [] []),(3001,bP (V.int .i64) 0 eN false []),(3002,bP aP bN cH [] []),(3003,bP (V.int .i64) 0 eM 0 []),(5,bP aP bN cH [] []),(6,bP bO bE eV false []),(7,bP bJ bN eP false [])],[],0⟩))) ?_;refine aaS (aaI (abX (aV 5 3004) (aD 5 3004) rfl) (LR (s':=⟨9,[(0,.ptr 0 0)],[(0,.cells 115 [.own 3000,.own 3001,.own 3002,.own 3003,.own 3004,.own 6,.own 7]),(3000,bP (V.int .i64) 0 eG [] []),(3001,bP (V.int .i64) 0 eN false []),(3002,bP aP bN cH [] []),(3003,bP (V.int .i64) 0 eM 0 []),(3004,bP aP bN cH [] []),(6,bP bO bE eV false []),(7,bP bJ bN eP false [])],[],0⟩))) ?_;refine aaS (aaI (abX (aV 6 3005) (aD 6 3005) rfl) (LR (s':=⟨9,[(0,.ptr 0 0)],[(0,.cells 115 [.own 3000,.own 3001,.own 3002,.own 3003,.own 3004,.own 3005,.own 7]),(3000,bP (V.int .i64) 0 eG [] []),(3001,bP (V.int .i64) 0 eN false []),(3002,bP aP bN cH [] []),(3003,bP (V.int .i64) 0 eM 0 []),(3004,bP aP bN cH [] []),(3005,bP bO bE eV false []),(7,bP bJ bN eP false [])],[],0⟩))) ?_;refine aaS (aaI (abX (aV 7 3006) (aD 7 3006) rfl) (LR (s':=⟨9,[(0,.ptr 0 0)],((0,.cells 115 [.own 3000,.own 3001,.own 3002,.own 3003,.own 3004,.own 3005,.own 3006])::qmp 3000 ([]) ([]) ([]) ([]) ([]) ([]) ([])),[],0⟩))) ?_;obtain rfl:=aaD h;refine aaS (LR (s':=⟨9,[(0,.ptr 0 0)],[(3000,bP (V.int .i64) 0 eG [] []),(3001,bP (V.int .i64) 0 eN false []),(3002,bP aP bN cH [] []),(3003,bP (V.int .i64) 0 eM 0 []),(3004,bP aP bN cH [] []),(3005,bP bO bE eV false []),(3006,bP bJ bN eP false []),(0,.cells 115 [.own 3000,.own 3001,.own 3002,.own 3003,.own 3004,.own 3005,.own 3006])],[],0⟩)) ?_;refine aaH ?_;exact bD
def f192 (x1:Int):Option Int:=
 chk (0<=x1/\x1<((cs0.length:Nat):Int))<|
 chk ((((cs0.getD ((x1).toNat) 0).toNat:Nat):Int)<=9223372036854775807)<|
 some (((cs0.getD ((x1).toNat) 0).toNat:Nat):Int)
theorem f192_ok (x1 r:Int) (h:f192 x1=some r):aG Tryz.prog 192 [] [] [] [.int .u8 x1] (.i r) []:=by
 unfold f192 at h;refine aG.body 0 _ _ Tryz.func192 rfl Tryz.ntmps192 rfl rfl ?_;refine aN [] [] [0] [] trivial ?_;refine aaE ?_;obtain⟨ob0,ob1p,h⟩:=ck2 h;have ob1: -9223372036854775808<=(((cs0.getD ((x1).toNat) 0).toNat:Nat):Int)/\(((cs0.getD ((x1).toNat) 0).toNat:Nat):Int)<=9223372036854775807:=⟨by omega,ob1p⟩;refine bB [] [] ⟨6,[(2,.i (((cs0.getD ((x1).toNat) 0).toNat:Nat):Int))],[],[],0⟩ (an2 ob0 ob1) ?_;refine tN ?_;obtain rfl:=aaD h;refine aaH ?_;exact bK
def eK (x1:aaA) (K1:Unit->Option Tq6):Nat->(Int×Nat)->Option Tq6
 |0,_=>none
 |k+1,(i2,n3)=>
  if(decide ((n3:Int)<(min ((x1.length:Nat):Int) (10:Int))))then(
  chk ((n3:Int)<((x1.length:Nat):Int))<|
  if(decide ((((x1.getD n3 0).toNat:Nat):Int)>=(128:Int)))then(
  chk (0<=(eB .and .u8 (((x1.getD n3 0).toNat:Nat):Int) (127:Int))/\(eB .and .u8 (((x1.getD n3 0).toNat:Nat):Int) (127:Int))<=18446744073709551615)<|
  chk (-9223372036854775808<=((7:Int) *(n3:Int))/\((7:Int) *(n3:Int))<=9223372036854775807)<|
  chk (((n3:Int)+(1:Int))<=9223372036854775807)<|
  (eK x1 K1 k) ((eB .or .u64 i2 (IntKind.wrap .u64 ((eB .and .u8 (((x1.getD n3 0).toNat:Nat):Int) (127:Int)) *2^(min (7 *n3) (IntKind.bits .u64))))),(n3+1))
  )else(
  (f192 (((x1.getD n3 0).toNat:Nat):Int)).bind fun r4=>
  chk (-9223372036854775808<=((7:Int) *(n3:Int))/\((7:Int) *(n3:Int))<=9223372036854775807)<|
  chk (-9223372036854775808<=(r4+(((7 *n3):Nat):Int))/\(r4+(((7 *n3):Nat):Int))<=9223372036854775807)<|
  if(decide ((r4+(((7 *n3):Nat):Int))>(64:Int)))then(
  some ((0:Int),(0:Int),(7:Int))
  )else(
  if(((((x1.getD n3 0).toNat:Nat):Int)==(0:Int))&&(decide ((n3:Int)>(0:Int))))then(
  some ((0:Int),(0:Int),(2:Int))
  )else(
  chk ((((x1.getD n3 0).toNat:Nat):Int)<=18446744073709551615)<|
  chk (-9223372036854775808<=((7:Int) *(n3:Int))/\((7:Int) *(n3:Int))<=9223372036854775807)<|
  chk ((7 *n3)<=IntKind.bits .u64/\0<=((((x1.getD n3 0).toNat:Nat):Int) *2^(7 *n3))/\((((x1.getD n3 0).toNat:Nat):Int) *2^(7 *n3))<=18446744073709551615)<|
  chk (((n3:Int)+(1:Int))<=9223372036854775807)<|
  some ((eB .or .u64 i2 ((((x1.getD n3 0).toNat:Nat):Int) *2^(7 *n3))),(((n3+1):Nat):Int),(0:Int))
  )
  )
  )
  )else(
  K1 ()
  )
theorem aCM (x1:aaA) (K1:Unit->Option Tq6) (k:Nat) (i2:Int) (n3:Nat):eK x1 K1 (k+1) (i2,n3)=
  if(decide ((n3:Int)<(min ((x1.length:Nat):Int) (10:Int))))then(
  chk ((n3:Int)<((x1.length:Nat):Int))<|
  if(decide ((((x1.getD n3 0).toNat:Nat):Int)>=(128:Int)))then(
  chk (0<=(eB .and .u8 (((x1.getD n3 0).toNat:Nat):Int) (127:Int))/\(eB .and .u8 (((x1.getD n3 0).toNat:Nat):Int) (127:Int))<=18446744073709551615)<|
  chk (-9223372036854775808<=((7:Int) *(n3:Int))/\((7:Int) *(n3:Int))<=9223372036854775807)<|
  chk (((n3:Int)+(1:Int))<=9223372036854775807)<|
  (eK x1 K1 k) ((eB .or .u64 i2 (IntKind.wrap .u64 ((eB .and .u8 (((x1.getD n3 0).toNat:Nat):Int) (127:Int)) *2^(min (7 *n3) (IntKind.bits .u64))))),(n3+1))
  )else(
  (f192 (((x1.getD n3 0).toNat:Nat):Int)).bind fun(r4:Int)=>
  chk (-9223372036854775808<=((7:Int) *(n3:Int))/\((7:Int) *(n3:Int))<=9223372036854775807)<|
  chk (-9223372036854775808<=(r4+(((7 *n3):Nat):Int))/\(r4+(((7 *n3):Nat):Int))<=9223372036854775807)<|
  if(decide ((r4+(((7 *n3):Nat):Int))>(64:Int)))then(
  some ((0:Int),(0:Int),(7:Int))
  )else(
  if(((((x1.getD n3 0).toNat:Nat):Int)==(0:Int))&&(decide ((n3:Int)>(0:Int))))then(
  some ((0:Int),(0:Int),(2:Int))
  )else(
  chk ((((x1.getD n3 0).toNat:Nat):Int)<=18446744073709551615)<|
  chk (-9223372036854775808<=((7:Int) *(n3:Int))/\((7:Int) *(n3:Int))<=9223372036854775807)<|
  chk ((7 *n3)<=IntKind.bits .u64/\0<=((((x1.getD n3 0).toNat:Nat):Int) *2^(7 *n3))/\((((x1.getD n3 0).toNat:Nat):Int) *2^(7 *n3))<=18446744073709551615)<|
  chk (((n3:Int)+(1:Int))<=9223372036854775807)<|
  some ((eB .or .u64 i2 ((((x1.getD n3 0).toNat:Nat):Int) *2^(7 *n3))),(((n3+1):Nat):Int),(0:Int))
  )
  )
  )
  )else(
  K1 ()
  ):=rfl
abbrev f156z0 :List (Nat×V):=[(2,.int .u64 (0:Int)),(3,.i (0:Int)),(4,.i (7:Int))]
def f156 (x1:aaA):Option Tq6:=
 jn (fun(_:Unit)=>
 if(decide (((x1.length:Nat):Int)<(10:Int)))then(
 some ((0:Int),(0:Int),(9:Int))
 )else(
 some ((0:Int),(0:Int),(7:Int))
 )
 ) fun(K1:Unit->Option Tq6)=>
 eK x1 K1 aY ((0:Int),0)
theorem f156_ok (x1:aaA) (r:Tq6) (h:f156 x1=some r):aG Tryz.prog 156 [] [] [] [.str x1] (.tup [.int .u64 r.1,.i r.2.1,.i r.2.2]) []:=by
 unfold f156 at h;refine aG.body 0 _ _ Tryz.func156 rfl Tryz.ntmps156 rfl rfl ?_;refine aN [25] [] [0] [] trivial ?_;refine bC [25] [] ⟨52,[(0,.str x1),(5,.int .u64 (0:Int))],[],[],0⟩ trivial ?_;obtain⟨K1,hK1,h⟩:=aI h;refine aaR (fun(x:Unit)=>match x with|()=>⟨52,[(0,.str x1)],[],[],0⟩) (fun x=>K1 x=some r) ?_ ?_
 ·refine aN [25] [] [0,5,10,11] [] trivial ?_;refine aaJ (abG (α:=Nat×(Int×Nat)) (fun x=>match x with|(_,i2,n3)=>⟨52,[(0,.str x1),(5,.int .u64 i2),(10,.i (min (lZ x1) (10:Int))),(11,.i (n3:Int))],[],[],0⟩) (fun x=>eK x1 K1 x.1 x.2=some r) (fun x=>x.1) (aY,(0:Int),0) LR h ?_)
  rintro⟨k0,i2,n3⟩ h
  cases k0 with
  |zero=>exact nEx h
  |succ k0=>
  obtain⟨C0,hC0⟩:∃C,C=eK x1 K1 k0:=⟨_,rfl⟩;replace h:=(aCM ..).symm.trans h
  try rw[<-hC0]at h
  refine aN [25] [] [0,5,10,11,12] [] trivial ?_;refine aaE (cK (decide ((n3:Int)<(min (lZ x1) (10:Int)))) (fun hc1=> ?_) fun hc1=> ?_)
  ·replace h:=aE hc1 h;refine aaG (tN (aaE (aaJ (aN [25] [] [0,5,6,10,11] [] trivial ?_))));refine aaE ?_;obtain⟨ob0p,h⟩:=aB h;refine aZ [25] [] [0,5,6,7,10,11] [] (an1 (iN ob0p)) ?_;refine tN (aaE (aN [25] [] [0,5,6,7,10,11,18] [] trivial ?_));refine cK (decide ((((x1.getD n3 0).toNat:Nat):Int)>=(128:Int))) (fun hc2=> ?_) fun hc2=> ?_
   ·replace h:=aE hc2 h;refine aaE ?_;obtain⟨ob1,ob2,h⟩:=ck2 h;have ob3:0<=(((7 *n3):Nat):Int):=by omega
    refine bB [25] [] ⟨52,[(0,.str x1),(5,.int .u64 (eB .or .u64 i2 (IntKind.wrap .u64 ((eB .and .u8 (((x1.getD n3 0).toNat:Nat):Int) (127:Int)) *2^(min (7 *n3) (IntKind.bits .u64)))))),(10,.i (min (lZ x1) (10:Int))),(11,.i (n3:Int))],[],[],0⟩ (an3 ob1 ob2 ob3) ?_;refine tN (abJ (tE (kS (tN ?_))));obtain⟨ob4p,h⟩:=aB h;refine aZ [25] [] [0,5,10,11] [] (an1 (iP ob4p)) ?_;rw[hC0]at h;exact lN (_,(eB .or .u64 i2 (IntKind.wrap .u64 ((eB .and .u8 (((x1.getD n3 0).toNat:Nat):Int) (127:Int)) *2^(min (7 *n3) (IntKind.bits .u64))))),(n3+1)) LR h (aaM _)
   ·replace h:=aF hc2 h;refine aaG (tN (aaE (aaE ?_)));obtain⟨r4,hr4,h⟩:=bind_ok h;obtain⟨ob5,ob6,h⟩:=ck2 h;refine aZ [25] [(1,⟨[.int .u8 (((x1.getD n3 0).toNat:Nat):Int)],[],[],[],.i r4,[],[],[]⟩)] [5,6,7,32] [] (an3 (cpT (f192_ok _ _ hr4)) ob5 ob6) ?_;refine tN (cK (decide ((r4+(((7 *n3):Nat):Int))>(64:Int))) (fun hc3=> ?_) fun hc3=> ?_)
    ·replace h:=aE hc3 h;refine bC [25] [] ⟨52,(f156z0),[],[],0⟩ trivial ?_;obtain rfl:=aaD h;refine aaH (tR (kR (tR (tR (kR (aR ?_))))));exact bK
    ·replace h:=aF hc3 h;refine aaG (tN (aaE (aaE (aZ [25] [] [5,6,7,38] [] (an2 (an1 (idA ((((((x1.getD n3 0).toNat:Nat):Int)==(0:Int))==true)=true))) (bqA ((((x1.getD n3 0).toNat:Nat):Int)==(0:Int)) true)) ?_))));refine tN (cK (((((x1.getD n3 0).toNat:Nat):Int)==(0:Int))&&(decide ((n3:Int)>(0:Int)))) (fun hc4=> ?_) fun hc4=> ?_)
     ·replace h:=aE hc4 h;refine bC [25] [] ⟨52,[(2,.int .u64 (0:Int)),(3,.i (0:Int)),(4,.i (2:Int))],[],[],0⟩ trivial ?_;obtain rfl:=aaD h;refine aaH (tR (kR (tR (tR (kR (aR ?_))))));exact bK
     ·replace h:=aF hc4 h;refine aaG (tN (aaE ?_));obtain⟨ob9p,h⟩:=aB h;have ob9:0<=(((x1.getD n3 0).toNat:Nat):Int)/\(((x1.getD n3 0).toNat:Nat):Int)<=18446744073709551615:=⟨by omega,ob9p⟩;obtain⟨ob10,ob11p,h⟩:=ck2 h;have ob11:0<=(((7 *n3):Nat):Int)/\(7 *n3)<=IntKind.bits .u64/\0<=((((x1.getD n3 0).toNat:Nat):Int) *2^(7 *n3))/\((((x1.getD n3 0).toNat:Nat):Int) *2^(7 *n3))<=18446744073709551615:=⟨by omega,ob11p.1,ob11p.2.1,ob11p.2.2⟩;obtain⟨ob12p,h⟩:=aB h;refine aZ [25] [] [2,3,4] [] (an4 ob9 ob10 ob11 (iP ob12p)) ?_;refine tN ?_;obtain rfl:=aaD h;refine aaH (kR (tR (tR (kR (aR ?_)))));exact bK
  ·replace h:=aF hc1 h;refine abJ (tE (tE (kS ?_)));exact jN () LR h
 ·rintro⟨⟩ h;replace h:=(congrFun hK1 _).symm.trans h;refine aaE (aN [25] [] [51] [] trivial ?_);refine cK (decide ((lZ x1)<(10:Int))) (fun hc5=> ?_) fun hc5=> ?_
  ·replace h:=aE hc5 h;refine bC [25] [] ⟨52,[(2,.int .u64 (0:Int)),(3,.i (0:Int)),(4,.i (9:Int))],[],[],0⟩ trivial ?_;obtain rfl:=aaD h;refine aaH (tR ?_);exact bK
  ·replace h:=aF hc5 h;refine aaG (tN (aN [25] [] [2,3,4] [] trivial ?_));obtain rfl:=aaD h;refine aaH ?_;exact bK
def f126 (x1:aaA):Option (aaA×Int×Int):=
 (f156 x1).bind fun r2=>
 if(r2.2.2 !=(0:Int))then(
 some ([],(0:Int),r2.2.2)
 )else(
 chk (-9223372036854775808<=(((x1.length:Nat):Int)-r2.2.1)/\(((x1.length:Nat):Int)-r2.2.1)<=9223372036854775807)<|
 chk (0<=(((x1.length:Nat):Int)-r2.2.1)/\(((x1.length:Nat):Int)-r2.2.1)<=18446744073709551615)<|
 if(decide (r2.1>(((x1.length:Nat):Int)-r2.2.1)))then(
 some ([],(0:Int),(9:Int))
 )else(
 chk (-9223372036854775808<=r2.1/\r2.1<=9223372036854775807)<|
 chk (-9223372036854775808<=(r2.2.1+r2.1)/\(r2.2.1+r2.1)<=9223372036854775807)<|
 chk (0<=r2.2.1/\r2.2.1<=(r2.2.1+r2.1)/\(r2.2.1+r2.1)<=((x1.length:Nat):Int))<|
 some (((x1.take (((r2.2.1+r2.1)).toNat)).drop ((r2.2.1).toNat)),(r2.2.1+r2.1),(0:Int))
 )
 )
theorem f126_ok (x1:aaA) (r:aaA×Int×Int) (h:f126 x1=some r):aG Tryz.prog 126 [] [] [] [.str x1] (.tup [.str r.1,.i r.2.1,.i r.2.2]) []:=by
 unfold f126 at h;refine aG.body 0 _ _ Tryz.func126 rfl Tryz.ntmps126 rfl rfl ?_;refine aN [] [] [0] [] trivial ?_;refine aaE ?_;obtain⟨r2,hr2,h⟩:=bind_ok h;refine aZ [] [(1,⟨[.str x1],[],[],[],.tup [.int .u64 r2.1,.i r2.2.1,.i r2.2.2],[],[],[]⟩)] [0,5,6,7] [] (an1 (cpT (f156_ok _ _ hr2))) ?_;refine tN (aaE (aN [] [] [0,5,6,7,16] [] trivial ?_));refine cK (r2.2.2 !=(0:Int)) (fun hc1=> ?_) fun hc1=> ?_
 ·replace h:=aE hc1 h;refine bC [] [] ⟨34,[(2,.str []),(3,.i (0:Int)),(4,.i r2.2.2)],[],[],0⟩ trivial ?_;obtain rfl:=aaD h;refine aaH (tR ?_);exact bK
 ·replace h:=aF hc1 h;refine aaG (tN (aaE (aaE ?_)));obtain⟨ob0,ob1,h⟩:=ck2 h;refine aZ [] [] [0,5,6,24] [] (an2 ob0 ob1) ?_;refine tN (cK (decide (r2.1>((lZ x1)-r2.2.1))) (fun hc2=> ?_) fun hc2=> ?_)
  ·replace h:=aE hc2 h;refine bC [] [] ⟨34,[(2,.str []),(3,.i (0:Int)),(4,.i (9:Int))],[],[],0⟩ trivial ?_;obtain rfl:=aaD h;refine aaH (tR ?_);exact bK
  ·replace h:=aF hc2 h;refine aaG (tN (aaE ?_));obtain⟨ob2,ob3,h⟩:=ck2 h;refine aZ [] [] [0,6,8] [] (an2 ob2 ob3) ?_;refine tN (aaE ?_);obtain⟨ob4,h⟩:=aB h;refine bB [] [] ⟨34,[(2,.str ((x1.take (((r2.2.1+r2.1)).toNat)).drop ((r2.2.1).toNat))),(3,.i (r2.2.1+r2.1)),(4,.i (0:Int))],[],[],0⟩ (an1 ob4) ?_;refine tN ?_;obtain rfl:=aaD h;refine aaH ?_;exact bK
def eT (x1:aaA) (r2:Tq6) (K1:(Int×List Ty0)->Option (Int×Int×List Ty0)):Nat->(Int×Nat×List Ty0)->Option (Int×Int×List Ty0)
 |0,_=>none
 |k+1,(i3,n4,l5)=>
  if(decide ((n4:Int)<r2.1))then(
  (f126 (x1.drop ((i3).toNat))).bind fun r6=>
  chk (0<=i3/\i3<=((x1.length:Nat):Int))<|
  if(r6.2.2 !=(0:Int))then(
  some ((0:Int),r6.2.2,[])
  )else(
  chk (((l5).length+1) *16<=140737488355328)<|
  chk (-9223372036854775808<=(i3+r6.2.1)/\(i3+r6.2.1)<=9223372036854775807)<|
  chk (((n4:Int)+(1:Int))<=18446744073709551615)<|
  (eT x1 r2 K1 k) ((i3+r6.2.1),(n4+1),(l5++[r6.1]))
  )
  )else(
  K1 (i3,l5)
  )
def f125 (x1:aaA):Option (Int×Int×List Ty0):=
 (f156 x1).bind fun r2=>
 if(r2.2.2 !=(0:Int))then(
 some ((0:Int),r2.2.2,[])
 )else(
 jn (fun((i7,l8):Int×List Ty0)=>
 some (i7,(0:Int),l8)
 ) fun(K1:(Int×List Ty0)->Option (Int×Int×List Ty0))=>
 eT x1 r2 K1 aY (r2.2.1,0,[])
 )
theorem f125_ok (x1:aaA) (r:Int×Int×List Ty0) (h:f125 x1=some r):aG Tryz.prog 125 [] [] [] [.str x1,.fn (.func 126) []] (.tup [.own 3000,.i r.1,.i r.2.1]) [(3000,bL 9 1 eS [] r.2.2)]:=by
 unfold f125 at h;refine aG.body 0 _ _ Tryz.func125 rfl Tryz.ntmps125 rfl rfl ?_;refine aN [] [] [0,1] [] trivial ?_;refine aaE ?_;obtain⟨r2,hr2,h⟩:=bind_ok h;refine aZ [] [(1,⟨[.str x1],[],[],[],.tup [.int .u64 r2.1,.i r2.2.1,.i r2.2.2],[],[],[]⟩)] [0,1,7,8,9] [] (an1 (cpT (f156_ok _ _ hr2))) ?_;refine tN (aaE (aN [] [] [0,1,7,8,9,21] [] trivial ?_));refine cK (r2.2.2 !=(0:Int)) (fun hc1=> ?_) fun hc1=> ?_
 ·replace h:=aE hc1 h;refine bC [] [] ⟨48,[(4,.nils),(5,.i (0:Int)),(6,.i r2.2.2)],[],[],0⟩ trivial ?_;refine aaS (aaI (adE 4 3000 9 1 (bY eS [] []) rfl rfl (aaW rfl)) (LR (s':=⟨48,[(4,.own 3000),(5,.i (0:Int)),(6,.i r2.2.2)],[(3000,aU [])],[],0⟩))) ?_;obtain rfl:=aaD h;refine aaS (LR (s':=⟨48,[(4,.own 3000),(5,.i (0:Int)),(6,.i r2.2.2)],[(3000,aU [])],[],0⟩)) ?_;refine aaH (tR ?_);exact bK
 ·replace h:=aF hc1 h;refine aaG (tN (aN [] [] [0,1,7,8,10] [] trivial ?_));obtain⟨K1,hK1,h⟩:=aI h;refine aaR (fun(x:Int×List Ty0)=>match x with|(i7,l8)=>⟨48,[(8,.i i7),(10,.own 5010)],[(5010,aU l8)],[],0⟩) (fun x=>K1 x=some r) ?_ ?_
  ·refine bC [] [] ⟨48,[(0,.str x1),(1,.fn (.func 126) []),(8,.i r2.2.1),(10,.nils),(23,.int .u64 r2.1),(24,.int .u64 (0:Int))],[],[],0⟩ trivial ?_;refine aaJ (abG (α:=Nat×(Int×Nat×List Ty0)) (fun x=>match x with|(_,i3,n4,l5)=>⟨48,[(0,.str x1),(1,.fn (.func 126) []),(8,.i i3),(10,.own 5010),(23,.int .u64 r2.1),(24,.int .u64 (n4:Int))],[(5010,aU l5)],[],0⟩) (fun x=>eT x1 r2 K1 x.1 x.2=some r) (fun x=>x.1) (aY,r2.2.1,0,[]) (aaI (aaI (adE 10 5010 9 1 (bY eS [] []) rfl rfl (aaW rfl)) (LR (s':=⟨48,[(0,.str x1),(1,.fn (.func 126) []),(8,.i r2.2.1),(10,.own 5010),(23,.int .u64 r2.1),(24,.int .u64 (0:Int))],[(5010,aU [])],[],0⟩))) LR) h ?_)
   rintro⟨k0,i3,n4,l5⟩ h
   cases k0 with
   |zero=>exact nEx h
   |succ k0=>
   obtain⟨C0,hC0⟩:∃C,C=eT x1 r2 K1 k0:=⟨_,rfl⟩;replace h:=(eT.eq_2 ..).symm.trans h
   try rw[<-hC0]at h
   refine aN [] [] [0,1,8,10,23,24,25] [5010] trivial ?_;refine aaE (cK (decide ((n4:Int)<r2.1)) (fun hc2=> ?_) fun hc2=> ?_)
   ·replace h:=aE hc2 h;refine aaG (tN (aaE (aaJ (aaE ?_))));obtain⟨r6,hr6,h⟩:=bind_ok h;obtain⟨ob0,h⟩:=aB h;refine aZ [] [(4,⟨[.str (x1.drop ((i3).toNat))],[],[],[],.tup [.str r6.1,.i r6.2.1,.i r6.2.2],[],[],[]⟩)] [0,1,8,10,11,12,13,23,24] [5010] (an2 ob0 (cpT (f126_ok _ _ hr6))) ?_;refine tN (aaE (aN [] [] [0,1,8,10,11,12,13,23,24,36] [5010] trivial ?_));refine cK (r6.2.2 !=(0:Int)) (fun hc3=> ?_) fun hc3=> ?_
    ·replace h:=aE hc3 h;refine bC [] [] ⟨48,[(4,.nils),(5,.i (0:Int)),(6,.i r6.2.2)],[],[],0⟩ trivial ?_;refine aaS (aaI (adE 4 3000 9 1 (bY eS [] []) rfl rfl (aaW rfl)) (LR (s':=⟨48,[(4,.own 3000),(5,.i (0:Int)),(6,.i r6.2.2)],[(3000,aU [])],[],0⟩))) ?_;obtain rfl:=aaD h;refine aaS (LR (s':=⟨48,[(4,.own 3000),(5,.i (0:Int)),(6,.i r6.2.2)],[(3000,aU [])],[],0⟩)) ?_;refine aaH (tR (kR (tR (tR (kR (aR ?_))))));exact bK
    ·replace h:=aF hc3 h;refine aaG (tN (aaE ?_));obtain⟨ob1,h⟩:=aB h;refine bB [] [] ⟨48,[(0,.str x1),(1,.fn (.func 126) []),(8,.i i3),(10,.own 5010),(12,.i r6.2.1),(23,.int .u64 r2.1),(24,.int .u64 (n4:Int))],[(5010,.rows 9 1 ((l5).length+1) (fH (l5).length (bY eS [] l5) (dE 1 [.str r6.1])))],[],0⟩ (an1 ob1) ?_;refine tN (aaS (acO (s':=⟨48,[(0,.str x1),(1,.fn (.func 126) []),(8,.i i3),(10,.own 5010),(12,.i r6.2.1),(23,.int .u64 r2.1),(24,.int .u64 (n4:Int))],[(5010,aU (l5++[r6.1]))],[],0⟩) rfl rfl ⟨.refl _,.refl _,.refl _,.refl _,.refl _,.refl _,.refl _,trivial⟩ ⟨⟨_,rfl,(acE (adF (acH _) (acM (enc:=eS) [r6.1] rfl rfl (fun _=>rfl))))⟩,trivial⟩) ?_);obtain⟨ob2,h⟩:=aB h;refine aZ [] [] [0,1,8,10,23,24] [5010] (an1 ob2) ?_;refine kN (tN ?_);obtain⟨ob3p,h⟩:=aB h;have ob3:0<=((n4:Int)+(1:Int))/\((n4:Int)+(1:Int))<=18446744073709551615:=⟨by omega,ob3p⟩;refine bB [] [] ⟨48,[(0,.str x1),(1,.fn (.func 126) []),(8,.i (i3+r6.2.1)),(10,.own 5010),(23,.int .u64 r2.1),(24,.int .u64 (((n4+1):Nat):Int))],[(5010,aU (l5++[r6.1]))],[],0⟩ (an1 ob3) ?_;rw[hC0]at h;exact lN (_,(i3+r6.2.1),(n4+1),(l5++[r6.1])) LR h (aaM _)
   ·replace h:=aF hc2 h;refine abJ (tE (tE (kS ?_)));exact jN (i3,l5) LR h
  ·rintro⟨i7,l8⟩ h;replace h:=(congrFun hK1 _).symm.trans h;refine bC [] [] ⟨48,[(4,.own 5010),(5,.i i7),(6,.i (0:Int))],[(5010,aU l8)],[],0⟩ trivial ?_;refine aaS (aaI (abX (aV 5010 3000) (aD 5010 3000) rfl) (LR (s':=⟨48,[(4,.own 3000),(5,.i i7),(6,.i (0:Int))],[(3000,aU l8)],[],0⟩))) ?_;obtain rfl:=aaD h;refine aaS (LR (s':=⟨48,[(4,.own 3000),(5,.i i7),(6,.i (0:Int))],[(3000,aU l8)],[],0⟩)) ?_;refine aaH ?_;exact bK
def f96 (x1:aaA):Option (Int×Int×List Ty0):=
 (f125 x1).bind fun r2=>
 some (r2.1,r2.2.1,r2.2.2)
theorem f96_ok (x1:aaA) (r:Int×Int×List Ty0) (h:f96 x1=some r):aG Tryz.prog 96 [] [] [] [.str x1] (.tup [.own 3000,.i r.1,.i r.2.1]) [(3000,bL 9 1 eS [] r.2.2)]:=by
 unfold f96 at h;refine aG.body 0 _ _ Tryz.func96 rfl Tryz.ntmps96 rfl rfl ?_;refine aN [] [] [0] [] trivial ?_;refine aaE ?_;obtain⟨r2,hr2,h⟩:=bind_ok h;refine bB [] [(1,⟨[.str x1,.fn (.func 126) []],[],[],[(6001,aU r2.2.2)],.tup [.own 6001,.i r2.1,.i r2.2.1],[6001],[],[]⟩)] ⟨10,[(2,.own 6001),(3,.i r2.1),(4,.i r2.2.1)],[(6001,aU r2.2.2)],[],0⟩ (an1 (cpT (aG.ren (aV 3000 6001) (aD 3000 6001) rfl (f125_ok _ _ hr2)))) ?_;refine tN (aaS (aaI (abX (aV 6001 3000) (aD 6001 3000) rfl) (LR (s':=⟨10,[(2,.own 3000),(3,.i r2.1),(4,.i r2.2.1)],[(3000,aU r2.2.2)],[],0⟩))) ?_);obtain rfl:=aaD h;refine aaS (LR (s':=⟨10,[(2,.own 3000),(3,.i r2.1),(4,.i r2.2.1)],[(3000,aU r2.2.2)],[],0⟩)) ?_;refine aaH ?_;exact bK
def f97 (x1:aaA):Option Tq4:=aAS x1
theorem f97_ok (x1:aaA) (r:Tq4) (h:f97 x1=some r):aG Tryz.prog 97 [(2,bT),(3,bT)] [] [] [.str x1] (.tup [.i r.1,.ifc r.2]) []:=
 atoi_spec Tryz.lays172 rfl rfl rfl x1 r h
def f197 (x1 x2:Int) (x3:aaA) (x4 x5:Int) (x6:aaA):Option Bool:=
 some ((x1==x4)&&(x2==x5))
theorem f197_ok (x1 x2:Int) (x3:aaA) (x4 x5:Int) (x6:aaA) (r:Bool) (h:f197 x1 x2 x3 x4 x5 x6=some r):aG Tryz.prog 197 [] [] [] [.agg [.i x1,.i x2,.str x3],.agg [.i x4,.i x5,.str x6]] (.bool r) []:=by
 unfold f197 at h;refine aG.body 0 _ _ Tryz.func197 rfl Tryz.ntmps197 rfl rfl ?_;refine aN [] [] [2,3] [2,3] trivial ?_;refine aaE (bB [] [] ⟨17,[(4,.bool ((x1==x4)&&(x2==x5)))],[],[],0⟩ (an4 (an1 (idA (((x1==x4)==true)=true))) (an1 (idA (((x1==x4)==true)=true))) (an2 (idA (((x1==x4)==true)=true)) (idA (((x1==x4)==true)=true))) (bqA (x1==x4) true)) ?_);refine tN ?_;obtain rfl:=aaD h;refine aaH ?_;exact bK
def f196 (x1 x2:Int) (x3:aaA) (x4 x5:Int) (x6:aaA):Option (Bool×Int×Int×aaA):=
 (f197 x1 x2 x3 x4 x5 x6).bind fun r7=>
 some (r7,x4,x5,x6)
theorem f196_ok (x1 x2:Int) (x3:aaA) (x4 x5:Int) (x6:aaA) (r:Bool×Int×Int×aaA) (h:f196 x1 x2 x3 x4 x5 x6=some r):aG Tryz.prog 196 [] [2000] [(2000,.cells 88 [.i x4,.i x5,.str x6])] [.agg [.i x1,.i x2,.str x3],.ptr 2000 0] (.bool r.1) [(2000,.cells 88 [.i r.2.1,.i r.2.2.1,.str r.2.2.2])]:=by
 unfold f196 at h;refine aG.body 0 _ _ Tryz.func196 rfl Tryz.ntmps196 rfl rfl ?_;refine aN [] [] [1,2] [2,2000] trivial ?_;refine aaE ?_;obtain⟨r7,hr7,h⟩:=bind_ok h;refine bB [] [(2,⟨[.agg [.i x1,.i x2,.str x3],.agg [.i x4,.i x5,.str x6]],[],[],[],.bool r7,[],[],[]⟩)] ⟨7,[(3,.bool r7)],[(2000,.cells 88 [.i x4,.i x5,.str x6])],[2000],0⟩ (an1 (cpT (f197_ok _ _ _ _ _ _ _ hr7))) ?_;refine tN ?_;obtain rfl:=aaD h;refine aaH ?_;exact bK
def fY (x1:List Tq0) (K1:Tq0->Option (Int×Int×Int×aaA)):Nat->(Nat×Int×Int×aaA)->Option (Int×Int×Int×aaA)
 |0,_=>none
 |k+1,(n5,i6,i7,s8)=>
  if(decide ((n5:Int)<(((x1).length:Nat):Int)))then(
  (f196 ((x1.getD n5 (default:Tq0)).1) ((x1.getD n5 (default:Tq0)).2.1) ((x1.getD n5 (default:Tq0)).2.2) i6 i7 s8).bind fun r9=>
  chk ((n5:Int)<(((x1).length:Nat):Int))<|
  if r9.1 then(
  some ((n5:Int),r9.2.1,r9.2.2.1,r9.2.2.2)
  )else(
  chk (((n5:Int)+(1:Int))<=9223372036854775807)<|
  (fY x1 K1 k) ((n5+1),r9.2.1,r9.2.2.1,r9.2.2.2)
  )
  )else(
  K1 (i6,i7,s8)
  )
abbrev f100z0 (r9:Bool×Int×Int×aaA):aJ:=[(2000,.cells 88 [.i r9.2.1,.i r9.2.2.1,.str r9.2.2.2])]
def f100 (x1:List Tq0) (x2 x3:Int) (x4:aaA):Option (Int×Int×Int×aaA):=
 jn (fun((i10,i11,s12):Tq0)=>
 some ((-1:Int),i10,i11,s12)
 ) fun(K1:Tq0->Option (Int×Int×Int×aaA))=>
 fY x1 K1 aY (0,x2,x3,x4)
theorem f100_ok (x1:List Tq0) (x2 x3:Int) (x4:aaA) (r:Int×Int×Int×aaA) (h:f100 x1 x2 x3 x4=some r):aG Tryz.prog 100 [] [2000] [(2000,.cells 88 [.i x2,.i x3,.str x4])] [vL 3 cC (default:Tq0) x1,.fn (.func 196) [.ptr 2000 0]] (.i r.1) [(2000,.cells 88 [.i r.2.1,.i r.2.2.1,.str r.2.2.2])]:=by
 unfold f100 at h;refine aG.body 0 _ _ Tryz.func100 rfl Tryz.ntmps100 rfl rfl ?_;refine aN [] [] [0,1] [2000] trivial ?_;obtain⟨K1,hK1,h⟩:=aI h;refine aaR (fun(x:Tq0)=>match x with|(i10,i11,s12)=>⟨19,[],[(2000,.cells 88 [.i i10,.i i11,.str s12])],[2000],0⟩) (fun x=>K1 x=some r) ?_ ?_
 ·refine bC [] [] ⟨19,[(0,bH x1),(1,.fn (.func 196) [.ptr 2000 0]),(7,.i (lZ x1)),(8,.i (0:Int))],[(2000,.cells 88 [.i x2,.i x3,.str x4])],[2000],0⟩ trivial ?_;refine aaJ (abG (α:=Nat×(Nat×Int×Int×aaA)) (fun x=>match x with|(_,n5,i6,i7,s8)=>⟨19,[(0,bH x1),(1,.fn (.func 196) [.ptr 2000 0]),(7,.i (lZ x1)),(8,.i (n5:Int))],[(2000,.cells 88 [.i i6,.i i7,.str s8])],[2000],0⟩) (fun x=>fY x1 K1 x.1 x.2=some r) (fun x=>x.1) (aY,0,x2,x3,x4) LR h ?_)
  rintro⟨k0,n5,i6,i7,s8⟩ h
  cases k0 with
  |zero=>exact nEx h
  |succ k0=>
  obtain⟨C0,hC0⟩:∃C,C=fY x1 K1 k0:=⟨_,rfl⟩;replace h:=(fY.eq_2 ..).symm.trans h
  try rw[<-hC0]at h
  refine aN [] [] [0,1,7,8,9] [2000] trivial ?_;refine aaE (cK (decide ((n5:Int)<(lZ x1))) (fun hc1=> ?_) fun hc1=> ?_)
  ·replace h:=aE hc1 h;refine aaG (tN (aaE (aaJ (aN [] [] [0,1,5,7,8] [2000] trivial ?_))));refine aaE ?_;obtain⟨r9,hr9,h⟩:=bind_ok h;obtain⟨ob0p,h⟩:=aB h;refine bB [] [(5,⟨[.agg [.i (x1.getD n5 bE).1,.i (x1.getD n5 bE).2.1,.str (x1.getD n5 bE).2.2],.ptr 2000 0],[2000],[2000],(f100z0 r9),.bool r9.1,[],[],[]⟩)] ⟨19,[(0,bH x1),(1,.fn (.func 196) [.ptr 2000 0]),(5,.i (n5:Int)),(7,.i (lZ x1)),(8,.i (n5:Int)),(16,.bool r9.1)],(f100z0 r9),[2000],0⟩ (an2 (iN ob0p) (cpT (f196_ok _ _ _ _ _ _ _ hr9))) ?_;refine tN (cK r9.1 (fun hc2=> ?_) fun hc2=> ?_)
   ·replace h:=aE hc2 h;refine aN [] [] [4] [2000] trivial ?_;obtain rfl:=aaD h;refine aaH (kR (tR (tR (kR (aR ?_)))));exact bK
   ·replace h:=aF hc2 h;refine aaG (kN (tN ?_));obtain⟨ob1p,h⟩:=aB h;refine bB [] [] ⟨19,[(0,bH x1),(1,.fn (.func 196) [.ptr 2000 0]),(7,.i (lZ x1)),(8,.i (((n5+1):Nat):Int))],(f100z0 r9),[2000],0⟩ (an1 (iP ob1p)) ?_;rw[hC0]at h;exact lN (_,(n5+1),r9.2.1,r9.2.2.1,r9.2.2.2) LR h (aaM _)
  ·replace h:=aF hc1 h;refine abJ (tE (tE (kS ?_)));exact jN (i6,i7,s8) LR h
 ·rintro⟨i10,i11,s12⟩ h;replace h:=(congrFun hK1 _).symm.trans h;refine aN [] [] [4] [2000] trivial ?_;obtain rfl:=aaD h;refine aaH ?_;exact bK
abbrev f69z0 (r5:Int×Int×Int×aaA):aJ:=[(2000,.cells 88 [.i r5.2.1,.i r5.2.2.1,.str r5.2.2.2])]
def f69 (x1:List Tq0) (x2 x3:Int) (x4:aaA):Option (Bool×Int×Int×aaA):=
 (f100 x1 x2 x3 x4).bind fun r5=>
 some ((decide (r5.1>=(0:Int))),r5.2.1,r5.2.2.1,r5.2.2.2)
theorem f69_ok (x1:List Tq0) (x2 x3:Int) (x4:aaA) (r:Bool×Int×Int×aaA) (h:f69 x1 x2 x3 x4=some r):aG Tryz.prog 69 [] [2000] [(2000,.cells 88 [.i x2,.i x3,.str x4])] [vL 3 cC (default:Tq0) x1,.fn (.func 196) [.ptr 2000 0]] (.bool r.1) [(2000,.cells 88 [.i r.2.1,.i r.2.2.1,.str r.2.2.2])]:=by
 unfold f69 at h;refine aG.body 0 _ _ Tryz.func69 rfl Tryz.ntmps69 rfl rfl ?_;refine aN [] [] [0,1] [2000] trivial ?_;refine aaE ?_;obtain⟨r5,hr5,h⟩:=bind_ok h;refine bB [] [(2,⟨[bH x1,.fn (.func 196) [.ptr 2000 0]],[2000],[2000],(f69z0 r5),.i r5.1,[],[],[]⟩)] ⟨9,[(4,.bool (decide (r5.1>=(0:Int))))],(f69z0 r5),[2000],0⟩ (an1 (cpT (f100_ok _ _ _ _ _ hr5))) ?_;refine tN ?_;obtain rfl:=aaD h;refine aaH ?_;exact bK
def f162 (x1:List Tq0) (x2 x3:Int) (x4:aaA):Option Bool:=
 (f69 x1 x2 x3 x4).bind fun r5=>
 some r5.1
theorem f162_ok (x1:List Tq0) (x2 x3:Int) (x4:aaA) (r:Bool) (h:f162 x1 x2 x3 x4=some r):aG Tryz.prog 162 [] [] [] [vL 3 cC (default:Tq0) x1,.agg [.i x2,.i x3,.str x4]] (.bool r) []:=by
 unfold f162 at h;refine aG.body 0 _ _ Tryz.func162 rfl Tryz.ntmps162 rfl rfl ?_;refine aN [] [] [0,3] [3] trivial ?_;refine aaE ?_;obtain⟨r5,hr5,h⟩:=bind_ok h;refine bB [] [(2,⟨[bH x1,.fn (.func 196) [.ptr 3 0]],[3],[3],[(3,.cells 88 [.i r5.2.1,.i r5.2.2.1,.str r5.2.2.2])],.bool r5.1,[],[],[]⟩)] ⟨8,[(4,.bool r5.1)],[],[],0⟩ (an1 (cpT (aG.ren (aV 2000 3) (aD 2000 3) rfl (f69_ok _ _ _ _ _ hr5)))) ?_;refine tN ?_;obtain rfl:=aaD h;refine aaH ?_;exact bK
def iE (x1:List Tq0) (K1:Unit->Option Int):Nat->Nat->Option Int
 |0,_=>none
 |k+1,n2=>
  if(decide ((n2:Int)<(((x1).length:Nat):Int)))then(
  chk ((n2:Int)<(((x1).length:Nat):Int))<|
  if((((decide ((x1.getD n2 (default:Tq0)).1<(0:Int)))||(decide ((x1.getD n2 (default:Tq0)).1>=(6:Int))))||(decide ((x1.getD n2 (default:Tq0)).2.1<(1:Int))))||(decide ((x1.getD n2 (default:Tq0)).2.1>(1000000:Int))))then(
  some (7:Int)
  )else(
  if(((x1.getD n2 (default:Tq0)).2.2)==[])then(
  some (9:Int)
  )else(
  if(decide (((((x1.getD n2 (default:Tq0)).2.2).length:Nat):Int)>(200:Int)))then(
  some (3:Int)
  )else(
  (f162 (x1.take n2) ((x1.getD n2 (default:Tq0)).1) ((x1.getD n2 (default:Tq0)).2.1) ((x1.getD n2 (default:Tq0)).2.2)).bind fun r3=>
  chk ((n2:Int)<=(((x1).length:Nat):Int))<|
  if r3 then(
  some (5:Int)
  )else(
  chk (((n2:Int)+(1:Int))<=9223372036854775807)<|
  (iE x1 K1 k) (n2+1)
  )
  )
  )
  )
  )else(
  K1 ()
  )
theorem aCO (x1:List Tq0) (K1:Unit->Option Int) (k n2:Nat):iE x1 K1 (k+1) n2=
  if(decide ((n2:Int)<(((x1).length:Nat):Int)))then(
  chk ((n2:Int)<(((x1).length:Nat):Int))<|
  if((((decide ((x1.getD n2 (default:Tq0)).1<(0:Int)))||(decide ((x1.getD n2 (default:Tq0)).1>=(6:Int))))||(decide ((x1.getD n2 (default:Tq0)).2.1<(1:Int))))||(decide ((x1.getD n2 (default:Tq0)).2.1>(1000000:Int))))then(
  some (7:Int)
  )else(
  if(((x1.getD n2 (default:Tq0)).2.2)==[])then(
  some (9:Int)
  )else(
  if(decide (((((x1.getD n2 (default:Tq0)).2.2).length:Nat):Int)>(200:Int)))then(
  some (3:Int)
  )else(
  (f162 (x1.take n2) ((x1.getD n2 (default:Tq0)).1) ((x1.getD n2 (default:Tq0)).2.1) ((x1.getD n2 (default:Tq0)).2.2)).bind fun(r3:Bool)=>
  chk ((n2:Int)<=(((x1).length:Nat):Int))<|
  if r3 then(
  some (5:Int)
  )else(
  chk (((n2:Int)+(1:Int))<=9223372036854775807)<|
  (iE x1 K1 k) (n2+1)
  )
  )
  )
  )
  )else(
  K1 ()
  ):=rfl
abbrev jX (x1:List Tq0) (n2:Nat):=(x1.getD n2 (default:Tq0))
abbrev aBH (x1:List Tq0) (n2:Nat):=((decide ((jX x1 n2).1<(0:Int)))||(decide ((jX x1 n2).1>=(6:Int))))
abbrev f129z2 (x1:List Tq0) (n2:Nat):List V:=[.i (jX x1 n2).1,.i (jX x1 n2).2.1,.str (jX x1 n2).2.2]
abbrev aBG (x1:List Tq0) (n2:Nat):=((aBH x1 n2)||(decide ((jX x1 n2).2.1<(1:Int))))
abbrev f129z4 (x1:List Tq0) (n2:Nat):=((decide ((jX x1 n2).1<(0:Int)))==false)
def f129 (x1:List Tq0):Option Int:=
 jn (fun(_:Unit)=>
 some (0:Int)
 ) fun(K1:Unit->Option Int)=>
 iE x1 K1 aY 0
theorem f129_ok (x1:List Tq0) (r:Int) (h:f129 x1=some r):aG Tryz.prog 129 [] [] [] [vL 3 cC (default:Tq0) x1] (.i r) []:=by
 unfold f129 at h;refine aG.body 0 _ _ Tryz.func129 rfl Tryz.ntmps129 rfl rfl ?_;refine aN [] [] [0] [] trivial ?_;obtain⟨K1,hK1,h⟩:=aI h;refine aaR (fun(x:Unit)=>match x with|()=>⟨47,[],[],[],0⟩) (fun x=>K1 x=some r) ?_ ?_
 ·refine bC [] [] ⟨47,[(0,bH x1),(5,bH x1),(6,.i (lZ x1)),(7,.i (0:Int))],[],[],0⟩ trivial ?_;refine aaJ (abG (α:=Nat×Nat) (fun x=>match x with|(_,n2)=>⟨47,[(0,bH x1),(5,bH x1),(6,.i (lZ x1)),(7,.i (n2:Int))],[],[],0⟩) (fun x=>iE x1 K1 x.1 x.2=some r) (fun x=>x.1) (aY,0) LR h ?_)
  rintro⟨k0,n2⟩ h
  cases k0 with
  |zero=>exact nEx h
  |succ k0=>
  obtain⟨C0,hC0⟩:∃C,C=iE x1 K1 k0:=⟨_,rfl⟩;replace h:=(aCO ..).symm.trans h
  try rw[<-hC0]at h
  refine aN [] [] [0,5,6,7,8] [] trivial ?_;refine aaE (cK (decide ((n2:Int)<(lZ x1))) (fun hc1=> ?_) fun hc1=> ?_)
  ·replace h:=aE hc1 h;refine aaG (tN (aaE (aaJ (aaE ?_))));obtain⟨ob0p,h⟩:=aB h;refine aZ [] [] [0,3,4,5,6,7] [4] (an2 (iN ob0p) trivial) ?_;refine tN (aaJ (aaE ?_));have ob3:true=true->(decide ((jX x1 n2).1<(0:Int)))=false->(f129z4 x1 n2)=true:=fun _ h=>beq_iff_eq.2 h;refine aZ [] [] [0,3,4,5,6,7,12] [4] (ac6 (an1 (idA ((f129z4 x1 n2)=true))) (an1 (idA ((f129z4 x1 n2)=true))) ob3 (an1 (idA (((aBH x1 n2)==false)=true))) (an1 (idA (((aBH x1 n2)==false)=true))) (bqA (aBH x1 n2) false) (an3 (an1 (idA (((aBG x1 n2)==false)=true))) (an1 (idA (((aBG x1 n2)==false)=true))) (bqA (aBG x1 n2) false))) ?_;refine tN (cK ((aBG x1 n2)||(decide ((jX x1 n2).2.1>(1000000:Int)))) (fun hc2=> ?_) fun hc2=> ?_)
   ·replace h:=aE hc2 h;refine bC [] [] ⟨47,[(2,.i (7:Int))],[],[],0⟩ trivial ?_;obtain rfl:=aaD h;refine aaH (kR (kR (tR (tR (kR (aR ?_))))));exact bK
   ·replace h:=aF hc2 h;refine aN [] [] [0,3,4,5,6,7,31] [4] trivial ?_;refine cK (((jX x1 n2).2.2)==[]) (fun hc3=> ?_) fun hc3=> ?_
    ·replace h:=aE hc3 h;refine bC [] [] ⟨47,[(2,.i (9:Int))],[],[],0⟩ trivial ?_;obtain rfl:=aaD h;refine aaH (kR (kR (tR (tR (kR (aR ?_))))));exact bK
    ·replace h:=aF hc3 h;refine aN [] [] [0,3,4,5,6,7,35] [4] trivial ?_;refine cK (decide (((((jX x1 n2).2.2).length:Nat):Int)>(200:Int))) (fun hc4=> ?_) fun hc4=> ?_
     ·replace h:=aE hc4 h;refine bC [] [] ⟨47,[(2,.i (3:Int))],[],[],0⟩ trivial ?_;obtain rfl:=aaD h;refine aaH (kR (kR (tR (tR (kR (aR ?_))))));exact bK
     ·replace h:=aF hc4 h;refine aaE ?_;obtain⟨r3,hr3,h⟩:=bind_ok h;obtain⟨ob10p,h⟩:=aB h;refine aZ [] [(4,⟨[bH (x1.take n2),.agg (f129z2 x1 n2)],[],[],[],.bool r3,[],[],[]⟩)] [0,5,6,7,40] [] (an2 (iL ob10p) (cpL (c:=true) [] [] [.arr 3 n2 (bY cC bE x1),.agg (f129z2 x1 n2)] (fun _=>(f162_ok _ _ _ _ _ hr3)) (fun _=>⟨(VLe.takeL (by first|omega|(simp only[aaF,aaN,abB,abE,aaZ]at *;omega)|(simp;done)|(simp_all;done)|(simp_all;omega)|rfl)),.refl _,trivial⟩) (.inl rfl))) ?_;refine tN (cK r3 (fun hc5=> ?_) fun hc5=> ?_)
      ·replace h:=aE hc5 h;refine bC [] [] ⟨47,[(2,.i (5:Int))],[],[],0⟩ trivial ?_;obtain rfl:=aaD h;refine aaH (kR (kR (tR (tR (kR (aR ?_))))));exact bK
      ·replace h:=aF hc5 h;refine aaG (kN (kN (tN ?_)));obtain⟨ob11p,h⟩:=aB h;refine aZ [] [] [0,5,6,7] [] (an1 (iP ob11p)) ?_;rw[hC0]at h;exact lN (_,(n2+1)) LR h (aaM _)
  ·replace h:=aF hc1 h;refine abJ (tE (tE (kS ?_)));exact jN () LR h
 ·rintro⟨⟩ h;replace h:=(congrFun hK1 _).symm.trans h;refine aN [] [] [2] [] trivial ?_;obtain rfl:=aaD h;refine aaH ?_;exact bK
abbrev f98z0 (x1 x2:Int) (x3:List Tq0):aJ:=[(1,.cells 100 [.i x1,.i x2,vL 3 cC (default:Tq0) x3])]
abbrev f98z1 (x2:Int):=((decide (x2<(0:Int)))||(decide (x2>=(6:Int))))
abbrev f98z2 :List (Nat×V):=[(2,.i (1:Int))]
abbrev f98z3 (x2:Int):=((x2 !=(0:Int))==false)
abbrev f98z4 (x2:Int):=((decide (x2<(0:Int)))==false)
def f98 (x1 x2:Int) (x3:List Tq0):Option Int:=
 if(x1==(1:Int))then(
 if(x2 !=(0:Int))then(
 some (1:Int)
 )else(
 if(decide ((((x3).length:Nat):Int)>(8:Int)))then(
 some (3:Int)
 )else(
 (f129 x3).bind fun r4=>
 some r4
 )
 )
 )else(
 if(x1==(2:Int))then(
 if(((decide (x2<(0:Int)))||(decide (x2>=(6:Int))))||(decide ((((x3).length:Nat):Int)>(0:Int))))then(
 some (1:Int)
 )else(
 some (0:Int)
 )
 )else(
 if(x1==(3:Int))then(
 if((x2 !=(0:Int))||(decide ((((x3).length:Nat):Int)>(0:Int))))then(
 some (1:Int)
 )else(
 some (0:Int)
 )
 )else(
 some (1:Int)
 )
 )
 )
theorem f98_ok (x1 x2:Int) (x3:List Tq0) (r:Int) (h:f98 x1 x2 x3=some r):aG Tryz.prog 98 [] [] [] [.agg [.i x1,.i x2,vL 3 cC (default:Tq0) x3]] (.i r) []:=by
 unfold f98 at h;refine aG.body 0 _ _ Tryz.func98 rfl Tryz.ntmps98 rfl rfl ?_;refine aN [] [] [1] [1] trivial ?_;refine aaE (aN [] [] [1,4] [1] trivial ?_);refine aaJ (aN [] [] [1,4,5] [1] trivial ?_);refine cK (x1==(1:Int)) (fun hc1=> ?_) fun hc1=> ?_
 ·replace h:=aE hc1 h;refine aaE (aN [] [] [1,9] [1] trivial ?_);refine cK (x2 !=(0:Int)) (fun hc2=> ?_) fun hc2=> ?_
  ·replace h:=aE hc2 h;refine bC [] [] ⟨44,(f98z2),[],[],0⟩ trivial ?_;obtain rfl:=aaD h;refine aaH (tR (kR (tR ?_)));exact bK
  ·replace h:=aF hc2 h;refine aaG (tN (aaE (aN [] [] [1,13] [1] trivial ?_)));refine cK (decide ((lZ x3)>(8:Int))) (fun hc3=> ?_) fun hc3=> ?_
   ·replace h:=aE hc3 h;refine bC [] [] ⟨44,[(2,.i (3:Int))],[],[],0⟩ trivial ?_;obtain rfl:=aaD h;refine aaH (tR (kR (tR ?_)));exact bK
   ·replace h:=aF hc3 h;refine aaG (tN (aaE ?_));obtain⟨r4,hr4,h⟩:=bind_ok h;refine aZ [] [(2,⟨[bH x3],[],[],[],.i r4,[],[],[]⟩)] [2] [] (an1 (cpT (f129_ok _ _ hr4))) ?_;refine tN ?_;obtain rfl:=aaD h;refine aaH (kR (tR ?_));exact bK
 ·replace h:=aF hc1 h;refine aN [] [] [1,4,17] [1] trivial ?_;refine cK (x1==(2:Int)) (fun hc4=> ?_) fun hc4=> ?_
  ·replace h:=aE hc4 h;refine aaE (aaE ?_);have ob2:true=true->(decide (x2<(0:Int)))=false->(f98z4 x2)=true:=fun _ h=>beq_iff_eq.2 h;refine aZ [] [] [32] [] (ac6 (an1 (idA ((f98z4 x2)=true))) (an1 (idA ((f98z4 x2)=true))) ob2 (an1 (idA (((f98z1 x2)==false)=true))) (an1 (idA (((f98z1 x2)==false)=true))) (an1 (idA (((f98z1 x2)==false)=true))) (an1 (bqA (f98z1 x2) false))) ?_;refine tN (cK ((f98z1 x2)||(decide ((lZ x3)>(0:Int)))) (fun hc5=> ?_) fun hc5=> ?_)
   ·replace h:=aE hc5 h;refine bC [] [] ⟨44,(f98z2),[],[],0⟩ trivial ?_;obtain rfl:=aaD h;refine aaH (tR (kR (tR ?_)));exact bK
   ·replace h:=aF hc5 h;refine aaG (tN (aN [] [] [2] [] trivial ?_));obtain rfl:=aaD h;refine aaH (kR (tR ?_));exact bK
  ·replace h:=aF hc4 h;refine bC [] [] ⟨44,[(1,.ptr 1 0),(33,.bool (x1==(3:Int)))],(f98z0 x1 x2 x3),[],0⟩ trivial ?_;refine cK (x1==(3:Int)) (fun hc6=> ?_) fun hc6=> ?_
   ·replace h:=aE hc6 h;refine aaE (aaE ?_);have ob10:true=true->(x2 !=(0:Int))=false->(f98z3 x2)=true:=fun _ h=>beq_iff_eq.2 h;refine aZ [] [] [43] [] (an4 (an1 (idA ((f98z3 x2)=true))) (an1 (idA ((f98z3 x2)=true))) (an1 (idA ((f98z3 x2)=true))) ob10) ?_;refine tN (cK ((x2 !=(0:Int))||(decide ((lZ x3)>(0:Int)))) (fun hc7=> ?_) fun hc7=> ?_)
    ·replace h:=aE hc7 h;refine bC [] [] ⟨44,(f98z2),[],[],0⟩ trivial ?_;obtain rfl:=aaD h;refine aaH (tR (kR (tR ?_)));exact bK
    ·replace h:=aF hc7 h;refine aaG (tN (aN [] [] [2] [] trivial ?_));obtain rfl:=aaD h;refine aaH (kR (tR ?_));exact bK
   ·replace h:=aF hc6 h;refine aaG (kN (tN (bC [] [] ⟨44,(f98z2),[],[],0⟩ trivial ?_)));obtain rfl:=aaD h;refine aaH ?_;exact bK
def f58 (x1:Int):Option Ty0:=itoaO x1
theorem iO (x1:Int) (r:aaA) (h:f58 x1=some r):aG Tryz.prog 58 [(1,pT)] [] [] [.i x1] (.str r) []:=
 itoa_spec (by kernel_rfl) (fun n w h0 h1 ht=>Any.strconv_Itoa Tryz.lays171 n h0 h1 w ht) x1 r h
def f130 (x1:List Ty0):Option Ty0:=aA8 x1
theorem aAH (x1:List Ty0) (r:aaA) (h:f130 x1=some r):aG Tryz.prog 130 [] [] [] [vL 1 eS [] x1] (.str r) []:=aCj x1 r h
def nZ (x3:List Tq0) (K1:(List Ty0)->Option Ty0):Nat->(Nat×List Ty0)->Option Ty0
 |0,_=>none
 |k+1,(n7,l8)=>
  if(decide ((n7:Int)<(((x3).length:Nat):Int)))then(
  chk ((n7:Int)<(((x3).length:Nat):Int))<|
  (f58 ((x3.getD n7 (default:Tq0)).1)).bind fun r9=>
  (f58 ((x3.getD n7 (default:Tq0)).2.1)).bind fun r10=>
  chk (((l8).length+3) *16<=140737488355328)<|
  chk (((n7:Int)+(1:Int))<=9223372036854775807)<|
  (nZ x3 K1 k) ((n7+1),(l8++[r9,r10,(x3.getD n7 (default:Tq0)).2.2]))
  )else(
  K1 l8
  )
abbrev f99z0 (x3:List Tq0) (n7:Nat):List (Nat×V):=[(3,.own 19),(21,vL 3 cC (default:Tq0) x3),(22,.i (((x3).length:Nat):Int)),(23,.i (n7:Int)),(1000001,pT)]
abbrev aCz (x3:List Tq0) (n7:Nat):=(x3.getD n7 (default:Tq0))
abbrev f99z2 (x1 x2:Int) (x3:List Tq0):List V:=[.i x1,.i x2,vL 3 cC (default:Tq0) x3]
def f99 (x1 x2:Int) (x3:List Tq0):Option Ty0:=
 if(x1==(2:Int))then(
 (f58 x2).bind fun r4=>
 (f130 ([([106,111,105,110]:aaA),r4])).bind fun r5=>
 some r5
 )else(
 if(x1==(3:Int))then(
 (f130 [cs1]).bind fun r6=>
 some r6
 )else(
 jn (fun(l11:List Ty0)=>
 (f130 l11).bind fun r12=>
 some r12
 ) fun(K1:(List Ty0)->Option Ty0)=>
 nZ x3 K1 aY (0,[cs2])
 )
 )
theorem f99_ok (x1 x2:Int) (x3:List Tq0) (r:aaA) (h:f99 x1 x2 x3=some r):aG Tryz.prog 99 [(1,pT)] [] [] [.agg [.i x1,.i x2,vL 3 cC (default:Tq0) x3]] (.str r) []:=by
 unfold f99 at h;refine aG.body 0 _ _ Tryz.func99 rfl Tryz.ntmps99 rfl rfl ?_;refine aN [] [] [1,1000001] [1] trivial ?_;refine aaE (aN [] [] [1,7,1000001] [1] trivial ?_);refine aaJ (aN [] [] [1,7,8,1000001] [1] trivial ?_);refine cK (x1==(2:Int)) (fun hc1=> ?_) fun hc1=> ?_
 ·replace h:=aE hc1 h;refine aaE ?_;obtain⟨r4,hr4,h⟩:=bind_ok h;obtain⟨r5,hr5,h⟩:=bind_ok h;refine bB [] [(2,⟨[.i x2],[],[],[],.str r4,[],[],[1]⟩),(4,⟨[cQ [([106,111,105,110]:aaA),r4]],[],[],[],.str r5,[],[13],[]⟩)] ⟨41,[(2,.str r5)],[],[],0⟩ (an2 (cpT (iO _ _ hr4)) (cpL (c:=true) [(13,.rows 9 1 2 (dE 1 [.str ([106,111,105,110]:aaA),.str r4]))] [13] [.own 13] (fun _=>(aAH _ _ hr5)) (fun _=>⟨(VLe.of (acM (enc:=eS) [([106,111,105,110]:aaA),r4] rfl rfl (fun _=>rfl))),trivial⟩) (.inr ⟨rfl,trivial⟩))) ?_;refine tN ?_;obtain rfl:=aaD h;refine aaH (kR (tR ?_));exact bK
 ·replace h:=aF hc1 h;refine aN [] [] [1,15,1000001] [1] trivial ?_;refine cK (x1==(3:Int)) (fun hc2=> ?_) fun hc2=> ?_
  ·replace h:=aE hc2 h;refine aaE ?_;obtain⟨r6,hr6,h⟩:=bind_ok h;refine bB [] [(1,⟨[cQ [cs1]],[],[],[],.str r6,[],[17],[]⟩)] ⟨41,[(2,.str r6)],[],[],0⟩ (an1 (cpL (c:=true) [(17,.rows 9 1 1 (dE 1 [.str cs1]))] [17] [.own 17] (fun _=>(aAH _ _ hr6)) (fun _=>⟨(VLe.of (acM (enc:=eS) [cs1] rfl rfl (fun _=>rfl))),trivial⟩) (.inr ⟨rfl,trivial⟩))) ?_;refine tN ?_;obtain rfl:=aaD h;refine aaH (kR (tR ?_));exact bK
  ·replace h:=aF hc2 h;refine aaG (kN (tN (bC [] [] ⟨41,[(1,.ptr 1 0),(3,.own 19),(1000001,pT)],[(1,.cells 100 (f99z2 x1 x2 x3)),(19,.rows 9 1 1 (dE 1 [.str cs2]))],[],0⟩ trivial ?_)));refine aaS (acO (s':=⟨41,[(1,.ptr 1 0),(3,.own 19),(1000001,pT)],[(1,.cells 100 (f99z2 x1 x2 x3)),(19,aU [cs2])],[],0⟩) rfl rfl ⟨.refl _,.refl _,.refl _,trivial⟩ ⟨⟨_,rfl,.refl _⟩,⟨_,rfl,(acE (acM (enc:=eS) [cs2] rfl rfl (fun _=>rfl)))⟩,trivial⟩) ?_;obtain⟨K1,hK1,h⟩:=aI h;refine aaR (α:=List Ty0) (fun(l11:List Ty0)=>⟨41,[(3,.own 19),(1000001,pT)],[(19,aU l11)],[],0⟩) (fun x=>K1 x=some r) ?_ ?_
   ·refine aN [] [] [3,21,22,23,1000001] [19] trivial ?_;refine aaJ (abG (α:=Nat×(Nat×List Ty0)) (fun x=>match x with|(_,n7,l8)=>⟨41,(f99z0 x3 n7),[(19,aU l8)],[],0⟩) (fun x=>nZ x3 K1 x.1 x.2=some r) (fun x=>x.1) (aY,0,[cs2]) LR h ?_)
    rintro⟨k0,n7,l8⟩ h
    cases k0 with
    |zero=>exact nEx h
    |succ k0=>
    obtain⟨C0,hC0⟩:∃C,C=nZ x3 K1 k0:=⟨_,rfl⟩;replace h:=(nZ.eq_2 ..).symm.trans h
    try rw[<-hC0]at h
    refine aN [] [] [3,21,22,23,24,1000001] [19] trivial ?_;refine aaE (cK (decide ((n7:Int)<(lZ x3))) (fun hc3=> ?_) fun hc3=> ?_)
    ·replace h:=aE hc3 h;refine aaG (tN (aaE (aaJ (aaE ?_))));obtain⟨ob0p,h⟩:=aB h;refine aZ [] [] [3,5,21,22,23,1000001] [5,19] (an2 (iN ob0p) trivial) ?_;refine tN ?_;obtain⟨r9,hr9,h⟩:=bind_ok h;obtain⟨r10,hr10,h⟩:=bind_ok h;obtain⟨ob1,h⟩:=aB h;refine bB [] [(3,⟨[.i (aCz x3 n7).1],[],[],[],.str r9,[],[],[1]⟩),(6,⟨[.i (aCz x3 n7).2.1],[],[],[],.str r10,[],[],[1]⟩)] ⟨41,(f99z0 x3 n7),[(19,.rows 9 1 ((l8).length+3) (fH (l8).length (bY eS [] l8) (dE 1 [.str r9,.str r10,.str (aCz x3 n7).2.2])))],[],0⟩ (an3 (cpT (iO _ _ hr9)) (cpT (iO _ _ hr10)) ob1) ?_;refine kN (tN (aaS (acO (s':=⟨41,(f99z0 x3 n7),[(19,aU (l8++[r9,r10,(aCz x3 n7).2.2]))],[],0⟩) rfl rfl ⟨.refl _,.refl _,.refl _,.refl _,.refl _,trivial⟩ ⟨⟨_,rfl,(acE (adF (acH _) (acM (enc:=eS) [r9,r10,(aCz x3 n7).2.2] rfl rfl (fun _=>rfl))))⟩,trivial⟩) ?_));obtain⟨ob2p,h⟩:=aB h;refine aZ [] [] [3,21,22,23,1000001] [19] (an1 (iP ob2p)) ?_;rw[hC0]at h;exact lN (_,(n7+1),(l8++[r9,r10,(aCz x3 n7).2.2])) LR h (aaM _)
    ·replace h:=aF hc3 h;refine abJ (tE (tE (kS ?_)));exact jN (l8) LR h
   ·rintro l11 h;replace h:=(congrFun hK1 _).symm.trans h;refine aaE ?_;obtain⟨r12,hr12,h⟩:=bind_ok h;refine aZ [] [(1,⟨[cQ l11],[],[],[],.str r12,[],[19],[]⟩)] [2] [] (an1 (cpL (c:=true) [(19,aU l11)] [19] [.own 19] (fun _=>(aAH _ _ hr12)) (fun _=>⟨.refl _,trivial⟩) (.inr ⟨rfl,trivial⟩))) ?_;refine tN ?_;obtain rfl:=aaD h;refine aaH ?_;exact bK
def iJ (K1:(Nat×Int×Ty5)->Option (Int×Int×Ty5×Int)):Nat->(List Ty0×Ty5)->Option (Int×Int×Ty5×Int)
 |0,_=>none
 |k+1,(l7,l8)=>
  if(decide ((((l7).length:Nat):Int)>=(3:Int)))then(
  (f97 (l7.getD 0 [])).bind fun r9=>
  chk ((0:Int)<(((l7).length:Nat):Int))<|
  (f97 (l7.getD 1 [])).bind fun r10=>
  chk ((1:Int)<(((l7).length:Nat):Int))<|
  chk ((2:Int)<(((l7).length:Nat):Int))<|
  chk (((l8).length+1) *32<=140737488355328)<|
  chk ((3:Int)<=(((l7).length:Nat):Int))<|
  (iJ K1 k) ((l7.drop 3),(l8++[(r9.1,r10.1,(l7.getD 2 []))]))
  )else(
  K1 (1,(0:Int),l8)
  )
abbrev nI :List V:=[.i (0:Int),.i (0:Int),.nils]
abbrev f68z1 (x1:aaA):List (Nat×V):=[(0,.str x1),(2,.ptr 2 0),(7,.ptr 7 0),(1000001,pT),(1000002,bT),(1000003,bT)]
abbrev f68z2 (l8:List Tq0):aJ:=[(2,.cells 100 (nI)),(7,.cells 100 [.i (1:Int),.i (0:Int),.own 6202]),(6202,bL 88 3 cC (default:Tq0) l8)]
abbrev f68z3 :aJ:=[(2,.cells 100 (nI)),(7,.cells 100 [.i (1:Int),.i (0:Int),.nils])]
abbrev f68z4 (l8:List Tq0) (r9 r10:Tq4) (l7:List Ty0):aJ:=[(2,.cells 100 (nI)),(7,.cells 100 [.i (1:Int),.i (0:Int),.own 6202]),(6202,bL 88 3 cC (default:Tq0) (l8++[(r9.1,r10.1,(l7.getD 2 []))]))]
abbrev f68z5 (x1:aaA) (r2:Int×Int×List Ty0):List (Nat×V):=[(0,.str x1),(2,.ptr 2 0),(7,.ptr 7 0),(8,vL 1 eS [] (r2.2.2.drop 1)),(79,.bool ((r2.2.2.getD 0 [])==cs1)),(1000001,pT),(1000002,bT),(1000003,bT)]
abbrev f68z6 :List (Nat×V):=[(2,.ptr 2 0),(3,.i (0:Int)),(1000001,pT),(1000002,bT),(1000003,bT)]
abbrev f68z7 :=([106,111,105,110]:aaA)
abbrev f68z8 (x1:aaA) (l7:List Ty0):List (Nat×V):=[(0,.str x1),(2,.ptr 2 0),(7,.ptr 7 0),(8,vL 1 eS [] l7),(1000001,pT),(1000002,bT),(1000003,bT)]
abbrev f68z9 (n4:Nat) (i5:Int):List V:=[.i (n4:Int),.i i5,.own 6202]
abbrev aBq (n4:Nat) (i5:Int) (l6:List Tq0):List V:=[.i (n4:Int),.i i5,vL 3 cC (default:Tq0) l6]
abbrev f68z11 :List V:=[.i (1:Int),.i (0:Int),.own 6202]
abbrev aBp (r11:Int):=((r11 !=(0:Int))==false)
def f68 (x1:aaA):Option (Int×Int×Ty5×Int):=
 (f96 x1).bind fun r2=>
 if((r2.2.1 !=(0:Int))||((((r2.2.2).length:Nat):Int)==(0:Int)))then(
 some ((0:Int),(0:Int),[],(2:Int))
 )else(
 chk ((1:Int)<=(((r2.2.2).length:Nat):Int))<|
 jn (fun((n4,i5,l6):Nat×Int×Ty5)=>
 (f98 (n4:Int) i5 l6).bind fun r11=>
 eO ((r11 !=(0:Int))==false) (f99 (n4:Int) i5 l6) fun r12=>
 if((r11 !=(0:Int))||(!(r12==x1)))then(
 some ((0:Int),(0:Int),[],(2:Int))
 )else(
 some ((n4:Int),i5,l6,(0:Int))
 )
 ) fun(K1:(Nat×Int×Ty5)->Option (Int×Int×Ty5×Int))=>
 chk ((0:Int)<(((r2.2.2).length:Nat):Int))<|
 if(((r2.2.2.getD 0 [])==([106,111,105,110]:aaA))&&(((((r2.2.2.drop 1)).length:Nat):Int)==(1:Int)))then(
 (f97 ((r2.2.2.drop 1).getD 0 [])).bind fun r3=>
 chk ((0:Int)<((((r2.2.2.drop 1)).length:Nat):Int))<|
 K1 (2,r3.1,[])
 )else(
 chk ((0:Int)<(((r2.2.2).length:Nat):Int))<|
 if((r2.2.2.getD 0 [])==cs1)then(
 K1 (3,(0:Int),[])
 )else(
 iJ K1 aY ((r2.2.2.drop 1),[])
 )
 )
 )
theorem f68_ok (x1:aaA) (r:Int×Int×Ty5×Int) (h:f68 x1=some r):aG Tryz.prog 68 [(1,pT),(2,bT),(3,bT)] [] [] [.str x1] (.tup [.agg [.i r.1,.i r.2.1,vL 3 cC (default:Tq0) r.2.2.1],.i r.2.2.2]) []:=by
 unfold f68 at h;refine aG.bodyD [2] 0 _ _ Tryz.func68 rfl Tryz.ntmps68 rfl rfl ?_;refine aN [] [] [0,2,1000001,1000002,1000003] [2] trivial ?_;refine aaE ?_;obtain⟨r2,hr2,h⟩:=bind_ok h;refine aZ [] [(1,⟨[.str x1],[],[],[(6001,aU r2.2.2)],.tup [.own 6001,.i r2.1,.i r2.2.1],[6001],[],[]⟩)] [0,2,4,6,1000001,1000002,1000003] [2,6001] (an1 (cpT (aG.ren (aV 3000 6001) (aD 3000 6001) rfl (f96_ok _ _ hr2)))) ?_;refine tN (aaE (aaE (aZ [] [] [0,2,4,25,1000001,1000002,1000003] [2,6001] (an3 (an1 (idA (((r2.2.1 !=(0:Int))==false)=true))) (an1 (idA (((r2.2.1 !=(0:Int))==false)=true))) (bqA (r2.2.1 !=(0:Int)) false)) ?_)));refine tN (cK ((r2.2.1 !=(0:Int))||((lZ r2.2.2)==(0:Int))) (fun hc1=> ?_) fun hc1=> ?_)
 ·replace h:=aE hc1 h;refine bC [] [] ⟨96,[(2,.ptr 2 0),(3,.i (2:Int)),(1000001,pT),(1000002,bT),(1000003,bT)],[(2,.cells 100 (nI))],[],0⟩ (an1 trivial) ?_;obtain rfl:=aaD h;refine aaS (acO (s':=⟨96,[(2,.ptr 2 0),(3,.i (2:Int))],[(2,.cells 100 [.i (0:Int),.i (0:Int),bH []])],[],0⟩) rfl rfl ⟨.refl _,.refl _,trivial⟩ ⟨⟨_,rfl,(.cellsL ⟨.refl _,.refl _,.nilL,trivial⟩)⟩,trivial⟩) ?_;refine aaH (tR ?_);exact bD
 ·replace h:=aF hc1 h;refine aaG (tN (bC [] [] ⟨96,[(0,.str x1),(2,.ptr 2 0),(4,.own 6001),(7,.ptr 7 0),(1000001,pT),(1000002,bT),(1000003,bT)],[(2,.cells 100 (nI)),(7,.cells 100 [.i (1:Int),.i (0:Int),.nils]),(6001,aU r2.2.2)],[],0⟩ (an1 trivial) ?_));refine aaE (aaS (aaI (adI 6001 rfl rfl) (LR (s':=⟨96,[(0,.str x1),(2,.ptr 2 0),(4,cQ r2.2.2),(7,.ptr 7 0),(1000001,pT),(1000002,bT),(1000003,bT)],(f68z3),[],0⟩))) ?_);obtain⟨ob3p,h⟩:=aB h;have ob3:0<=(1:Int)/\(1:Int)<=(((r2.2.2).length:Nat):Int):=⟨by omega,ob3p⟩;refine bB [] [] ⟨96,[(0,.str x1),(2,.ptr 2 0),(4,cQ r2.2.2),(7,.ptr 7 0),(8,.arr 1 ((r2.2.2).length-1) (fun i j=>(bY eS [] r2.2.2) (i+1) j)),(1000001,pT),(1000002,bT),(1000003,bT)],(f68z3),[],0⟩ (an1 ob3) ?_;refine tN (aaS (acO (s':=⟨96,[(0,.str x1),(2,.ptr 2 0),(4,cQ r2.2.2),(7,.ptr 7 0),(8,cQ (r2.2.2.drop 1)),(1000001,pT),(1000002,bT),(1000003,bT)],(f68z3),[],0⟩) rfl rfl ⟨.refl _,.refl _,.refl _,.refl _,VLe.dropL,.refl _,.refl _,.refl _,trivial⟩ ⟨⟨_,rfl,.refl _⟩,⟨_,rfl,.refl _⟩,trivial⟩) ?_);obtain⟨K1,hK1,h⟩:=aI h;refine aaR (fun(x:Nat×Int×Ty5)=>match x with|(n4,i5,l6)=>⟨96,(f68z1 x1),[(2,.cells 100 (nI)),(7,.cells 100 (f68z9 n4 i5)),(6202,cM l6)],[],0⟩) (fun x=>K1 x=some r) ?_ ?_
  ·refine aaJ (aaE ?_);obtain⟨ob4p,h⟩:=aB h;have ob4:0<=(0:Int)/\(0:Int)<(((r2.2.2).length:Nat):Int):=⟨by omega,ob4p⟩;refine aZ [] [] [0,2,4,7,8,60,1000001,1000002,1000003] [2,7] (an4 ob4 (an1 (idA ((((r2.2.2.getD 0 [])==(f68z7))==true)=true))) (an1 (idA ((((r2.2.2.getD 0 [])==(f68z7))==true)=true))) (bqA ((r2.2.2.getD 0 [])==(f68z7)) true)) ?_;refine tN (cK (((r2.2.2.getD 0 [])==(f68z7))&&(((((r2.2.2.drop 1)).length:Nat):Int)==(1:Int))) (fun hc2=> ?_) fun hc2=> ?_)
   ·replace h:=aE hc2 h;refine aN [] [] [0,2,7,8,1000001,1000002,1000003] [2,7] (an1 trivial) ?_;obtain⟨r3,hr3,h⟩:=bind_ok h;obtain⟨ob8p,h⟩:=aB h;have ob8:0<=(0:Int)/\(0:Int)<((((r2.2.2.drop 1)).length:Nat):Int):=⟨by omega,ob8p⟩;refine bB [] [(3,⟨[.str ((r2.2.2.drop 1).getD 0 [])],[],[],[],.tup [.i r3.1,.ifc r3.2],[],[],[2,3]⟩)] ⟨96,(f68z1 x1),[(2,.cells 100 (nI)),(7,.cells 100 [.i (2:Int),.i r3.1,.nils])],[],0⟩ (an3 ob8 (cpT (f97_ok _ _ hr3)) trivial) ?_;refine kN ?_;exact jN (2,r3.1,[]) (aaI (aaI (Le.nilOwnC 7 2 6202 88 3 (bY cC bE []) rfl rfl rfl) (LR (s':=⟨96,(f68z1 x1),[(2,.cells 100 (nI)),(7,.cells 100 [.i (2:Int),.i r3.1,.own 6202]),(6202,cM [])],[],0⟩))) LR) h
   ·replace h:=aF hc2 h;refine aaE ?_;obtain⟨ob9p,h⟩:=aB h;have ob9:0<=(0:Int)/\(0:Int)<(((r2.2.2).length:Nat):Int):=⟨by omega,ob9p⟩;refine bB [] [] ⟨96,(f68z5 x1 r2),(f68z3),[],0⟩ (an1 ob9) ?_;refine tN (cK ((r2.2.2.getD 0 [])==cs1) (fun hc3=> ?_) fun hc3=> ?_)
    ·replace h:=aE hc3 h;refine bB [] [] ⟨96,(f68z1 x1),[(2,.cells 100 (nI)),(7,.cells 100 [.i (3:Int),.i (0:Int),.nils])],[],0⟩ (an1 trivial) ?_;refine kN ?_;exact jN (3,(0:Int),[]) (aaI (aaI (Le.nilOwnC 7 2 6202 88 3 (bY cC bE []) rfl rfl rfl) (LR (s':=⟨96,(f68z1 x1),[(2,.cells 100 (nI)),(7,.cells 100 [.i (3:Int),.i (0:Int),.own 6202]),(6202,cM [])],[],0⟩))) LR) h
    ·replace h:=aF hc3 h;refine aaJ (abG (α:=Nat×(List Ty0×Ty5)) (fun x=>match x with|(_,l7,l8)=>⟨96,(f68z8 x1 l7),(f68z2 l8),[],0⟩) (fun x=>iJ K1 x.1 x.2=some r) (fun x=>x.1) (aY,(r2.2.2.drop 1),[]) (aaI (aaI (Le.nilOwnC 7 2 6202 88 3 (bY cC bE []) rfl rfl rfl) (LR (s':=⟨96,(f68z5 x1 r2),[(2,.cells 100 (nI)),(7,.cells 100 (f68z11)),(6202,cM [])],[],0⟩))) LR) h ?_)
     rintro⟨k0,l7,l8⟩ h
     cases k0 with
     |zero=>exact nEx h
     |succ k0=>
     obtain⟨C0,hC0⟩:∃C,C=iJ K1 k0:=⟨_,rfl⟩;replace h:=(iJ.eq_2 ..).symm.trans h
     try rw[<-hC0]at h
     refine aaE (aN [] [] [0,2,7,8,32,1000001,1000002,1000003] [2,7,6202] trivial ?_);refine cK (decide ((lZ l7)>=(3:Int))) (fun hc4=> ?_) fun hc4=> ?_
     ·replace h:=aE hc4 h;refine aaG (tN (aaE (aaJ (aaE ?_))));obtain⟨r9,hr9,h⟩:=bind_ok h;obtain⟨ob10p,h⟩:=aB h;have ob10:0<=(0:Int)/\(0:Int)<(((l7).length:Nat):Int):=⟨by omega,ob10p⟩;refine aZ [] [(3,⟨[.str (l7.getD 0 [])],[],[],[],.tup [.i r9.1,.ifc r9.2],[],[],[2,3]⟩)] [0,2,7,8,9,1000001,1000002,1000003] [2,7,6202] (an2 ob10 (cpT (f97_ok _ _ hr9))) ?_;refine tN (aaE ?_);obtain⟨r10,hr10,h⟩:=bind_ok h;obtain⟨ob11p,h⟩:=aB h;have ob11:0<=(1:Int)/\(1:Int)<(((l7).length:Nat):Int):=⟨by omega,ob11p⟩;refine aZ [] [(3,⟨[.str (l7.getD 1 [])],[],[],[],.tup [.i r10.1,.ifc r10.2],[],[],[2,3]⟩)] [0,2,7,8,9,11,1000001,1000002,1000003] [2,7,6202] (an2 ob11 (cpT (f97_ok _ _ hr10))) ?_;refine tN ?_;obtain⟨ob12p,h⟩:=aB h;have ob12:0<=(2:Int)/\(2:Int)<(((l7).length:Nat):Int):=⟨by omega,ob12p⟩;obtain⟨ob13,h⟩:=aB h;refine bB [] [] ⟨96,(f68z8 x1 l7),[(2,.cells 100 (nI)),(7,.cells 100 (f68z11)),(6202,.rows 88 3 ((l8).length+1) (fH (l8).length (bY cC bE l8) (dE 3 [.i r9.1,.i r10.1,.str (l7.getD 2 [])])))],[],0⟩ (an3 ob12 ob13 trivial) ?_;refine kN (tN (aaS (acO (s':=⟨96,(f68z8 x1 l7),(f68z4 l8 r9 r10 l7),[],0⟩) rfl rfl ⟨.refl _,.refl _,.refl _,.refl _,.refl _,.refl _,.refl _,trivial⟩ ⟨⟨_,rfl,.refl _⟩,⟨_,rfl,.refl _⟩,⟨_,rfl,(acE (adF (acH _) (acM (enc:=cC) [(r9.1,r10.1,(l7.getD 2 []))] rfl rfl (fun _=>rfl))))⟩,trivial⟩) ?_));obtain⟨ob14p,h⟩:=aB h;have ob14:0<=(3:Int)/\(3:Int)<=(((l7).length:Nat):Int):=⟨by omega,ob14p⟩;refine bB [] [] ⟨96,[(0,.str x1),(2,.ptr 2 0),(7,.ptr 7 0),(8,.arr 1 ((l7).length-3) (fun i j=>(bY eS [] l7) (i+3) j)),(1000001,pT),(1000002,bT),(1000003,bT)],(f68z4 l8 r9 r10 l7),[],0⟩ (an1 ob14) ?_;rw[hC0]at h;exact lN (_,(l7.drop 3),(l8++[(r9.1,r10.1,(l7.getD 2 []))])) (aaI (acO (s':=⟨96,[(0,.str x1),(2,.ptr 2 0),(7,.ptr 7 0),(8,cQ (l7.drop 3)),(1000001,pT),(1000002,bT),(1000003,bT)],(f68z4 l8 r9 r10 l7),[],0⟩) rfl rfl ⟨.refl _,.refl _,.refl _,VLe.dropL,.refl _,.refl _,.refl _,trivial⟩ ⟨⟨_,rfl,.refl _⟩,⟨_,rfl,.refl _⟩,⟨_,rfl,.refl _⟩,trivial⟩) LR) h (aaM _)
     ·replace h:=aF hc4 h;refine abJ (tE (tE (kS (kN ?_))));exact jN (1,(0:Int),l8) LR h
  ·rintro⟨n4,i5,l6⟩ h;replace h:=(congrFun hK1 _).symm.trans h;refine aaE (aaE ?_);obtain⟨r11,hr11,h⟩:=bind_ok h;obtain⟨r12,hr12,h⟩:=bI h;have ob18:true=true->(r11 !=(0:Int))=false->(aBp r11)=true:=fun _ h=>beq_iff_eq.2 h;refine aZ [] [(1,⟨[.agg (aBq n4 i5 l6)],[],[],[],.i r11,[],[6202],[]⟩),(5,⟨[.agg (aBq n4 i5 l6)],[],[],[],.str r12,[],[6202],[1]⟩)] [2,7,93,1000001,1000002,1000003] [2,7,6202] (an4 (cpL (c:=true) [(6202,cM l6)] [6202] [.agg (f68z9 n4 i5)] (fun _=>(f98_ok _ _ _ _ hr11)) (fun _=>⟨.refl _,trivial⟩) (.inr ⟨rfl,trivial⟩)) (aaK (cpL [(6202,cM l6)] [6202] [.agg (f68z9 n4 i5)] (fun hc=>(f99_ok _ _ _ _ (hr12 hc))) (fun _=>⟨.refl _,trivial⟩) (.inr ⟨rfl,trivial⟩)) (an1 (idA ((aBp r11)=true)))) (an2 (idA ((aBp r11)=true)) (idA ((aBp r11)=true))) ob18) ?_;refine tN (cK ((r11 !=(0:Int))||(!(r12==x1))) (fun hc5=> ?_) fun hc5=> ?_)
   ·replace h:=aE hc5 h;refine bC [] [] ⟨96,[(2,.ptr 2 0),(3,.i (2:Int)),(1000001,pT),(1000002,bT),(1000003,bT)],[(2,.cells 100 (nI))],[],0⟩ (an1 trivial) ?_;obtain rfl:=aaD h;refine aaS (acO (s':=⟨96,[(2,.ptr 2 0),(3,.i (2:Int))],[(2,.cells 100 [.i (0:Int),.i (0:Int),bH []])],[],0⟩) rfl rfl ⟨.refl _,.refl _,trivial⟩ ⟨⟨_,rfl,(.cellsL ⟨.refl _,.refl _,.nilL,trivial⟩)⟩,trivial⟩) ?_;refine aaH (tR ?_);exact bD
   ·replace h:=aF hc5 h;refine aaG (tN (bC [] [] ⟨96,(f68z6),[(2,.cells 100 (f68z9 n4 i5)),(6202,cM l6)],[],0⟩ (an1 trivial) ?_));refine aaS (aaI (adI 6202 rfl rfl) (LR (s':=⟨96,(f68z6),[(2,.cells 100 (aBq n4 i5 l6))],[],0⟩))) ?_;obtain rfl:=aaD h;refine aaS (LR (s':=⟨96,[(2,.ptr 2 0),(3,.i (0:Int))],[(2,.cells 100 (aBq n4 i5 l6))],[],0⟩)) ?_;refine aaH ?_;exact bD
def jY (x1:List Tq0) (x2 x3:Int) (x4:aaA) (K1:Unit->Option Int):Nat->Nat->Option Int
 |0,_=>none
 |k+1,n5=>
  if(decide ((n5:Int)<(((x1).length:Nat):Int)))then(
  chk ((n5:Int)<(((x1).length:Nat):Int))<|
  if((x2==(x1.getD n5 (default:Tq0)).1)&&((x3==(x1.getD n5 (default:Tq0)).2.1)&&((x4==((x1.getD n5 (default:Tq0)).2.2))&&true)))then(
  some (n5:Int)
  )else(
  chk (((n5:Int)+(1:Int))<=9223372036854775807)<|
  (jY x1 x2 x3 x4 K1 k) (n5+1)
  )
  )else(
  K1 ()
  )
abbrev aBJ (x2 x3:Int) (x4:aaA):aJ:=[(3,.cells 88 [.i x2,.i x3,.str x4])]
abbrev tU (x1:List Tq0) (n5:Nat):=(x1.getD n5 (default:Tq0))
def f122 (x1:List Tq0) (x2 x3:Int) (x4:aaA):Option Int:=
 jn (fun(_:Unit)=>
 some (-1:Int)
 ) fun(K1:Unit->Option Int)=>
 jY x1 x2 x3 x4 K1 aY 0
theorem f122_ok (x1:List Tq0) (x2 x3:Int) (x4:aaA) (r:Int) (h:f122 x1 x2 x3 x4=some r):aG Tryz.prog 122 [] [] [] [vL 3 cC (default:Tq0) x1,.agg [.i x2,.i x3,.str x4]] (.i r) []:=by
 unfold f122 at h;refine aG.body 0 _ _ Tryz.func122 rfl Tryz.ntmps122 rfl rfl ?_;refine aN [] [] [0,3] [3] trivial ?_;obtain⟨K1,hK1,h⟩:=aI h;refine aaR (fun(x:Unit)=>match x with|()=>⟨19,[],[],[],0⟩) (fun x=>K1 x=some r) ?_ ?_
 ·refine bC [] [] ⟨19,[(0,bH x1),(3,.ptr 3 0),(7,.i (lZ x1)),(8,.i (0:Int))],(aBJ x2 x3 x4),[],0⟩ trivial ?_;refine aaJ (abG (α:=Nat×Nat) (fun x=>match x with|(_,n5)=>⟨19,[(0,bH x1),(3,.ptr 3 0),(7,.i (lZ x1)),(8,.i (n5:Int))],(aBJ x2 x3 x4),[],0⟩) (fun x=>jY x1 x2 x3 x4 K1 x.1 x.2=some r) (fun x=>x.1) (aY,0) LR h ?_)
  rintro⟨k0,n5⟩ h
  cases k0 with
  |zero=>exact nEx h
  |succ k0=>
  obtain⟨C0,hC0⟩:∃C,C=jY x1 x2 x3 x4 K1 k0:=⟨_,rfl⟩;replace h:=(jY.eq_2 ..).symm.trans h
  try rw[<-hC0]at h
  refine aN [] [] [0,3,7,8,9] [3] trivial ?_;refine aaE (cK (decide ((n5:Int)<(lZ x1))) (fun hc1=> ?_) fun hc1=> ?_)
  ·replace h:=aE hc1 h;refine aaG (tN (aaE (aaJ (aN [] [] [0,3,5,7,8] [3] trivial ?_))));refine aaE ?_;obtain⟨ob0p,h⟩:=aB h;refine bB [] [] ⟨19,[(0,bH x1),(3,.ptr 3 0),(5,.i (n5:Int)),(7,.i (lZ x1)),(8,.i (n5:Int)),(16,.bool ((x2==(tU x1 n5).1)&&((x3==(tU x1 n5).2.1)&&((x4==((tU x1 n5).2.2))&&true))))],(aBJ x2 x3 x4),[],0⟩ (an1 (iN ob0p)) ?_;refine tN (cK ((x2==(tU x1 n5).1)&&((x3==(tU x1 n5).2.1)&&((x4==((tU x1 n5).2.2))&&true))) (fun hc2=> ?_) fun hc2=> ?_)
   ·replace h:=aE hc2 h;refine aN [] [] [4] [] trivial ?_;obtain rfl:=aaD h;refine aaH (kR (tR (tR (kR (aR ?_)))));exact bK
   ·replace h:=aF hc2 h;refine aaG (kN (tN ?_));obtain⟨ob1p,h⟩:=aB h;refine bB [] [] ⟨19,[(0,bH x1),(3,.ptr 3 0),(7,.i (lZ x1)),(8,.i (((n5+1):Nat):Int))],(aBJ x2 x3 x4),[],0⟩ (an1 (iP ob1p)) ?_;rw[hC0]at h;exact lN (_,(n5+1)) LR h (aaM _)
  ·replace h:=aF hc1 h;refine abJ (tE (tE (kS ?_)));exact jN () LR h
 ·rintro⟨⟩ h;replace h:=(congrFun hK1 _).symm.trans h;refine aN [] [] [4] [] trivial ?_;obtain rfl:=aaD h;refine aaH ?_;exact bK
def f89 (x1:List Tq0) (x2 x3:Int) (x4:aaA):Option Bool:=
 (f122 x1 x2 x3 x4).bind fun r5=>
 some (decide (r5>=(0:Int)))
theorem f89_ok (x1:List Tq0) (x2 x3:Int) (x4:aaA) (r:Bool) (h:f89 x1 x2 x3 x4=some r):aG Tryz.prog 89 [] [] [] [vL 3 cC (default:Tq0) x1,.agg [.i x2,.i x3,.str x4]] (.bool r) []:=by
 unfold f89 at h;refine aG.body 0 _ _ Tryz.func89 rfl Tryz.ntmps89 rfl rfl ?_;refine aN [] [] [0,3] [3] trivial ?_;refine aaE ?_;obtain⟨r5,hr5,h⟩:=bind_ok h;refine bB [] [(2,⟨[bH x1,.agg [.i x2,.i x3,.str x4]],[],[],[],.i r5,[],[],[]⟩)] ⟨9,[(4,.bool (decide (r5>=(0:Int))))],[],[],0⟩ (an1 (cpT (f122_ok _ _ _ _ _ hr5))) ?_;refine tN ?_;obtain rfl:=aaD h;refine aaH ?_;exact bK
def f124  :Option (Ty7×Ty5):=
 some ([],[])
theorem f124_ok (r:Ty7×Ty5) (h:f124=some r):aG Tryz.prog 124 [] [] [] [] (.agg [vL 3 cN (default:Tq1) r.1,vL 3 cC (default:Tq0) r.2]) []:=by
 unfold f124 at h;refine aG.bodyD [0] 0 _ _ Tryz.func124 rfl Tryz.ntmps124 rfl rfl ?_;refine aN [] [] [0] [0] trivial ?_;refine bC [] [] ⟨2,[(0,.ptr 0 0)],[(0,.cells 92 [.nils,.nils])],[],0⟩ (an1 trivial) ?_;obtain rfl:=aaD h;refine aaS (acO (s':=⟨2,[(0,.ptr 0 0)],[(0,.cells 92 [bA [],bH []])],[],0⟩) rfl rfl ⟨.refl _,trivial⟩ ⟨⟨_,rfl,(.cellsL ⟨.nilL,.nilL,trivial⟩)⟩,trivial⟩) ?_;refine aaH ?_;exact bD
abbrev f150z0 (x1:Int):=((decide (x1>=(0:Int)))&&(decide (x1<(6:Int))))
abbrev f150z1 (x1 x2:Int):=((f150z0 x1)&&(decide (x2>=(1:Int))))
def f150 (x1 x2:Int):Option Bool:=
 some ((((decide (x1>=(0:Int)))&&(decide (x1<(6:Int))))&&(decide (x2>=(1:Int))))&&(decide (x2<=(1000000:Int))))
theorem f150_ok (x1 x2:Int) (r:Bool) (h:f150 x1 x2=some r):aG Tryz.prog 150 [] [] [] [.i x1,.i x2] (.bool r) []:=by
 unfold f150 at h;refine aG.body 0 _ _ Tryz.func150 rfl Tryz.ntmps150 rfl rfl ?_;refine aN [] [] [0,1] [] trivial ?_;refine aaE (bB [] [] ⟨19,[(4,.bool ((f150z1 x1 x2)&&(decide (x2<=(1000000:Int)))))],[],[],0⟩ (an6 (an1 (idA (((decide (x1>=(0:Int)))==true)=true))) (bqA (decide (x1>=(0:Int))) true) (an1 (idA (((f150z0 x1)==true)=true))) (bqA (f150z0 x1) true) (an1 (idA (((f150z1 x1 x2)==true)=true))) (bqA (f150z1 x1 x2) true)) ?_);refine tN ?_;obtain rfl:=aaD h;refine aaH ?_;exact bK
def f180 (x1 x2:Int) (x3:aaA) (x4:Int):Option Int:=
 some (IntKind.wrap .i64 (x1-x4))
theorem f180_ok (x1 x2:Int) (x3:aaA) (x4 r:Int) (h:f180 x1 x2 x3 x4=some r):aG Tryz.prog 180 [] [] [] [.agg [.i x1,.i x2,.str x3],.i x4] (.i r) []:=by
 unfold f180 at h;refine aG.body 0 _ _ Tryz.func180 rfl Tryz.ntmps180 rfl rfl ?_;refine aN [8] [] [1,2] [2] trivial ?_;refine bC [8] [] ⟨9,[(4,.i (IntKind.wrap .i64 (x1-x4)))],[],[],0⟩ (an1 trivial) ?_;obtain rfl:=aaD h;refine aaH ?_;exact bK
def iD (x1:List Tq0) (x2:Int) (K1:Int->Option Tq4):Nat->Tq2->Option Tq4
 |0,_=>none
 |k+1,(i3,i4)=>
  if(decide (i3<i4))then(
  chk (-9223372036854775808<=(i3+i4)/\(i3+i4)<=9223372036854775807)<|
  chk (0<=(i3+i4)/\(i3+i4)<=18446744073709551615)<|
  chk (1<=IntKind.bits .u64)<|
  chk (-9223372036854775808<=((i3+i4)/2^1)/\((i3+i4)/2^1)<=9223372036854775807)<|
  (f180 ((x1.getD ((((i3+i4)/2^1)).toNat) (default:Tq0)).1) ((x1.getD ((((i3+i4)/2^1)).toNat) (default:Tq0)).2.1) ((x1.getD ((((i3+i4)/2^1)).toNat) (default:Tq0)).2.2) x2).bind fun r5=>
  chk (0<=((i3+i4)/2^1)/\((i3+i4)/2^1)<(((x1).length:Nat):Int))<|
  if(decide (r5<(0:Int)))then(
  chk (-9223372036854775808<=(((i3+i4)/2^1)+(1:Int))/\(((i3+i4)/2^1)+(1:Int))<=9223372036854775807)<|
  (iD x1 x2 K1 k) ((((i3+i4)/2^1)+(1:Int)),i4)
  )else(
  (iD x1 x2 K1 k) (i3,((i3+i4)/2^1))
  )
  )else(
  K1 i3
  )
def f179 (x1:List Tq0) (x2:Int):Option Tq4:=
 jn (fun(i6:Int)=>
 eO ((decide (i6<(((x1).length:Nat):Int)))==true) (f180 ((x1.getD ((i6).toNat) (default:Tq0)).1) ((x1.getD ((i6).toNat) (default:Tq0)).2.1) ((x1.getD ((i6).toNat) (default:Tq0)).2.2) x2) fun r7=>
 chk (((decide (i6<(((x1).length:Nat):Int)))==true)=true->0<=i6/\i6<(((x1).length:Nat):Int))<|
 some (i6,((decide (i6<(((x1).length:Nat):Int)))&&(r7==(0:Int))))
 ) fun(K1:Int->Option Tq4)=>
 iD x1 x2 K1 aY ((0:Int),(((x1).length:Nat):Int))
theorem f179_ok (x1:List Tq0) (x2:Int) (r:Tq4) (h:f179 x1 x2=some r):aG Tryz.prog 179 [] [] [] [vL 3 cC (default:Tq0) x1,.i x2,.fn (.func 180) []] (.tup [.i r.1,.bool r.2]) []:=by
 unfold f179 at h;refine aG.body 0 _ _ Tryz.func179 rfl Tryz.ntmps179 rfl rfl ?_;refine aN [] [] [0,1,2] [] trivial ?_;refine aN [] [] [0,1,2,8] [] trivial ?_;refine bC [] [] ⟨49,[(0,bH x1),(1,.i x2),(2,.fn (.func 180) []),(8,.i (lZ x1)),(9,.i (0:Int)),(10,.i (lZ x1))],[],[],0⟩ trivial ?_;obtain⟨K1,hK1,h⟩:=aI h;refine aaR (α:=Int) (fun(i6:Int)=>⟨49,[(0,bH x1),(1,.i x2),(2,.fn (.func 180) []),(8,.i (lZ x1)),(9,.i i6)],[],[],0⟩) (fun x=>K1 x=some r) ?_ ?_
 ·refine aaJ (abG (α:=Nat×Tq2) (fun x=>match x with|(_,i3,i4)=>⟨49,[(0,bH x1),(1,.i x2),(2,.fn (.func 180) []),(8,.i (lZ x1)),(9,.i i3),(10,.i i4)],[],[],0⟩) (fun x=>iD x1 x2 K1 x.1 x.2=some r) (fun x=>x.1) (aY,(0:Int),(lZ x1)) LR h ?_)
  rintro⟨k0,i3,i4⟩ h
  cases k0 with
  |zero=>exact nEx h
  |succ k0=>
  obtain⟨C0,hC0⟩:∃C,C=iD x1 x2 K1 k0:=⟨_,rfl⟩;replace h:=(iD.eq_2 ..).symm.trans h
  try rw[<-hC0]at h
  refine aaE (aN [] [] [0,1,2,8,9,10,17] [] trivial ?_);refine cK (decide (i3<i4)) (fun hc1=> ?_) fun hc1=> ?_
  ·replace h:=aE hc1 h;refine aaG (tN (aaJ (aaE ?_)));obtain⟨ob0,ob1,ob2p,h⟩:=ck3 h;have ob2:0<=(1:Int)/\1<=IntKind.bits .u64:=⟨by omega,ob2p⟩;obtain⟨ob3,h⟩:=aB h;refine aZ [] [] [0,1,2,8,9,10,11] [] (an4 ob0 ob1 ob2 ob3) ?_;refine tN (aaE ?_);obtain⟨r5,hr5,h⟩:=bind_ok h;obtain⟨ob4,h⟩:=aB h;refine aZ [] [(6,⟨[.agg [.i (x1.getD ((((i3+i4)/2^1)).toNat) bE).1,.i (x1.getD ((((i3+i4)/2^1)).toNat) bE).2.1,.str (x1.getD ((((i3+i4)/2^1)).toNat) bE).2.2],.i x2],[],[],[],.i r5,[],[],[]⟩)] [0,1,2,8,9,10,11,31] [] (an2 ob4 (cpT (f180_ok _ _ _ _ _ hr5))) ?_;refine tN (cK (decide (r5<(0:Int))) (fun hc2=> ?_) fun hc2=> ?_)
   ·replace h:=aE hc2 h;obtain⟨ob5,h⟩:=aB h;refine bB [] [] ⟨49,[(0,bH x1),(1,.i x2),(2,.fn (.func 180) []),(8,.i (lZ x1)),(9,.i (((i3+i4)/2^1)+(1:Int))),(10,.i i4)],[],[],0⟩ (an1 ob5) ?_;refine kN ?_;rw[hC0]at h;exact lN (_,(((i3+i4)/2^1)+(1:Int)),i4) LR h (aaM _)
   ·replace h:=aF hc2 h;refine aZ [] [] [0,1,2,8,9,10] [] trivial ?_;refine kN ?_;rw[hC0]at h;exact lN (_,i3,((i3+i4)/2^1)) LR h (aaM _)
  ·replace h:=aF hc1 h;refine abJ (tE (tE (kS ?_)));exact jN (i3) LR h
 ·rintro i6 h;replace h:=(congrFun hK1 _).symm.trans h;refine aaE ?_;obtain⟨r7,hr7,h⟩:=bI h;obtain⟨ob6,h⟩:=aB h;refine aZ [] [(11,⟨[.agg [.i (x1.getD ((i6).toNat) bE).1,.i (x1.getD ((i6).toNat) bE).2.1,.str (x1.getD ((i6).toNat) bE).2.2],.i x2],[],[],[],.i r7,[],[],[]⟩)] [6,7] [] (an5 (aaK ob6 (an2 (idA (((decide (i6<(lZ x1)))==true)=true)) (idA (((decide (i6<(lZ x1)))==true)=true)))) (an1 (idA (((decide (i6<(lZ x1)))==true)=true))) (aaK (cpC fun hc=>(f180_ok _ _ _ _ _ (hr7 hc))) (an3 (idA (((decide (i6<(lZ x1)))==true)=true)) (idA (((decide (i6<(lZ x1)))==true)=true)) (idA (((decide (i6<(lZ x1)))==true)=true)))) (an1 (idA (((decide (i6<(lZ x1)))==true)=true))) (bqA (decide (i6<(lZ x1))) true)) ?_;refine tN ?_;obtain rfl:=aaD h;refine aaH ?_;exact bK
def f151 (x1:List Tq0) (x2:Int):Option Tq4:=
 (f179 x1 x2).bind fun r3=>
 some (r3.1,r3.2)
theorem f151_ok (x1:List Tq0) (x2:Int) (r:Tq4) (h:f151 x1 x2=some r):aG Tryz.prog 151 [] [] [] [vL 3 cC (default:Tq0) x1,.i x2] (.tup [.i r.1,.bool r.2]) []:=by
 unfold f151 at h;refine aG.body 0 _ _ Tryz.func151 rfl Tryz.ntmps151 rfl rfl ?_;refine aN [] [] [0,1] [] trivial ?_;refine aaE ?_;obtain⟨r3,hr3,h⟩:=bind_ok h;refine bB [] [(2,⟨[bH x1,.i x2,.fn (.func 180) []],[],[],[],.tup [.i r3.1,.bool r3.2],[],[],[]⟩)] ⟨11,[(4,.i r3.1),(5,.bool r3.2)],[],[],0⟩ (an1 (cpT (f179_ok _ _ _ hr3))) ?_;refine tN ?_;obtain rfl:=aaD h;refine aaH ?_;exact bK
def f181 (x1 x2:aaA):Option (List Ty0):=aA2 x1 x2
theorem f181_ok (x1 x2:aaA) (r:List Ty0) (h:f181 x1 x2=some r):aG Tryz.prog 181 [] [] [] [.str x1,.str x2] (.own 3000) [(3000,bL 9 1 eS [] r)]:=
 aB7 9 (fun s c w hs=>split_one Tryz.lays146 (by kernel_rfl) s c w hs) x1 x2 r h
abbrev fV :=([112,117,116]:aaA)
abbrev gY :=([103,101,116]:aaA)
abbrev rK :=([99,97,115]:aaA)
def f182  :Option Unit:=
 some ()
theorem f182_ok (r:Unit) (h:f182=some r):aG Tryz.prog 182 [] [] [] [] (vM (V.int .i64) 0 iW (default:Tq8) bV bQ) []:=by
 unfold f182 at h;refine aG.body 0 _ _ Tryz.func182 rfl Tryz.ntmps182 rfl rfl ?_;refine aN [] [] [] [] trivial ?_;refine bC [] [(0,⟨[],[],[],[(1,bM (V.int .i64) 0 iW aW [] [])],.own 1,[1],[],[]⟩),(2,⟨[.own 1,.i (1:Int),.agg [.str (fV),.bool true,.bool false,.bool true]],[1],[1],[(1,bM (V.int .i64) 0 iW aW ([]++[(1:Int)]) ([]++[((fV),true,false,true)]))],.any,[],[],[]⟩),(4,⟨[.own 1,.i (2:Int),.agg [.str (gY),.bool true,.bool false,.bool false]],[1],[1],[(1,bM (V.int .i64) 0 iW aW (([]++[(1:Int)])++[(2:Int)]) (([]++[((fV),true,false,true)])++[((gY),true,false,false)]))],.any,[],[],[]⟩),(6,⟨[.own 1,.i (3:Int),.agg [.str cs6,.bool true,.bool false,.bool false]],[1],[1],[(1,bM (V.int .i64) 0 iW aW ((([]++[(1:Int)])++[(2:Int)])++[(3:Int)]) ((([]++[((fV),true,false,true)])++[((gY),true,false,false)])++[(cs6,true,false,false)]))],.any,[],[],[]⟩),(8,⟨[.own 1,.i (4:Int),.agg [.str cs7,.bool true,.bool false,.bool true]],[1],[1],[(1,bM (V.int .i64) 0 iW aW (((([]++[(1:Int)])++[(2:Int)])++[(3:Int)])++[(4:Int)]) (((([]++[((fV),true,false,true)])++[((gY),true,false,false)])++[(cs6,true,false,false)])++[(cs7,true,false,true)]))],.any,[],[],[]⟩),(10,⟨[.own 1,.i (5:Int),.agg [.str (rK),.bool true,.bool true,.bool true]],[1],[1],[(1,bM (V.int .i64) 0 iW aW ((((([]++[(1:Int)])++[(2:Int)])++[(3:Int)])++[(4:Int)])++[(5:Int)]) ((((([]++[((fV),true,false,true)])++[((gY),true,false,false)])++[(cs6,true,false,false)])++[(cs7,true,false,true)])++[((rK),true,true,true)]))],.any,[],[],[]⟩),(12,⟨[.own 1,.i (6:Int),.agg [.str cs8,.bool false,.bool false,.bool false]],[1],[1],[(1,bM (V.int .i64) 0 iW aW (((((([]++[(1:Int)])++[(2:Int)])++[(3:Int)])++[(4:Int)])++[(5:Int)])++[(6:Int)]) (((((([]++[((fV),true,false,true)])++[((gY),true,false,false)])++[(cs6,true,false,false)])++[(cs7,true,false,true)])++[((rK),true,true,true)])++[(cs8,false,false,false)]))],.any,[],[],[]⟩)] ⟨9,[(0,.own 1)],[(1,bM (V.int .i64) 0 iW aW (((((([]++[(1:Int)])++[(2:Int)])++[(3:Int)])++[(4:Int)])++[(5:Int)])++[(6:Int)]) (((((([]++[((fV),true,false,true)])++[((gY),true,false,false)])++[(cs6,true,false,false)])++[(cs7,true,false,true)])++[((rK),true,true,true)])++[(cs8,false,false,false)]))],[],0⟩ (ac6 (aaK (uO (P:=Tryz.prog) (V.int .i64) 0 iW aW 261 1 261) (eU.same [])) (aaK (eE Tryz.underlying261 Tryz.underlying3 (.insert 261 (.tmp 1) (.const (.int .i64 1)) (.tmp 2)) (.tmp 1) (.const (.int .i64 1)) (.tmp 2) (.inl rfl) (V.int .i64) 0 iW aW (dW .i64) (fun _=>rfl) (fun _=>rfl) (fun _=>rfl) 0 1 [] [] (1:Int) ((fV),true,false,true) rfl rfl) (eU.same [.own 1,.i (1:Int),.agg [.str (fV),.bool true,.bool false,.bool true]])) (aaK (eE Tryz.underlying261 Tryz.underlying3 (.insert 261 (.tmp 1) (.const (.int .i64 2)) (.tmp 3)) (.tmp 1) (.const (.int .i64 2)) (.tmp 3) (.inl rfl) (V.int .i64) 0 iW aW (dW .i64) (fun _=>rfl) (fun _=>rfl) (fun _=>rfl) 0 1 ([]++[(1:Int)]) ([]++[((fV),true,false,true)]) (2:Int) ((gY),true,false,false) rfl rfl) (eU.same [.own 1,.i (2:Int),.agg [.str (gY),.bool true,.bool false,.bool false]])) (aaK (eE Tryz.underlying261 Tryz.underlying3 (.insert 261 (.tmp 1) (.const (.int .i64 3)) (.tmp 4)) (.tmp 1) (.const (.int .i64 3)) (.tmp 4) (.inl rfl) (V.int .i64) 0 iW aW (dW .i64) (fun _=>rfl) (fun _=>rfl) (fun _=>rfl) 0 1 (([]++[(1:Int)])++[(2:Int)]) (([]++[((fV),true,false,true)])++[((gY),true,false,false)]) (3:Int) (cs6,true,false,false) rfl rfl) (eU.same [.own 1,.i (3:Int),.agg [.str cs6,.bool true,.bool false,.bool false]])) (aaK (eE Tryz.underlying261 Tryz.underlying3 (.insert 261 (.tmp 1) (.const (.int .i64 4)) (.tmp 5)) (.tmp 1) (.const (.int .i64 4)) (.tmp 5) (.inl rfl) (V.int .i64) 0 iW aW (dW .i64) (fun _=>rfl) (fun _=>rfl) (fun _=>rfl) 0 1 ((([]++[(1:Int)])++[(2:Int)])++[(3:Int)]) ((([]++[((fV),true,false,true)])++[((gY),true,false,false)])++[(cs6,true,false,false)]) (4:Int) (cs7,true,false,true) rfl rfl) (eU.same [.own 1,.i (4:Int),.agg [.str cs7,.bool true,.bool false,.bool true]])) (aaK (eE Tryz.underlying261 Tryz.underlying3 (.insert 261 (.tmp 1) (.const (.int .i64 5)) (.tmp 6)) (.tmp 1) (.const (.int .i64 5)) (.tmp 6) (.inl rfl) (V.int .i64) 0 iW aW (dW .i64) (fun _=>rfl) (fun _=>rfl) (fun _=>rfl) 0 1 (((([]++[(1:Int)])++[(2:Int)])++[(3:Int)])++[(4:Int)]) (((([]++[((fV),true,false,true)])++[((gY),true,false,false)])++[(cs6,true,false,false)])++[(cs7,true,false,true)]) (5:Int) ((rK),true,true,true) rfl rfl) (eU.same [.own 1,.i (5:Int),.agg [.str (rK),.bool true,.bool true,.bool true]])) (an1 (aaK (eE Tryz.underlying261 Tryz.underlying3 (.insert 261 (.tmp 1) (.const (.int .i64 6)) (.tmp 7)) (.tmp 1) (.const (.int .i64 6)) (.tmp 7) (.inl rfl) (V.int .i64) 0 iW aW (dW .i64) (fun _=>rfl) (fun _=>rfl) (fun _=>rfl) 0 1 ((((([]++[(1:Int)])++[(2:Int)])++[(3:Int)])++[(4:Int)])++[(5:Int)]) ((((([]++[((fV),true,false,true)])++[((gY),true,false,false)])++[(cs6,true,false,false)])++[(cs7,true,false,true)])++[((rK),true,true,true)]) (6:Int) (cs8,false,false,false) rfl rfl) (eU.same [.own 1,.i (6:Int),.agg [.str cs8,.bool false,.bool false,.bool false]])))) ?_;refine aaS (aaI (Le.freezeM 1 rfl rfl) (LR (s':=⟨9,[(0,vM (V.int .i64) 0 iW aW bV bQ)],[],[],0⟩))) ?_;obtain rfl:=aaD h;refine aaS (LR (s':=⟨9,[(0,vM (V.int .i64) 0 iW aW bV bQ)],[],[],0⟩)) ?_;refine aaH ?_;exact bK
def f183 (x1:Bool) (x2:List Ty0):Option (aaA×List Ty0):=
 if((!x1)||((((x2).length:Nat):Int)==(0:Int)))then(
 some ([],x2)
 )else(
 chk ((0:Int)<(((x2).length:Nat):Int))<|
 chk ((1:Int)<=(((x2).length:Nat):Int))<|
 some ((x2.getD 0 []),(x2.drop 1))
 )
theorem aAD (x1:Bool) (x2:List Ty0) (r:aaA×List Ty0) (h:f183 x1 x2=some r):aG Tryz.prog 183 [] [2000] [(2000,.cells 29 [vL 1 eS [] x2])] [.bool x1,.ptr 2000 0] (.str r.1) [(2000,.cells 29 [vL 1 eS [] r.2])]:=by
 unfold f183 at h;refine aG.body 0 _ _ Tryz.func183 rfl Tryz.ntmps183 rfl rfl ?_;refine aN [] [] [0,1] [2000] trivial ?_;refine aaE (aaE (aZ [] [] [1,11] [2000] (an3 (an1 (idA (((!x1)==false)=true))) (an1 (idA (((!x1)==false)=true))) (bqA (!x1) false)) ?_));refine tN (cK ((!x1)||((lZ x2)==(0:Int))) (fun hc1=> ?_) fun hc1=> ?_)
 ·replace h:=aE hc1 h;refine bC [] [] ⟨18,[(3,.str [])],[(2000,.cells 29 [cQ x2])],[2000],0⟩ trivial ?_;obtain rfl:=aaD h;refine aaH (tR ?_);exact bK
 ·replace h:=aF hc1 h;refine aaG (tN (aaE ?_));obtain⟨ob3p,h⟩:=aB h;have ob3:0<=(0:Int)/\(0:Int)<(((x2).length:Nat):Int):=⟨by omega,ob3p⟩;refine aZ [] [] [1,4] [2000] (an1 ob3) ?_;refine tN (aaE ?_);obtain⟨ob4p,h⟩:=aB h;have ob4:0<=(1:Int)/\(1:Int)<=(((x2).length:Nat):Int):=⟨by omega,ob4p⟩;refine bB [] [] ⟨18,[(4,.str (x2.getD 0 []))],[(2000,.cells 29 [.arr 1 ((x2).length-1) (fun i j=>(bY eS [] x2) (i+1) j)])],[2000],0⟩ (an2 ob4 trivial) ?_;refine tN (aaS (acO (s':=⟨18,[(4,.str (x2.getD 0 []))],[(2000,.cells 29 [cQ (x2.drop 1)])],[2000],0⟩) rfl rfl ⟨.refl _,trivial⟩ ⟨⟨_,rfl,(.cellsL ⟨VLe.dropL,trivial⟩)⟩,trivial⟩) ?_);refine aN [] [] [3] [2000] trivial ?_;obtain rfl:=aaD h;refine aaH ?_;exact bK
def fU (x1:aaA) (K1:Unit->Option Bool):Nat->Nat->Option Bool
 |0,_=>none
 |k+1,n3=>
  if(decide ((n3:Int)<((x1.length:Nat):Int)))then(
  chk ((n3:Int)<((x1.length:Nat):Int))<|
  chk (((decide ((((x1.getD n3 0).toNat:Nat):Int)<(33:Int)))==false)=true->0<=(n3:Int)/\(n3:Int)<((x1.length:Nat):Int))<|
  if((decide ((((x1.getD n3 0).toNat:Nat):Int)<(33:Int)))||(decide ((((x1.getD n3 0).toNat:Nat):Int)>(126:Int))))then(
  some false
  )else(
  chk (((n3:Int)+(1:Int))<=9223372036854775807)<|
  (fU x1 K1 k) (n3+1)
  )
  )else(
  K1 ()
  )
theorem aCK (x1:aaA) (K1:Unit->Option Bool) (k n3:Nat):fU x1 K1 (k+1) n3=
  if(decide ((n3:Int)<((x1.length:Nat):Int)))then(
  chk ((n3:Int)<((x1.length:Nat):Int))<|
  chk (((decide ((((x1.getD n3 0).toNat:Nat):Int)<(33:Int)))==false)=true->0<=(n3:Int)/\(n3:Int)<((x1.length:Nat):Int))<|
  if((decide ((((x1.getD n3 0).toNat:Nat):Int)<(33:Int)))||(decide ((((x1.getD n3 0).toNat:Nat):Int)>(126:Int))))then(
  some false
  )else(
  chk (((n3:Int)+(1:Int))<=9223372036854775807)<|
  (fU x1 K1 k) (n3+1)
  )
  )else(
  K1 ()
  ):=rfl
def f219 (x1:aaA) (x2:Int):Option Bool:=
 jn (fun(_:Unit)=>
 some ((!(x1==[]))&&(decide (((x1.length:Nat):Int)<=x2)))
 ) fun(K1:Unit->Option Bool)=>
 fU x1 K1 aY 0
theorem f219_ok (x1:aaA) (x2:Int) (r:Bool) (h:f219 x1 x2=some r):aG Tryz.prog 219 [] [] [] [.str x1,.i x2] (.bool r) []:=by
 unfold f219 at h;refine aG.body 0 _ _ Tryz.func219 rfl Tryz.ntmps219 rfl rfl ?_;refine aN [] [] [0,1] [] trivial ?_;obtain⟨K1,hK1,h⟩:=aI h;refine aaR (fun(x:Unit)=>match x with|()=>⟨30,[(0,.str x1),(1,.i x2)],[],[],0⟩) (fun x=>K1 x=some r) ?_ ?_
 ·refine bC [] [] ⟨30,[(0,.str x1),(1,.i x2),(7,.i (lZ x1)),(8,.i (0:Int))],[],[],0⟩ trivial ?_;refine aaJ (abG (α:=Nat×Nat) (fun x=>match x with|(_,n3)=>⟨30,[(0,.str x1),(1,.i x2),(7,.i (lZ x1)),(8,.i (n3:Int))],[],[],0⟩) (fun x=>fU x1 K1 x.1 x.2=some r) (fun x=>x.1) (aY,0) LR h ?_)
  rintro⟨k0,n3⟩ h
  cases k0 with
  |zero=>exact nEx h
  |succ k0=>
  obtain⟨C0,hC0⟩:∃C,C=fU x1 K1 k0:=⟨_,rfl⟩;replace h:=(aCK ..).symm.trans h
  try rw[<-hC0]at h
  refine aN [] [] [0,1,7,8,9] [] trivial ?_;refine aaE (cK (decide ((n3:Int)<(lZ x1))) (fun hc1=> ?_) fun hc1=> ?_)
  ·replace h:=aE hc1 h;refine aaG (tN (aaE (aaJ (aN [] [] [0,1,5,7,8] [] trivial ?_))));refine aaE ?_;obtain⟨ob0p,h⟩:=aB h;obtain⟨ob1,h⟩:=aB h;refine bB [] [] ⟨30,[(0,.str x1),(1,.i x2),(7,.i (lZ x1)),(8,.i (n3:Int)),(20,.bool ((decide ((((x1.getD n3 0).toNat:Nat):Int)<(33:Int)))||(decide ((((x1.getD n3 0).toNat:Nat):Int)>(126:Int)))))],[],[],0⟩ (an4 (iN ob0p) (aaK ob1 (an2 (idA (((decide ((((x1.getD n3 0).toNat:Nat):Int)<(33:Int)))==false)=true)) (idA (((decide ((((x1.getD n3 0).toNat:Nat):Int)<(33:Int)))==false)=true)))) (an1 (idA (((decide ((((x1.getD n3 0).toNat:Nat):Int)<(33:Int)))==false)=true))) (bqA (decide ((((x1.getD n3 0).toNat:Nat):Int)<(33:Int))) false)) ?_;refine tN (cK ((decide ((((x1.getD n3 0).toNat:Nat):Int)<(33:Int)))||(decide ((((x1.getD n3 0).toNat:Nat):Int)>(126:Int)))) (fun hc2=> ?_) fun hc2=> ?_)
   ·replace h:=aE hc2 h;refine aN [] [] [4] [] trivial ?_;obtain rfl:=aaD h;refine aaH (kR (tR (tR (kR (aR ?_)))));exact bK
   ·replace h:=aF hc2 h;refine aaG (kN (tN ?_));obtain⟨ob6p,h⟩:=aB h;refine bB [] [] ⟨30,[(0,.str x1),(1,.i x2),(7,.i (lZ x1)),(8,.i (((n3+1):Nat):Int))],[],[],0⟩ (an1 (iP ob6p)) ?_;rw[hC0]at h;exact lN (_,(n3+1)) LR h (aaM _)
  ·replace h:=aF hc1 h;refine abJ (tE (tE (kS ?_)));exact jN () LR h
 ·rintro⟨⟩ h;replace h:=(congrFun hK1 _).symm.trans h;refine aaE (aZ [] [] [4] [] (an3 (an1 (idA (((!(x1==[]))==true)=true))) (an2 (idA (((!(x1==[]))==true)=true)) (idA (((!(x1==[]))==true)=true))) (bqA (!(x1==[])) true)) ?_);refine tN ?_;obtain rfl:=aaD h;refine aaH ?_;exact bK
def f206 (x1:aaA) (x2:Bool):Option Bool:=
 if(!x2)then(
 some (x1==[])
 )else(
 (f219 x1 (64:Int)).bind fun r3=>
 some r3
 )
theorem aAA (x1:aaA) (x2 r:Bool) (h:f206 x1 x2=some r):aG Tryz.prog 206 [] [] [] [.str x1,.bool x2] (.bool r) []:=by
 unfold f206 at h;refine aG.body 0 _ _ Tryz.func206 rfl Tryz.ntmps206 rfl rfl ?_;refine aN [] [] [0,1] [] trivial ?_;refine aaE (aN [] [] [0,6] [] trivial ?_);refine cK (!x2) (fun hc1=> ?_) fun hc1=> ?_
 ·replace h:=aE hc1 h;refine bC [] [] ⟨11,[(4,.bool (x1==[]))],[],[],0⟩ trivial ?_;obtain rfl:=aaD h;refine aaH (tR ?_);exact bK
 ·replace h:=aF hc1 h;refine aaG (tN (aaE ?_));obtain⟨r3,hr3,h⟩:=bind_ok h;refine aZ [] [(1,⟨[.str x1,.i (64:Int)],[],[],[],.bool r3,[],[],[]⟩)] [4] [] (an1 (cpT (f219_ok _ _ _ hr3))) ?_;refine tN ?_;obtain rfl:=aaD h;refine aaH ?_;exact bK
abbrev jQ (x1:Int) (r6:Bool):=((aAk bV x1)&&r6)
abbrev yN (x1:Int):=((aAk bV x1)==true)
def f185 (x1:Int) (x2 x3 x4:aaA):Option (aaA×Bool×Bool×Bool×Bool):=
 (f182).bind fun r5=>
 eO ((aAk bV x1)==true) (f206 x2 ((nG bV bQ (default:Tq8) ([],false,false,false) x1).2.1)) fun r6=>
 eO (((aAk bV x1)&&r6)==true) (f206 x3 ((nG bV bQ (default:Tq8) ([],false,false,false) x1).2.2.1)) fun r7=>
 eO ((((aAk bV x1)&&r6)&&r7)==true) (f206 x4 ((nG bV bQ (default:Tq8) ([],false,false,false) x1).2.2.2)) fun r8=>
 some ((nG bV bQ (default:Tq8) ([],false,false,false) x1).1,(nG bV bQ (default:Tq8) ([],false,false,false) x1).2.1,(nG bV bQ (default:Tq8) ([],false,false,false) x1).2.2.1,(nG bV bQ (default:Tq8) ([],false,false,false) x1).2.2.2,((((aAk bV x1)&&r6)&&r7)&&r8))
theorem f185_ok (x1:Int) (x2 x3 x4:aaA) (r:aaA×Bool×Bool×Bool×Bool) (h:f185 x1 x2 x3 x4=some r):aG Tryz.prog 185 [] [] [] [.agg [.i x1,.str x2,.str x3,.str x4]] (.tup [.agg [.str r.1,.bool r.2.1,.bool r.2.2.1,.bool r.2.2.2.1],.bool r.2.2.2.2]) []:=by
 unfold f185 at h;refine aG.bodyD [2] 0 _ _ Tryz.func185 rfl Tryz.ntmps185 rfl rfl ?_;refine aN [] [] [1,2] [1,2] trivial ?_;refine aaE ?_;obtain⟨r5,hr5,h⟩:=bind_ok h;refine aZ [] [(0,⟨[],[],[],[],vM (V.int .i64) 0 iW aW bV bQ,[],[],[]⟩),(3,⟨[vM (V.int .i64) 0 iW aW bV bQ,.i x1],[],[],[],.tup [.agg [.str (nG bV bQ aW ([],false,false,false) x1).1,.bool (nG bV bQ aW ([],false,false,false) x1).2.1,.bool (nG bV bQ aW ([],false,false,false) x1).2.2.1,.bool (nG bV bQ aW ([],false,false,false) x1).2.2.2],.bool (aAk bV x1)],[],[],[]⟩)] [1,2,4,5] [1,2,4] (an3 (cpT (f182_ok _ hr5)) (aaK (wY (P:=Tryz.prog) Tryz.underlying261 Tryz.underlying3 (V.int .i64) 0 iW aW ([],false,false,false) (dW .i64) (fun _=>rfl) (by kernel_rfl) (.tmp 7) (.tmp 9) 266 bV bQ x1) (eU.same [vM (V.int .i64) 0 iW aW bV bQ,.i x1])) trivial) ?_;refine tN (aaE ?_);obtain⟨r6,hr6,h⟩:=bI h;obtain⟨r7,hr7,h⟩:=bI h;obtain⟨r8,hr8,h⟩:=bI h;have ob4:true=true->(aAk bV x1)=true->(yN x1)=true:=fun _ h=>beq_iff_eq.2 h;refine bB [] [(7,⟨[.str x2,.bool (nG bV bQ aW ([],false,false,false) x1).2.1],[],[],[],.bool r6,[],[],[]⟩),(14,⟨[.str x3,.bool (nG bV bQ aW ([],false,false,false) x1).2.2.1],[],[],[],.bool r7,[],[],[]⟩),(21,⟨[.str x4,.bool (nG bV bQ aW ([],false,false,false) x1).2.2.2],[],[],[],.bool r8,[],[],[]⟩)] ⟨36,[(2,.ptr 2 0),(3,.bool (((jQ x1 r6)&&r7)&&r8))],[(2,.cells 264 [.str (nG bV bQ aW ([],false,false,false) x1).1,.bool (nG bV bQ aW ([],false,false,false) x1).2.1,.bool (nG bV bQ aW ([],false,false,false) x1).2.2.1,.bool (nG bV bQ aW ([],false,false,false) x1).2.2.2])],[],0⟩ (ac6 (an1 (idA ((yN x1)=true))) (an1 (idA ((yN x1)=true))) (aaK (cpC fun hc=>(aAA _ _ _ (hr6 hc))) (an2 (idA ((yN x1)=true)) (idA ((yN x1)=true)))) ob4 (an1 (idA (((jQ x1 r6)==true)=true))) (an1 (idA (((jQ x1 r6)==true)=true))) (ac6 (aaK (cpC fun hc=>(aAA _ _ _ (hr7 hc))) (an2 (idA (((jQ x1 r6)==true)=true)) (idA (((jQ x1 r6)==true)=true)))) (bqA (jQ x1 r6) true) (an1 (idA ((((jQ x1 r6)&&r7)==true)=true))) (an1 (idA ((((jQ x1 r6)&&r7)==true)=true))) (aaK (cpC fun hc=>(aAA _ _ _ (hr8 hc))) (an2 (idA ((((jQ x1 r6)&&r7)==true)=true)) (idA ((((jQ x1 r6)&&r7)==true)=true)))) (bqA ((jQ x1 r6)&&r7) true) (an1 trivial))) ?_;refine tN ?_;obtain rfl:=aaD h;refine aaH ?_;exact bD
def f205 (x1:List Ty0) (x2:aaA):Option Ty0:=joinP x1 x2
theorem f205_ok (x1:List Ty0) (x2 r:aaA) (h:f205 x1 x2=some r):aG Tryz.prog 205 [] [] [] [vL 1 eS [] x1,.str x2] (.str r) []:=
 join_spec (fun a c sep w=>Any.strings_Join_none Tryz.lays156 Tryz.Builder_Extra_156 a c sep w) (fun bk o c xs sep w h1 h2 h3 h4 h5=>Any.strings_Join Tryz.lays156 Tryz.Builder_Extra_156 bk o c xs sep w h1 h2 h3 h4 h5) x1 x2 r h
def lU (x2 x3 x4:aaA) (K1:(List Ty0)->Option (aaA×Int)):Nat->(Nat×List Ty0)->Option (aaA×Int)
 |0,_=>none
 |k+1,(n6,l7)=>
  if(decide ((n6:Int)<(3:Int)))then(
  jn (fun(l8:List Ty0)=>
  chk (((n6:Int)+(1:Int))<=9223372036854775807)<|
  (lU x2 x3 x4 K1 k) ((n6+1),l8)
  ) fun(K2:(List Ty0)->Option (aaA×Int))=>
  chk ((n6:Int)<((([x2,x3,x4]).length:Nat):Int))<|
  chk (n6<([x2,x3,x4]).length)<|
  if(!(([x2,x3,x4].getD n6 [])==[]))then(
  chk (((l7).length+1) *16<=140737488355328)<|
  K2 (l7++[([x2,x3,x4].getD n6 [])])
  )else(
  K2 l7
  )
  )else(
  K1 l7
  )
abbrev aBD (n6:Nat):List (Nat×V):=[(6,.own 18),(25,.own 25),(26,.i (3:Int)),(27,.i (n6:Int))]
abbrev f184z1 :List (Nat×V):=[(6,.own 18),(25,.own 25),(26,.i (3:Int)),(27,.i (0:Int))]
def f184 (x1:Int) (x2 x3 x4:aaA):Option (aaA×Int):=
 (f185 x1 x2 x3 x4).bind fun r5=>
 if(!r5.2.2.2.2)then(
 some ([],(1:Int))
 )else(
 jn (fun(l9:List Ty0)=>
 (f205 l9 ([32]:aaA)).bind fun r10=>
 some (r10,(0:Int))
 ) fun(K1:(List Ty0)->Option (aaA×Int))=>
 lU x2 x3 x4 K1 aY (0,[r5.1])
 )
theorem f184_ok (x1:Int) (x2 x3 x4:aaA) (r:aaA×Int) (h:f184 x1 x2 x3 x4=some r):aG Tryz.prog 184 [] [] [] [.agg [.i x1,.str x2,.str x3,.str x4]] (.tup [.str r.1,.i r.2]) []:=by
 unfold f184 at h;refine aG.body 0 _ _ Tryz.func184 rfl Tryz.ntmps184 rfl rfl ?_;refine aN [] [] [1] [1] trivial ?_;refine aaE ?_;obtain⟨r5,hr5,h⟩:=bind_ok h;refine aZ [] [(1,⟨[.agg [.i x1,.str x2,.str x3,.str x4]],[],[],[],.tup [.agg [.str r5.1,.bool r5.2.1,.bool r5.2.2.1,.bool r5.2.2.2.1],.bool r5.2.2.2.2],[],[],[]⟩)] [1,4,5] [1,4] (an2 (cpT (f185_ok _ _ _ _ _ hr5)) trivial) ?_;refine tN (aaE (aN [] [] [1,4,15] [1,4] trivial ?_));refine cK (!r5.2.2.2.2) (fun hc1=> ?_) fun hc1=> ?_
 ·replace h:=aE hc1 h;refine bC [] [] ⟨40,[(2,.str []),(3,.i (1:Int))],[],[],0⟩ trivial ?_;obtain rfl:=aaD h;refine aaH (tR ?_);exact bK
 ·replace h:=aF hc1 h;refine aaG (tN (bC [] [] ⟨40,[(1,.ptr 1 0),(6,.own 18)],[(1,.cells 164 [.i x1,.str x2,.str x3,.str x4]),(18,.rows 9 1 1 (dE 1 [.str r5.1]))],[],0⟩ trivial ?_));refine aaS (acO (s':=⟨40,[(1,.ptr 1 0),(6,.own 18)],[(1,.cells 164 [.i x1,.str x2,.str x3,.str x4]),(18,aU [r5.1])],[],0⟩) rfl rfl ⟨.refl _,.refl _,trivial⟩ ⟨⟨_,rfl,.refl _⟩,⟨_,rfl,(acE (acM (enc:=eS) [r5.1] rfl rfl (fun _=>rfl)))⟩,trivial⟩) ?_;obtain⟨K1,hK1,h⟩:=aI h;refine aaR (α:=List Ty0) (fun(l9:List Ty0)=>⟨40,[(6,.own 18)],[(18,aU l9)],[],0⟩) (fun x=>K1 x=some r) ?_ ?_
  ·refine bC [] [] ⟨40,(f184z1),[(18,aU [r5.1]),(25,.rows 9 1 3 (dE 1 [.str x2,.str x3,.str x4]))],[],0⟩ trivial ?_;refine aaS (acO (s':=⟨40,(f184z1),[(18,aU [r5.1]),(25,aU [x2,x3,x4])],[],0⟩) rfl rfl ⟨.refl _,.refl _,.refl _,.refl _,trivial⟩ ⟨⟨_,rfl,.refl _⟩,⟨_,rfl,(acE (acM (enc:=eS) [x2,x3,x4] rfl rfl (fun _=>rfl)))⟩,trivial⟩) ?_;refine aaJ (abG (α:=Nat×(Nat×List Ty0)) (fun x=>match x with|(_,n6,l7)=>⟨40,(aBD n6),[(18,aU l7),(25,aU [x2,x3,x4])],[],0⟩) (fun x=>lU x2 x3 x4 K1 x.1 x.2=some r) (fun x=>x.1) (aY,0,[r5.1]) LR h ?_)
   rintro⟨k0,n6,l7⟩ h
   cases k0 with
   |zero=>exact nEx h
   |succ k0=>
   obtain⟨C0,hC0⟩:∃C,C=lU x2 x3 x4 K1 k0:=⟨_,rfl⟩;replace h:=(lU.eq_2 ..).symm.trans h
   try rw[<-hC0]at h
   refine aN [] [] [6,25,26,27,28] [18,25] trivial ?_;refine aaE (cK (decide ((n6:Int)<(3:Int))) (fun hc2=> ?_) fun hc2=> ?_)
   ·replace h:=aE hc2 h;refine aaG (tN ?_);obtain⟨K2,hK2,h⟩:=aI h;refine aaR (α:=List Ty0) (fun(l8:List Ty0)=>⟨40,(aBD n6),[(18,aU l8),(25,aU [x2,x3,x4])],[],0⟩) (fun x=>K2 x=some r) ?_ ?_
    ·refine aaJ (aaE ?_);obtain⟨ob0p,h⟩:=aB h;obtain⟨ob1,h⟩:=aB h;refine aZ [] [] [6,8,25,26,27] [18,25] (an2 (iN ob0p) ob1) ?_;refine tN (bC [] [] ⟨40,[(6,.own 18),(8,.str ([x2,x3,x4].getD n6 [])),(25,.own 25),(26,.i (3:Int)),(27,.i (n6:Int)),(32,.bool (!(([x2,x3,x4].getD n6 [])==[])))],[(18,aU l7),(25,aU [x2,x3,x4])],[],0⟩ trivial ?_);refine cK (!(([x2,x3,x4].getD n6 [])==[])) (fun hc3=> ?_) fun hc3=> ?_
     ·replace h:=aE hc3 h;obtain⟨ob2,h⟩:=aB h;refine bB [] [] ⟨40,(aBD n6),[(18,.rows 9 1 ((l7).length+1) (fH (l7).length (bY eS [] l7) (dE 1 [.str ([x2,x3,x4].getD n6 [])]))),(25,aU [x2,x3,x4])],[],0⟩ (an1 ob2) ?_;refine kN ?_;exact jN ((l7++[([x2,x3,x4].getD n6 [])])) (aaI (acO (s':=⟨40,(aBD n6),[(18,aU (l7++[([x2,x3,x4].getD n6 [])])),(25,aU [x2,x3,x4])],[],0⟩) rfl rfl ⟨.refl _,.refl _,.refl _,.refl _,trivial⟩ ⟨⟨_,rfl,(acE (adF (acH _) (acM (enc:=eS) [([x2,x3,x4].getD n6 [])] rfl rfl (fun _=>rfl))))⟩,⟨_,rfl,.refl _⟩,trivial⟩) LR) h
     ·replace h:=aF hc3 h;refine aaG (kN ?_);exact jN (l7) LR h
    ·rintro l8 h;replace h:=(congrFun hK2 _).symm.trans h;obtain⟨ob3p,h⟩:=aB h;refine aZ [] [] [6,25,26,27] [18,25] (an1 (iP ob3p)) ?_;rw[hC0]at h;exact lN (_,(n6+1),l8) LR h (aaM _)
   ·replace h:=aF hc2 h;refine abJ (tE (tE (kS ?_)));exact jN (l7) LR h
  ·rintro l9 h;replace h:=(congrFun hK1 _).symm.trans h;refine aaE ?_;obtain⟨r10,hr10,h⟩:=bind_ok h;refine aZ [] [(1,⟨[cQ l9,.str ([32]:aaA)],[],[],[],.str r10,[],[18],[]⟩)] [2,3] [] (an1 (cpL (c:=true) [(18,aU l9)] [18] [.own 18,.str ([32]:aaA)] (fun _=>(f205_ok _ _ _ hr10)) (fun _=>⟨.refl _,.refl _,trivial⟩) (.inr ⟨rfl,trivial⟩))) ?_;refine tN ?_;obtain rfl:=aaD h;refine aaH ?_;exact bK
def gN (x1:aaA) (K1:Unit->Option Tq9):Nat->(List Ty0×List Nat)->Option Tq9
 |0,_=>none
 |k+1,(l4,l5)=>
  aCr bV.length l5 (fun(j6:Nat)=>
  chk ((0:Int)<(((l4).length:Nat):Int))<|
  if(!(((bQ.getD j6 (default:Tq8)).1)==(l4.getD 0 [])))then(
  (gN x1 K1 k) (l4,(l5++[j6]))
  )else(
  chk ((1:Int)<=(((l4).length:Nat):Int))<|
  (f183 ((bQ.getD j6 (default:Tq8)).2.1) (l4.drop 1)).bind fun r7=>
  (f183 ((bQ.getD j6 (default:Tq8)).2.2.1) r7.2).bind fun r8=>
  (f183 ((bQ.getD j6 (default:Tq8)).2.2.2) r8.2).bind fun r9=>
  (f184 (bV.getD j6 0) r7.1 r8.1 r9.1).bind fun r10=>
  if((r10.2==(0:Int))&&(r10.1==x1))then(
  some ((bV.getD j6 0),r7.1,r8.1,r9.1,(0:Int))
  )else(
  (gN x1 K1 k) (l4,(l5++[j6]))
  )
  )
  ) (
  K1 ()
  )
abbrev mS :List V:=[.i (0:Int),.str [],.str [],.str []]
def f152 (x1:aaA):Option Tq9:=
 (f181 x1 ([32]:aaA)).bind fun r2=>
 jn (fun(_:Unit)=>
 some ((0:Int),[],[],[],(2:Int))
 ) fun(K1:Unit->Option Tq9)=>
 (f182).bind fun r3=>
 gN x1 K1 aY (r2,[])
theorem f152_ok (x1:aaA) (r:Tq9) (h:f152 x1=some r):aG Tryz.prog 152 [] [] [] [.str x1] (.tup [.agg [.i r.1,.str r.2.1,.str r.2.2.1,.str r.2.2.2.1],.i r.2.2.2.2]) []:=by
 unfold f152 at h;refine aG.bodyD [2] 0 _ _ Tryz.func152 rfl Tryz.ntmps152 rfl rfl ?_;refine aN [] [] [0,2] [2] trivial ?_;refine aaE ?_;obtain⟨r2,hr2,h⟩:=bind_ok h;refine bB [] [(1,⟨[.str x1,.str ([32]:aaA)],[],[],[(6001,aU r2)],.own 6001,[6001],[],[]⟩)] ⟨61,[(0,.str x1),(2,.ptr 2 0),(4,.own 6001)],[(2,.cells 164 (mS)),(6001,aU r2)],[],0⟩ (an1 (cpT (aG.ren (aV 3000 6001) (aD 3000 6001) rfl (f181_ok _ _ _ hr2)))) ?_;refine tN ?_;obtain⟨K1,hK1,h⟩:=aI h;refine aaR (fun(x:Unit)=>match x with|()=>⟨61,[(2,.ptr 2 0)],[(2,.cells 164 (mS))],[],0⟩) (fun x=>K1 x=some r) ?_ ?_
 ·refine aaE ?_;obtain⟨r3,hr3,h⟩:=bind_ok h;refine bB [] [(0,⟨[],[],[],[],vM (V.int .i64) 0 iW aW bV bQ,[],[],[]⟩),(1,⟨[vM (V.int .i64) 0 iW aW bV bQ],[],[],[(15,iM (V.int .i64) 0 iW aW bV bQ [])],.own 15,[15],[],[]⟩)] ⟨61,[(0,.str x1),(2,.ptr 2 0),(4,.own 6001),(15,.own 15)],[(2,.cells 164 (mS)),(15,iM (V.int .i64) 0 iW aW bV bQ []),(6001,aU r2)],[],0⟩ (an2 (cpT (f182_ok _ hr3)) (aaK (aAc (P:=Tryz.prog) Tryz.underlying261 (.tmp 14) 0 15 (V.int .i64) 0 iW aW bV bQ) (eU.same [vM (V.int .i64) 0 iW aW bV bQ]))) ?_;refine tN (aaJ (abG (α:=Nat×(List Ty0×List Nat)) (fun x=>match x with|(_,l4,l5)=>⟨61,[(0,.str x1),(2,.ptr 2 0),(4,cQ l4),(15,.own 15)],[(2,.cells 164 (mS)),(15,iM (V.int .i64) 0 iW aW bV bQ l5)],[],0⟩) (fun x=>gN x1 K1 x.1 x.2=some r) (fun x=>x.1) (aY,r2,[]) (aaI (aaI (adI 6001 rfl rfl) (LR (s':=⟨61,[(0,.str x1),(2,.ptr 2 0),(4,cQ r2),(15,.own 15)],[(2,.cells 164 (mS)),(15,iM (V.int .i64) 0 iW aW bV bQ [])],[],0⟩))) LR) h ?_))
  rintro⟨k0,l4,l5⟩ h
  cases k0 with
  |zero=>exact nEx h
  |succ k0=>
  obtain⟨C0,hC0⟩:∃C,C=gN x1 K1 k0:=⟨_,rfl⟩;replace h:=(gN.eq_2 ..).symm.trans h
  try rw[<-hC0]at h
  refine aaE (AWp.nextR 15 (V.int .i64) 0 iW aW bV bQ l5 rfl rfl rfl rfl rfl (fun j6 hj6 hsj6=> ?_) (fun hall=> ?_))
  ·replace h:=(sY h).1 j6 hj6 hsj6;refine tN (aaE (cK true (fun hc=> ?_) fun hc=> ?_))
   ·clear hc;refine aaG (tN (aaJ (aN [] [(0,⟨[.own 15],[15],[15],[(15,iM (V.int .i64) 0 iW aW bV bQ (l5++[j6]))],.tup [.i (bV.getD j6 0),.agg [.str (bQ.getD j6 aW).1,.bool (bQ.getD j6 aW).2.1,.bool (bQ.getD j6 aW).2.2.1,.bool (bQ.getD j6 aW).2.2.2]],[],[],[]⟩)] [0,2,4,5,6,15] [2,6,15] (an2 (aaK (aAN (P:=Tryz.prog) (.tmp 15) 0 15 (V.int .i64) 0 iW aW bV bQ l5 j6 hj6) (eU.same [.own 15])) trivial) ?_)));refine aaE (aaE ?_);obtain⟨ob0p,h⟩:=aB h;have ob0:0<=(0:Int)/\(0:Int)<(((l4).length:Nat):Int):=⟨by omega,ob0p⟩;refine bB [] [] ⟨61,[(0,.str x1),(2,.ptr 2 0),(4,cQ l4),(5,.i (bV.getD j6 0)),(6,.ptr 6 0),(15,.own 15),(26,.bool (!(((bQ.getD j6 aW).1)==(l4.getD 0 []))))],[(2,.cells 164 (mS)),(6,.cells 264 [.str (bQ.getD j6 aW).1,.bool (bQ.getD j6 aW).2.1,.bool (bQ.getD j6 aW).2.2.1,.bool (bQ.getD j6 aW).2.2.2]),(15,iM (V.int .i64) 0 iW aW bV bQ (l5++[j6]))],[],0⟩ (an1 ob0) ?_;refine tN (cK (!(((bQ.getD j6 aW).1)==(l4.getD 0 []))) (fun hc1=> ?_) fun hc1=> ?_)
    ·replace h:=aE hc1 h;refine abJ (tE (kS ?_));rw[hC0]at h;exact lN (_,l4,(l5++[j6])) LR h (aaM _)
    ·replace h:=aF hc1 h;refine aaG (tN (aaE ?_));obtain⟨ob1p,h⟩:=aB h;have ob1:0<=(1:Int)/\(1:Int)<=(((l4).length:Nat):Int):=⟨by omega,ob1p⟩;refine bB [] [] ⟨61,[(0,.str x1),(2,.ptr 2 0),(4,cQ l4),(6,.ptr 6 0),(7,.ptr 7 0),(8,.ptr 8 0),(15,.own 15)],[(2,.cells 164 (mS)),(6,.cells 264 [.str (bQ.getD j6 aW).1,.bool (bQ.getD j6 aW).2.1,.bool (bQ.getD j6 aW).2.2.1,.bool (bQ.getD j6 aW).2.2.2]),(7,.cells 164 [.i (bV.getD j6 0),.str [],.str [],.str []]),(8,.cells 29 [.arr 1 ((l4).length-1) (fun i j=>(bY eS [] l4) (i+1) j)]),(15,iM (V.int .i64) 0 iW aW bV bQ (l5++[j6]))],[],0⟩ (an3 ob1 trivial trivial) ?_;refine tN (aaS (acO (s':=⟨61,[(0,.str x1),(2,.ptr 2 0),(4,cQ l4),(6,.ptr 6 0),(7,.ptr 7 0),(8,.ptr 8 0),(15,.own 15)],[(2,.cells 164 (mS)),(6,.cells 264 [.str (bQ.getD j6 aW).1,.bool (bQ.getD j6 aW).2.1,.bool (bQ.getD j6 aW).2.2.1,.bool (bQ.getD j6 aW).2.2.2]),(7,.cells 164 [.i (bV.getD j6 0),.str [],.str [],.str []]),(8,.cells 29 [cQ (l4.drop 1)]),(15,iM (V.int .i64) 0 iW aW bV bQ (l5++[j6]))],[],0⟩) rfl rfl ⟨.refl _,.refl _,.refl _,.refl _,.refl _,.refl _,.refl _,trivial⟩ ⟨⟨_,rfl,.refl _⟩,⟨_,rfl,.refl _⟩,⟨_,rfl,.refl _⟩,⟨_,rfl,(.cellsL ⟨VLe.dropL,trivial⟩)⟩,⟨_,rfl,.refl _⟩,trivial⟩) ?_);refine aN [] [] [0,2,4,6,7,9,15] [2,6,7,8,15] trivial ?_;refine aaE ?_;obtain⟨r7,hr7,h⟩:=bind_ok h;obtain⟨r8,hr8,h⟩:=bind_ok h;obtain⟨r9,hr9,h⟩:=bind_ok h;refine aZ [] [(3,⟨[.bool (bQ.getD j6 aW).2.1,.ptr 8 0],[8],[8],[(8,.cells 29 [cQ r7.2])],.str r7.1,[],[],[]⟩),(7,⟨[.bool (bQ.getD j6 aW).2.2.1,.ptr 8 0],[8],[8],[(8,.cells 29 [cQ r8.2])],.str r8.1,[],[],[]⟩),(11,⟨[.bool (bQ.getD j6 aW).2.2.2,.ptr 8 0],[8],[8],[(8,.cells 29 [cQ r9.2])],.str r9.1,[],[],[]⟩)] [0,2,4,7,15] [2,7,15] (an6 (cpT (aG.ren (aV 2000 8) (aD 2000 8) rfl (aAD _ _ _ hr7))) (cpT (aG.ren (aV 2000 8) (aD 2000 8) rfl (aAD _ _ _ hr8))) (cpT (aG.ren (aV 2000 8) (aD 2000 8) rfl (aAD _ _ _ hr9))) trivial trivial trivial) ?_;refine tN (aaE ?_);obtain⟨r10,hr10,h⟩:=bind_ok h;refine aZ [] [(1,⟨[.agg [.i (bV.getD j6 0),.str r7.1,.str r8.1,.str r9.1]],[],[],[],.tup [.str r10.1,.i r10.2],[],[],[]⟩)] [0,2,4,7,10,11,15] [2,7,15] (an1 (cpT (f184_ok _ _ _ _ _ hr10))) ?_;refine tN (aaE (bB [] [] ⟨61,[(0,.str x1),(2,.ptr 2 0),(4,cQ l4),(7,.ptr 7 0),(15,.own 15),(58,.bool ((r10.2==(0:Int))&&(r10.1==x1)))],[(2,.cells 164 (mS)),(7,.cells 164 [.i (bV.getD j6 0),.str r7.1,.str r8.1,.str r9.1]),(15,iM (V.int .i64) 0 iW aW bV bQ (l5++[j6]))],[],0⟩ (an2 (an2 (idA (((r10.2==(0:Int))==true)=true)) (idA (((r10.2==(0:Int))==true)=true))) (bqA (r10.2==(0:Int)) true)) ?_));refine tN (cK ((r10.2==(0:Int))&&(r10.1==x1)) (fun hc2=> ?_) fun hc2=> ?_)
     ·replace h:=aE hc2 h;refine aN [] [] [2,3] [2] (an1 trivial) ?_;obtain rfl:=aaD h;refine aaH (kR (tR (kR (aR ?_))));exact bD
     ·replace h:=aF hc2 h;refine aaG (kN ?_);rw[hC0]at h;exact lN (_,l4,(l5++[j6])) LR h (aaM _)
   ·cases hc
  ·replace h:=(sY h).2 hall;refine tN (aaE (cK false (fun hc=> ?_) fun hc=> ?_))
   ·cases hc
   ·clear hc;refine abJ (tE (tE (kS ?_)));exact jN () LR h
 ·rintro⟨⟩ h;replace h:=(congrFun hK1 _).symm.trans h;refine aN [] [] [2,3] [2] (an1 trivial) ?_;obtain rfl:=aaD h;refine aaH ?_;exact bD
def f220 (x1 x2:aaA):Option Int:=some (Lib.compareBytes x1 x2)
theorem f220_ok (x1 x2:aaA) (r:Int) (h:f220 x1 x2=some r):aG Tryz.prog 220 [] [] [] [.str x1,.str x2] (.i r) []:=str2_spec Lib.compareBytes cmpString x1 x2 r h
def f209 (x1 x2:aaA):Option Int:=
 (f220 x1 x2).bind fun r3=>
 some r3
theorem f209_ok (x1 x2:aaA) (r:Int) (h:f209 x1 x2=some r):aG Tryz.prog 209 [] [] [] [.str x1,.str x2] (.i r) []:=by
 unfold f209 at h;refine aG.body 0 _ _ Tryz.func209 rfl Tryz.ntmps209 rfl rfl ?_;refine aN [] [] [0,1] [] trivial ?_;refine aaE ?_;obtain⟨r3,hr3,h⟩:=bind_ok h;refine bB [] [(2,⟨[.str x1,.str x2],[],[],[],.i r3,[],[],[]⟩)] ⟨8,[(4,.i r3)],[],[],0⟩ (an1 (cpT (f220_ok _ _ _ hr3))) ?_;refine tN ?_;obtain rfl:=aaD h;refine aaH ?_;exact bK
def f208 (x1 x2:aaA) (x3:Int) (x4:aaA):Option Int:=
 (f209 x1 x4).bind fun r5=>
 some r5
theorem f208_ok (x1 x2:aaA) (x3:Int) (x4:aaA) (r:Int) (h:f208 x1 x2 x3 x4=some r):aG Tryz.prog 208 [] [] [] [.agg [.str x1,.str x2,.i x3],.str x4] (.i r) []:=by
 unfold f208 at h;refine aG.body 0 _ _ Tryz.func208 rfl Tryz.ntmps208 rfl rfl ?_;refine aN [] [] [1,2] [2] trivial ?_;refine aaE ?_;obtain⟨r5,hr5,h⟩:=bind_ok h;refine bB [] [(3,⟨[.str x1,.str x4],[],[],[],.i r5,[],[],[]⟩)] ⟨9,[(4,.i r5)],[],[],0⟩ (an1 (cpT (f209_ok _ _ _ hr5))) ?_;refine tN ?_;obtain rfl:=aaD h;refine aaH ?_;exact bK
def iC (x1:List Tq1) (x2:aaA) (K1:Int->Option Tq4):Nat->Tq2->Option Tq4
 |0,_=>none
 |k+1,(i3,i4)=>
  if(decide (i3<i4))then(
  chk (-9223372036854775808<=(i3+i4)/\(i3+i4)<=9223372036854775807)<|
  chk (0<=(i3+i4)/\(i3+i4)<=18446744073709551615)<|
  chk (1<=IntKind.bits .u64)<|
  chk (-9223372036854775808<=((i3+i4)/2^1)/\((i3+i4)/2^1)<=9223372036854775807)<|
  (f208 ((x1.getD ((((i3+i4)/2^1)).toNat) (default:Tq1)).1) ((x1.getD ((((i3+i4)/2^1)).toNat) (default:Tq1)).2.1) ((x1.getD ((((i3+i4)/2^1)).toNat) (default:Tq1)).2.2) x2).bind fun r5=>
  chk (0<=((i3+i4)/2^1)/\((i3+i4)/2^1)<(((x1).length:Nat):Int))<|
  if(decide (r5<(0:Int)))then(
  chk (-9223372036854775808<=(((i3+i4)/2^1)+(1:Int))/\(((i3+i4)/2^1)+(1:Int))<=9223372036854775807)<|
  (iC x1 x2 K1 k) ((((i3+i4)/2^1)+(1:Int)),i4)
  )else(
  (iC x1 x2 K1 k) (i3,((i3+i4)/2^1))
  )
  )else(
  K1 i3
  )
def f207 (x1:List Tq1) (x2:aaA):Option Tq4:=
 jn (fun(i6:Int)=>
 eO ((decide (i6<(((x1).length:Nat):Int)))==true) (f208 ((x1.getD ((i6).toNat) (default:Tq1)).1) ((x1.getD ((i6).toNat) (default:Tq1)).2.1) ((x1.getD ((i6).toNat) (default:Tq1)).2.2) x2) fun r7=>
 chk (((decide (i6<(((x1).length:Nat):Int)))==true)=true->0<=i6/\i6<(((x1).length:Nat):Int))<|
 some (i6,((decide (i6<(((x1).length:Nat):Int)))&&(r7==(0:Int))))
 ) fun(K1:Int->Option Tq4)=>
 iC x1 x2 K1 aY ((0:Int),(((x1).length:Nat):Int))
theorem f207_ok (x1:List Tq1) (x2:aaA) (r:Tq4) (h:f207 x1 x2=some r):aG Tryz.prog 207 [] [] [] [vL 3 cN (default:Tq1) x1,.str x2,.fn (.func 208) []] (.tup [.i r.1,.bool r.2]) []:=by
 unfold f207 at h;refine aG.body 0 _ _ Tryz.func207 rfl Tryz.ntmps207 rfl rfl ?_;refine aN [] [] [0,1,2] [] trivial ?_;refine aN [] [] [0,1,2,8] [] trivial ?_;refine bC [] [] ⟨49,[(0,bA x1),(1,.str x2),(2,.fn (.func 208) []),(8,.i (lZ x1)),(9,.i (0:Int)),(10,.i (lZ x1))],[],[],0⟩ trivial ?_;obtain⟨K1,hK1,h⟩:=aI h;refine aaR (α:=Int) (fun(i6:Int)=>⟨49,[(0,bA x1),(1,.str x2),(2,.fn (.func 208) []),(8,.i (lZ x1)),(9,.i i6)],[],[],0⟩) (fun x=>K1 x=some r) ?_ ?_
 ·refine aaJ (abG (α:=Nat×Tq2) (fun x=>match x with|(_,i3,i4)=>⟨49,[(0,bA x1),(1,.str x2),(2,.fn (.func 208) []),(8,.i (lZ x1)),(9,.i i3),(10,.i i4)],[],[],0⟩) (fun x=>iC x1 x2 K1 x.1 x.2=some r) (fun x=>x.1) (aY,(0:Int),(lZ x1)) LR h ?_)
  rintro⟨k0,i3,i4⟩ h
  cases k0 with
  |zero=>exact nEx h
  |succ k0=>
  obtain⟨C0,hC0⟩:∃C,C=iC x1 x2 K1 k0:=⟨_,rfl⟩;replace h:=(iC.eq_2 ..).symm.trans h
  try rw[<-hC0]at h
  refine aaE (aN [] [] [0,1,2,8,9,10,17] [] trivial ?_);refine cK (decide (i3<i4)) (fun hc1=> ?_) fun hc1=> ?_
  ·replace h:=aE hc1 h;refine aaG (tN (aaJ (aaE ?_)));obtain⟨ob0,ob1,ob2p,h⟩:=ck3 h;have ob2:0<=(1:Int)/\1<=IntKind.bits .u64:=⟨by omega,ob2p⟩;obtain⟨ob3,h⟩:=aB h;refine aZ [] [] [0,1,2,8,9,10,11] [] (an4 ob0 ob1 ob2 ob3) ?_;refine tN (aaE ?_);obtain⟨r5,hr5,h⟩:=bind_ok h;obtain⟨ob4,h⟩:=aB h;refine aZ [] [(6,⟨[.agg [.str (x1.getD ((((i3+i4)/2^1)).toNat) aQ).1,.str (x1.getD ((((i3+i4)/2^1)).toNat) aQ).2.1,.i (x1.getD ((((i3+i4)/2^1)).toNat) aQ).2.2],.str x2],[],[],[],.i r5,[],[],[]⟩)] [0,1,2,8,9,10,11,31] [] (an2 ob4 (cpT (f208_ok _ _ _ _ _ hr5))) ?_;refine tN (cK (decide (r5<(0:Int))) (fun hc2=> ?_) fun hc2=> ?_)
   ·replace h:=aE hc2 h;obtain⟨ob5,h⟩:=aB h;refine bB [] [] ⟨49,[(0,bA x1),(1,.str x2),(2,.fn (.func 208) []),(8,.i (lZ x1)),(9,.i (((i3+i4)/2^1)+(1:Int))),(10,.i i4)],[],[],0⟩ (an1 ob5) ?_;refine kN ?_;rw[hC0]at h;exact lN (_,(((i3+i4)/2^1)+(1:Int)),i4) LR h (aaM _)
   ·replace h:=aF hc2 h;refine aZ [] [] [0,1,2,8,9,10] [] trivial ?_;refine kN ?_;rw[hC0]at h;exact lN (_,i3,((i3+i4)/2^1)) LR h (aaM _)
  ·replace h:=aF hc1 h;refine abJ (tE (tE (kS ?_)));exact jN (i3) LR h
 ·rintro i6 h;replace h:=(congrFun hK1 _).symm.trans h;refine aaE ?_;obtain⟨r7,hr7,h⟩:=bI h;obtain⟨ob6,h⟩:=aB h;refine aZ [] [(11,⟨[.agg [.str (x1.getD ((i6).toNat) aQ).1,.str (x1.getD ((i6).toNat) aQ).2.1,.i (x1.getD ((i6).toNat) aQ).2.2],.str x2],[],[],[],.i r7,[],[],[]⟩)] [6,7] [] (an5 (aaK ob6 (an2 (idA (((decide (i6<(lZ x1)))==true)=true)) (idA (((decide (i6<(lZ x1)))==true)=true)))) (an1 (idA (((decide (i6<(lZ x1)))==true)=true))) (aaK (cpC fun hc=>(f208_ok _ _ _ _ _ (hr7 hc))) (an3 (idA (((decide (i6<(lZ x1)))==true)=true)) (idA (((decide (i6<(lZ x1)))==true)=true)) (idA (((decide (i6<(lZ x1)))==true)=true)))) (an1 (idA (((decide (i6<(lZ x1)))==true)=true))) (bqA (decide (i6<(lZ x1))) true)) ?_;refine tN ?_;obtain rfl:=aaD h;refine aaH ?_;exact bK
def f186 (x1:List Tq1) (x2:aaA):Option Tq4:=
 (f207 x1 x2).bind fun r3=>
 some (r3.1,r3.2)
theorem f186_ok (x1:List Tq1) (x2:aaA) (r:Tq4) (h:f186 x1 x2=some r):aG Tryz.prog 186 [] [] [] [vL 3 cN (default:Tq1) x1,.str x2] (.tup [.i r.1,.bool r.2]) []:=by
 unfold f186 at h;refine aG.body 0 _ _ Tryz.func186 rfl Tryz.ntmps186 rfl rfl ?_;refine aN [] [] [0,1] [] trivial ?_;refine aaE ?_;obtain⟨r3,hr3,h⟩:=bind_ok h;refine bB [] [(2,⟨[bA x1,.str x2,.fn (.func 208) []],[],[],[],.tup [.i r3.1,.bool r3.2],[],[],[]⟩)] ⟨11,[(4,.i r3.1),(5,.bool r3.2)],[],[],0⟩ (an1 (cpT (f207_ok _ _ _ hr3))) ?_;refine tN ?_;obtain rfl:=aaD h;refine aaH ?_;exact bK
def f189 (x1:List Tq1):Option Ty7:=
 abc ((x1).length=0) (
 some []
 ) (
 chk ((0+(x1).length) *40<=140737488355328)<|
 some ([]++x1)
 )
theorem f189_ok (x1 r:List Tq1) (h:f189 x1=some r):aG Tryz.prog 189 [] [] [] [vL 3 cN (default:Tq1) x1] (.own 3000) [(3000,bL 202 3 cN (default:Tq1) r)]:=by
 unfold f189 at h;refine aG.body 0 _ _ Tryz.func189 rfl Tryz.ntmps189 rfl rfl ?_;refine aN [] [] [0] [] trivial ?_;refine aaE (bC [] [] ⟨8,[(0,bA x1),(4,.abool (fun b=>b=true->(x1).length=0))],[],[],0⟩ trivial ?_);obtain⟨hA1,hB1⟩:=aB2 h;refine AWp.condAb (fun b=>b=true->(x1).length=0) (by kernel_rfl) (fun hc1=> ?_) (fun hc1=> ?_)
 ·have h:=hA1 (hc1 rfl);refine bC [] [] ⟨8,[(2,.nils)],[],[],0⟩ trivial ?_;refine aaS (aaI (adE 2 3000 202 3 (bY cN aQ []) rfl rfl (aaW rfl)) (LR (s':=⟨8,[(2,.own 3000)],[(3000,aS [])],[],0⟩))) ?_;obtain rfl:=aaD h;refine aaS (LR (s':=⟨8,[(2,.own 3000)],[(3000,aS [])],[],0⟩)) ?_;refine aaH (tR ?_);exact bK
 ·have h:=hB1;refine aaG (tN (aaE ?_));obtain⟨ob0,h⟩:=aB h;refine bB [] [] ⟨8,[(2,.own 5)],[(5,.rows 202 3 (0+(x1).length) (fH 0 (dE 3 []) (bY cN aQ x1)))],[],0⟩ (an1 ob0) ?_;refine tN (aaS (acO (s':=⟨8,[(2,.own 5)],[(5,aS ([]++x1))],[],0⟩) rfl rfl ⟨.refl _,trivial⟩ ⟨⟨_,rfl,(acE (adF (acM (enc:=cN) [] rfl rfl (fun _=>rfl)) (acH _)))⟩,trivial⟩) ?_);refine aaS (aaI (abX (aV 5 3000) (aD 5 3000) rfl) (LR (s':=⟨8,[(2,.own 3000)],[(3000,aS ([]++x1))],[],0⟩))) ?_;obtain rfl:=aaD h;refine aaS (LR (s':=⟨8,[(2,.own 3000)],[(3000,aS ([]++x1))],[],0⟩)) ?_;refine aaH ?_;exact bK
abbrev f210z0 (x2 x3:List Tq1):aJ:=[(2000,bL 202 3 cN (default:Tq1) x2),(2001,bL 202 3 cN (default:Tq1) x3)]
def f210e (x1:Int) (x2 x3:List Tq1):Option (Ty7×Ty7):=
 chk (0<=x1/\x1<=(((x2).length:Nat):Int))<|
 if((((x3).length:Nat):Int)==(0:Int))then(
 some (x2,x3)
 )else(
 if(x1==(((x2).length:Nat):Int))then(
 chk (((x2).length+(x3).length) *40<=140737488355328)<|
 some ((x2++x3),x3)
 )else(

 none
 )
 )
theorem f210e_ok (x1:Int) (x2 x3:List Tq1) (r:Ty7×Ty7) (h:f210e x1 x2 x3=some r):aG Tryz.prog 210 [] [2001] [(2000,bL 202 3 cN (default:Tq1) x2),(2001,bL 202 3 cN (default:Tq1) x3)] [.own 2000,.i x1,.own 2001] (.own 2000) [(2000,bL 202 3 cN (default:Tq1) r.1),(2001,bL 202 3 cN (default:Tq1) r.2)]:=by
 unfold f210e at h;refine aG.body 0 _ _ Tryz.func210 rfl Tryz.ntmps210 rfl rfl ?_;refine aN [] [] [0,1,2] [2000,2001] trivial ?_;refine aaE ?_;obtain⟨ob0,h⟩:=aB h;refine aZ [] [] [0,1,2] [2000,2001] (an1 ob0) ?_;refine tN (aN [] [] [0,1,2,7] [2000,2001] trivial ?_);refine aaE (aN [] [] [0,1,2,7,16] [2000,2001] trivial ?_);refine cK ((lZ x3)==(0:Int)) (fun hc1=> ?_) fun hc1=> ?_
 ·replace h:=aE hc1 h;refine bC [] [] ⟨95,[(6,.own 2000)],(f210z0 x2 x3),[2001],0⟩ trivial ?_;obtain rfl:=aaD h;refine aaH (tR ?_);exact bK
 ·replace h:=aF hc1 h;refine aaG (tN (aN [] [] [0,1,2,7,8] [2000,2001] trivial ?_));refine aaE (bC [] [] ⟨95,[(0,.own 2000),(1,.i x1),(2,.own 2001),(7,.i (lZ x3)),(8,.i (lZ x2)),(22,.bool (x1==(lZ x2)))],(f210z0 x2 x3),[2001],0⟩ trivial ?_);refine cK (x1==(lZ x2)) (fun hc2=> ?_) fun hc2=> ?_
  ·replace h:=aE hc2 h;refine aaE ?_;obtain⟨ob1,h⟩:=aB h;refine bB [] [] ⟨95,[(6,.own 2000)],[(2000,.rows 202 3 ((x2).length+(x3).length) (fH (x2).length (bY cN aQ x2) (bY cN aQ x3))),(2001,aS x3)],[2001],0⟩ (an1 ob1) ?_;refine tN (aaS (acO (s':=⟨95,[(6,.own 2000)],[(2000,aS (x2++x3)),(2001,aS x3)],[2001],0⟩) rfl rfl ⟨.refl _,trivial⟩ ⟨⟨_,rfl,(acE (adF (acH _) (acH _)))⟩,⟨_,rfl,.refl _⟩,trivial⟩) ?_);obtain rfl:=aaD h;refine aaS (LR (s':=⟨95,[(6,.own 2000)],[(2000,aS (x2++x3)),(2001,aS x3)],[2001],0⟩)) ?_;refine aaH (tR ?_);exact bK
  ·replace h:=aF hc2 h;refine aaG (tN (aaE (aaE ?_)));exact nEx h
def f210 (x2:Int) (x1 x3:List Tq1):Option (List (aaA×aaA×Int)×List (aaA×aaA×Int)):=
 if 0<=x2/\x2.toNat<x1.length/\0<x3.length/\(x1.length+x3.length) *40<=140737488355328 then some (x1.take x2.toNat++x3++x1.drop x2.toNat,x3)else f210e x2 x1 x3
theorem f210_ok (x2:Int) (x1 x3:List Tq1) (r:List Tq1×List Tq1) (h:f210 x2 x1 x3=some r):aG Tryz.prog 210 [] [2001] [(2000,bL 202 3 cN (default:Tq1) x1),(2001,bL 202 3 cN (default:Tq1) x3)] [.own 2000,.i x2,.own 2001] (.own 2000) [(2000,bL 202 3 cN (default:Tq1) r.1),(2001,bL 202 3 cN (default:Tq1) r.2)]:=by
 unfold f210 at h;split at h
 ·rename_i hc;cases h;have:=xE 3 (by decide) 202 40 cN aQ insShift insGrow x1 x3 x2.toNat hc.2.1 hc.2.2.1 hc.2.2.2;rw[aeM hc.1]at this;exact this
 ·exact f210e_ok x2 x1 x3 r h
abbrev f187z0 (x3:aaA) (r4:Tq4):List (Nat×V):=[(0,.own 6001),(2,.str x3),(8,.i r4.1),(1000001,pT)]
abbrev aBC (r4:Tq4):List (Nat×V):=[(0,.own 6001),(8,.i r4.1),(1000001,pT)]
abbrev f187z2 (r5:List Tq1):aJ:=[(6001,bL 202 3 cN (default:Tq1) r5)]
abbrev rJ :=(1000000000000:Int)
def aC1 (x1:List Tq1) (x2 x3:aaA):Option (Ty7×aaA):=
 (f186 x1 x2).bind fun r4=>
 if((!r4.2)&&(decide ((((x1).length:Nat):Int)>=(64:Int))))then(
 some (x1,([102,117,108,108]:aaA))
 )else(
 (f189 x1).bind fun r5=>
 jn (fun(l7:List Tq1)=>
 chk (0<=r4.1/\r4.1<(((l7).length:Nat):Int))<|
 chk (((r4.1).toNat)<(l7).length)<|
 chk (0<=r4.1/\r4.1<((((l7.set ((r4.1).toNat) ((l7.getD ((r4.1).toNat) (default:Tq1)).1,x3,(l7.getD ((r4.1).toNat) (default:Tq1)).2.2))).length:Nat):Int))<|
 chk (((r4.1).toNat)<((l7.set ((r4.1).toNat) ((l7.getD ((r4.1).toNat) (default:Tq1)).1,x3,(l7.getD ((r4.1).toNat) (default:Tq1)).2.2))).length)<|
 chk (-9223372036854775808<=(((l7.set ((r4.1).toNat) ((l7.getD ((r4.1).toNat) (default:Tq1)).1,x3,(l7.getD ((r4.1).toNat) (default:Tq1)).2.2)).getD ((r4.1).toNat) (default:Tq1)).2.2+(1:Int))/\(((l7.set ((r4.1).toNat) ((l7.getD ((r4.1).toNat) (default:Tq1)).1,x3,(l7.getD ((r4.1).toNat) (default:Tq1)).2.2)).getD ((r4.1).toNat) (default:Tq1)).2.2+(1:Int))<=9223372036854775807)<|
 chk (0<=r4.1/\r4.1<((((l7.set ((r4.1).toNat) ((l7.getD ((r4.1).toNat) (default:Tq1)).1,x3,(l7.getD ((r4.1).toNat) (default:Tq1)).2.2))).length:Nat):Int))<|
 chk (((r4.1).toNat)<((l7.set ((r4.1).toNat) ((l7.getD ((r4.1).toNat) (default:Tq1)).1,x3,(l7.getD ((r4.1).toNat) (default:Tq1)).2.2))).length)<|
 (f58 ((((l7.set ((r4.1).toNat) ((l7.getD ((r4.1).toNat) (default:Tq1)).1,x3,(l7.getD ((r4.1).toNat) (default:Tq1)).2.2)).set ((r4.1).toNat) (((l7.set ((r4.1).toNat) ((l7.getD ((r4.1).toNat) (default:Tq1)).1,x3,(l7.getD ((r4.1).toNat) (default:Tq1)).2.2)).getD ((r4.1).toNat) (default:Tq1)).1,((l7.set ((r4.1).toNat) ((l7.getD ((r4.1).toNat) (default:Tq1)).1,x3,(l7.getD ((r4.1).toNat) (default:Tq1)).2.2)).getD ((r4.1).toNat) (default:Tq1)).2.1,(min (((l7.set ((r4.1).toNat) ((l7.getD ((r4.1).toNat) (default:Tq1)).1,x3,(l7.getD ((r4.1).toNat) (default:Tq1)).2.2)).getD ((r4.1).toNat) (default:Tq1)).2.2+(1:Int)) (1000000000000:Int)))).getD ((r4.1).toNat) (default:Tq1)).2.2)).bind fun r8=>
 chk (0<=r4.1/\r4.1<(((((l7.set ((r4.1).toNat) ((l7.getD ((r4.1).toNat) (default:Tq1)).1,x3,(l7.getD ((r4.1).toNat) (default:Tq1)).2.2)).set ((r4.1).toNat) (((l7.set ((r4.1).toNat) ((l7.getD ((r4.1).toNat) (default:Tq1)).1,x3,(l7.getD ((r4.1).toNat) (default:Tq1)).2.2)).getD ((r4.1).toNat) (default:Tq1)).1,((l7.set ((r4.1).toNat) ((l7.getD ((r4.1).toNat) (default:Tq1)).1,x3,(l7.getD ((r4.1).toNat) (default:Tq1)).2.2)).getD ((r4.1).toNat) (default:Tq1)).2.1,(min (((l7.set ((r4.1).toNat) ((l7.getD ((r4.1).toNat) (default:Tq1)).1,x3,(l7.getD ((r4.1).toNat) (default:Tq1)).2.2)).getD ((r4.1).toNat) (default:Tq1)).2.2+(1:Int)) (1000000000000:Int))))).length:Nat):Int))<|
 chk (((r4.1).toNat)<(((l7.set ((r4.1).toNat) ((l7.getD ((r4.1).toNat) (default:Tq1)).1,x3,(l7.getD ((r4.1).toNat) (default:Tq1)).2.2)).set ((r4.1).toNat) (((l7.set ((r4.1).toNat) ((l7.getD ((r4.1).toNat) (default:Tq1)).1,x3,(l7.getD ((r4.1).toNat) (default:Tq1)).2.2)).getD ((r4.1).toNat) (default:Tq1)).1,((l7.set ((r4.1).toNat) ((l7.getD ((r4.1).toNat) (default:Tq1)).1,x3,(l7.getD ((r4.1).toNat) (default:Tq1)).2.2)).getD ((r4.1).toNat) (default:Tq1)).2.1,(min (((l7.set ((r4.1).toNat) ((l7.getD ((r4.1).toNat) (default:Tq1)).1,x3,(l7.getD ((r4.1).toNat) (default:Tq1)).2.2)).getD ((r4.1).toNat) (default:Tq1)).2.2+(1:Int)) (1000000000000:Int))))).length)<|
 chk (([111,107,32]:aaA).length+r8.length<=9223372036854775807)<|
 some (((l7.set ((r4.1).toNat) ((l7.getD ((r4.1).toNat) (default:Tq1)).1,x3,(l7.getD ((r4.1).toNat) (default:Tq1)).2.2)).set ((r4.1).toNat) (((l7.set ((r4.1).toNat) ((l7.getD ((r4.1).toNat) (default:Tq1)).1,x3,(l7.getD ((r4.1).toNat) (default:Tq1)).2.2)).getD ((r4.1).toNat) (default:Tq1)).1,((l7.set ((r4.1).toNat) ((l7.getD ((r4.1).toNat) (default:Tq1)).1,x3,(l7.getD ((r4.1).toNat) (default:Tq1)).2.2)).getD ((r4.1).toNat) (default:Tq1)).2.1,(min (((l7.set ((r4.1).toNat) ((l7.getD ((r4.1).toNat) (default:Tq1)).1,x3,(l7.getD ((r4.1).toNat) (default:Tq1)).2.2)).getD ((r4.1).toNat) (default:Tq1)).2.2+(1:Int)) (1000000000000:Int)))),(([111,107,32]:aaA)++r8))
 ) fun(K1:Ty7->Option (Ty7×aaA))=>
 if(!r4.2)then(
 (f210 r4.1 r5 ([(x2,[],(0:Int))])).bind fun r6=>
 K1 r6.1
 )else(
 K1 r5
 )
 )
theorem vF (x1:List Tq1) (x2 x3:aaA) (r:Ty7×aaA) (h:aC1 x1 x2 x3=some r):aG Tryz.prog 187 [(1,pT)] [] [] [vL 3 cN (default:Tq1) x1,.str x2,.str x3] (.tup [vL 3 cN (default:Tq1) r.1,.str r.2]) []:=by
 unfold aC1 at h;refine aG.body 0 _ _ Tryz.func187 rfl Tryz.ntmps187 rfl rfl ?_;refine aN [] [] [0,1,2,1000001] [] trivial ?_;refine aaE ?_;obtain⟨r4,hr4,h⟩:=bind_ok h;refine aZ [] [(2,⟨[bA x1,.str x2],[],[],[],.tup [.i r4.1,.bool r4.2],[],[],[]⟩)] [0,1,2,8,9,1000001] [] (an1 (cpT (f186_ok _ _ _ hr4))) ?_;refine tN (aaE (aaE (aZ [] [] [0,1,2,8,9,22,1000001] [] (an3 (an1 (idA (((!r4.2)==true)=true))) (an1 (idA (((!r4.2)==true)=true))) (bqA (!r4.2) true)) ?_)));refine tN (cK ((!r4.2)&&(decide ((lZ x1)>=(64:Int)))) (fun hc1=> ?_) fun hc1=> ?_)
 ·replace h:=aE hc1 h;refine bC [] [] ⟨58,[(6,bA x1),(7,.str ([102,117,108,108]:aaA))],[],[],0⟩ trivial ?_;obtain rfl:=aaD h;refine aaH (tR ?_);exact bK
 ·replace h:=aF hc1 h;refine aaG (tN (aaE ?_));obtain⟨r5,hr5,h⟩:=bind_ok h;refine aZ [] [(1,⟨[bA x1],[],[],(f187z2 r5),.own 6001,[6001],[],[]⟩)] [0,1,2,8,9,1000001] [6001] (an1 (cpT (aG.ren (aV 3000 6001) (aD 3000 6001) rfl (f189_ok _ _ hr5)))) ?_;refine tN ?_;obtain⟨K1,hK1,h⟩:=aI h;refine aaR (α:=List Tq1) (fun(l7:List Tq1)=>⟨58,(f187z0 x3 r4),[(6001,aS l7)],[],0⟩) (fun x=>K1 x=some r) ?_ ?_
  ·refine bC [] [] ⟨58,[(0,.own 6001),(1,.str x2),(2,.str x3),(8,.i r4.1),(27,.bool (!r4.2)),(1000001,pT)],(f187z2 r5),[],0⟩ trivial ?_;refine cK (!r4.2) (fun hc2=> ?_) fun hc2=> ?_
   ·replace h:=aE hc2 h;obtain⟨r6,hr6,h⟩:=bind_ok h;refine aZ [] [(5,⟨[.own 6001,.i r4.1,.own 32],[6001,32],[32],[(6001,aS r6.1),(32,aS r6.2)],.own 6001,[6001],[],[]⟩)] [0,2,8,1000001] [6001] (an1 (cpT (Spec.heap (h0:=[(6001,aS r5),(32,.rows 202 3 1 (dE 3 [.str x2,.str [],.i (0:Int)]))]) (aG.ren (aV 2001 32) (aD 2001 32) rfl (aG.ren (aV 2000 6001) (aD 2000 6001) rfl (f210_ok _ _ _ _ hr6))) ⟨⟨_,rfl,.refl _⟩,⟨_,rfl,(acE (acM (enc:=cN) [(x2,[],(0:Int))] rfl rfl (fun _=>rfl)))⟩,trivial⟩))) ?_;exact jN (r6.1) LR h
   ·replace h:=aF hc2 h;refine aaG ?_;exact jN (r5) LR h
  ·rintro l7 h;replace h:=(congrFun hK1 _).symm.trans h;refine aaE ?_;obtain⟨ob3,ob4,h⟩:=ck2 h;refine bB [] [] ⟨58,(aBC r4),[(6001,.rows 202 3 (l7).length (aC0 (bY cN aQ l7) ((r4.1).toNat) 1 [.str x3]))],[],0⟩ (an2 ob3 ob4) ?_;refine tN ?_;refine aaS (acO (s':=⟨58,(aBC r4),[(6001,aS (l7.set ((r4.1).toNat) ((l7.getD ((r4.1).toNat) aQ).1,x3,(l7.getD ((r4.1).toNat) aQ).2.2)))],[],0⟩) rfl rfl ⟨.refl _,.refl _,.refl _,trivial⟩ ⟨⟨_,rfl,(acE (RL.set ((l7.getD ((r4.1).toNat) aQ).1,x3,(l7.getD ((r4.1).toNat) aQ).2.2) (acH _) (by intro j hj;match j,hj with|0,_=>rfl|1,_=>rfl|2,_=>rfl)))⟩,trivial⟩) ?_;refine aaE ?_;obtain⟨ob5,ob6,ob7,ob8,ob9,h⟩:=ck5 h;refine bB [] [] ⟨58,(aBC r4),[(6001,.rows 202 3 ((l7.set ((r4.1).toNat) ((l7.getD ((r4.1).toNat) aQ).1,x3,(l7.getD ((r4.1).toNat) aQ).2.2))).length (aC0 (bY cN aQ (l7.set ((r4.1).toNat) ((l7.getD ((r4.1).toNat) aQ).1,x3,(l7.getD ((r4.1).toNat) aQ).2.2))) ((r4.1).toNat) 2 [.i (min (((l7.set ((r4.1).toNat) ((l7.getD ((r4.1).toNat) aQ).1,x3,(l7.getD ((r4.1).toNat) aQ).2.2)).getD ((r4.1).toNat) aQ).2.2+(1:Int)) (rJ))]))],[],0⟩ (an5 ob5 ob6 ob7 ob8 ob9) ?_;refine tN ?_;refine aaS (acO (s':=⟨58,(aBC r4),[(6001,aS ((l7.set ((r4.1).toNat) ((l7.getD ((r4.1).toNat) aQ).1,x3,(l7.getD ((r4.1).toNat) aQ).2.2)).set ((r4.1).toNat) (((l7.set ((r4.1).toNat) ((l7.getD ((r4.1).toNat) aQ).1,x3,(l7.getD ((r4.1).toNat) aQ).2.2)).getD ((r4.1).toNat) aQ).1,((l7.set ((r4.1).toNat) ((l7.getD ((r4.1).toNat) aQ).1,x3,(l7.getD ((r4.1).toNat) aQ).2.2)).getD ((r4.1).toNat) aQ).2.1,(min (((l7.set ((r4.1).toNat) ((l7.getD ((r4.1).toNat) aQ).1,x3,(l7.getD ((r4.1).toNat) aQ).2.2)).getD ((r4.1).toNat) aQ).2.2+(1:Int)) (rJ)))))],[],0⟩) rfl rfl ⟨.refl _,.refl _,.refl _,trivial⟩ ⟨⟨_,rfl,(acE (RL.set (((l7.set ((r4.1).toNat) ((l7.getD ((r4.1).toNat) aQ).1,x3,(l7.getD ((r4.1).toNat) aQ).2.2)).getD ((r4.1).toNat) aQ).1,((l7.set ((r4.1).toNat) ((l7.getD ((r4.1).toNat) aQ).1,x3,(l7.getD ((r4.1).toNat) aQ).2.2)).getD ((r4.1).toNat) aQ).2.1,(min (((l7.set ((r4.1).toNat) ((l7.getD ((r4.1).toNat) aQ).1,x3,(l7.getD ((r4.1).toNat) aQ).2.2)).getD ((r4.1).toNat) aQ).2.2+(1:Int)) (rJ))) (acH _) (by intro j hj;match j,hj with|0,_=>rfl|1,_=>rfl|2,_=>rfl)))⟩,trivial⟩) ?_;refine aaE ?_;obtain⟨r8,hr8,h⟩:=bind_ok h;obtain⟨ob10,ob11,ob12,h⟩:=ck3 h;refine bB [] [(6,⟨[.i (((l7.set ((r4.1).toNat) ((l7.getD ((r4.1).toNat) aQ).1,x3,(l7.getD ((r4.1).toNat) aQ).2.2)).set ((r4.1).toNat) (((l7.set ((r4.1).toNat) ((l7.getD ((r4.1).toNat) aQ).1,x3,(l7.getD ((r4.1).toNat) aQ).2.2)).getD ((r4.1).toNat) aQ).1,((l7.set ((r4.1).toNat) ((l7.getD ((r4.1).toNat) aQ).1,x3,(l7.getD ((r4.1).toNat) aQ).2.2)).getD ((r4.1).toNat) aQ).2.1,(min (((l7.set ((r4.1).toNat) ((l7.getD ((r4.1).toNat) aQ).1,x3,(l7.getD ((r4.1).toNat) aQ).2.2)).getD ((r4.1).toNat) aQ).2.2+(1:Int)) (rJ)))).getD ((r4.1).toNat) aQ).2.2],[],[],[],.str r8,[],[],[1]⟩)] ⟨58,[(6,.own 6001),(7,.str (([111,107,32]:aaA)++r8)),(1000001,pT)],[(6001,aS ((l7.set ((r4.1).toNat) ((l7.getD ((r4.1).toNat) aQ).1,x3,(l7.getD ((r4.1).toNat) aQ).2.2)).set ((r4.1).toNat) (((l7.set ((r4.1).toNat) ((l7.getD ((r4.1).toNat) aQ).1,x3,(l7.getD ((r4.1).toNat) aQ).2.2)).getD ((r4.1).toNat) aQ).1,((l7.set ((r4.1).toNat) ((l7.getD ((r4.1).toNat) aQ).1,x3,(l7.getD ((r4.1).toNat) aQ).2.2)).getD ((r4.1).toNat) aQ).2.1,(min (((l7.set ((r4.1).toNat) ((l7.getD ((r4.1).toNat) aQ).1,x3,(l7.getD ((r4.1).toNat) aQ).2.2)).getD ((r4.1).toNat) aQ).2.2+(1:Int)) (rJ)))))],[],0⟩ (an4 ob10 ob11 (cpT (iO _ _ hr8)) ob12) ?_;refine tN (aaS (aaI (adI 6001 rfl rfl) (LR (s':=⟨58,[(6,bA ((l7.set ((r4.1).toNat) ((l7.getD ((r4.1).toNat) aQ).1,x3,(l7.getD ((r4.1).toNat) aQ).2.2)).set ((r4.1).toNat) (((l7.set ((r4.1).toNat) ((l7.getD ((r4.1).toNat) aQ).1,x3,(l7.getD ((r4.1).toNat) aQ).2.2)).getD ((r4.1).toNat) aQ).1,((l7.set ((r4.1).toNat) ((l7.getD ((r4.1).toNat) aQ).1,x3,(l7.getD ((r4.1).toNat) aQ).2.2)).getD ((r4.1).toNat) aQ).2.1,(min (((l7.set ((r4.1).toNat) ((l7.getD ((r4.1).toNat) aQ).1,x3,(l7.getD ((r4.1).toNat) aQ).2.2)).getD ((r4.1).toNat) aQ).2.2+(1:Int)) (rJ))))),(7,.str (([111,107,32]:aaA)++r8)),(1000001,pT)],[],[],0⟩))) ?_);obtain rfl:=aaD h;refine aaS (LR (s':=⟨58,[(6,bA ((l7.set ((r4.1).toNat) ((l7.getD ((r4.1).toNat) aQ).1,x3,(l7.getD ((r4.1).toNat) aQ).2.2)).set ((r4.1).toNat) (((l7.set ((r4.1).toNat) ((l7.getD ((r4.1).toNat) aQ).1,x3,(l7.getD ((r4.1).toNat) aQ).2.2)).getD ((r4.1).toNat) aQ).1,((l7.set ((r4.1).toNat) ((l7.getD ((r4.1).toNat) aQ).1,x3,(l7.getD ((r4.1).toNat) aQ).2.2)).getD ((r4.1).toNat) aQ).2.1,(min (((l7.set ((r4.1).toNat) ((l7.getD ((r4.1).toNat) aQ).1,x3,(l7.getD ((r4.1).toNat) aQ).2.2)).getD ((r4.1).toNat) aQ).2.2+(1:Int)) (rJ))))),(7,.str (([111,107,32]:aaA)++r8))],[],[],0⟩)) ?_;refine aaH ?_;exact bK
def f188 (x2 x3:Int) (x1:List Tq1):Option Ty7:=
 if 0<=x2/\x2<x3/\x3.toNat<=x1.length then some (x1.take x2.toNat++x1.drop x3.toNat)else none
theorem f188_ok (x2 x3:Int) (x1 r:List Tq1) (h:f188 x2 x3 x1=some r):aG Tryz.prog 188 [] [] [(2000,bL 202 3 cN (default:Tq1) x1)] [.own 2000,.i x2,.i x3] (.own 2000) [(2000,bL 202 3 cN (default:Tq1) r)]:=by
 unfold f188 at h;split at h
 ·rename_i hc;cases h;have:=delK_spec 3 202 cN aQ delW x1 x2.toNat x3.toNat (by omega) hc.2.2;rw[aeM hc.1,aeM (by omega:0<=x3)]at this;exact this
 ·cases h
def aCN (x1:List Tq1) (x2:Int) (x3 x4 x5:aaA):Option (Ty7×aaA):=
 (f185 x2 x3 x4 x5).bind fun r6=>
 if(!r6.2.2.2.2)then(
 some (x1,cs3)
 )else(
 (f186 x1 x3).bind fun r7=>
 if(x2==(6:Int))then(
 (f58 (((x1).length:Nat):Int)).bind fun r8=>
 chk (cs9.length+r8.length<=9223372036854775807)<|
 some (x1,(cs9++r8))
 )else(
 if(x2==(1:Int))then(
 (aC1 x1 x3 x5).bind fun r9=>
 some (r9.1,r9.2)
 )else(
 if((x2==(4:Int))&&(!r7.2))then(
 (aC1 x1 x3 x5).bind fun r10=>
 some (r10.1,r10.2)
 )else(
 if(!r7.2)then(
 some (x1,([110,111,110,101]:aaA))
 )else(
 chk (0<=r7.1/\r7.1<(((x1).length:Nat):Int))<|
 if(x2==(2:Int))then(
 (f58 ((x1.getD ((r7.1).toNat) (default:Tq1)).2.2)).bind fun r11=>
 chk (sO.length+((x1.getD ((r7.1).toNat) (default:Tq1)).2.1).length<=9223372036854775807)<|
 chk ((sO++((x1.getD ((r7.1).toNat) (default:Tq1)).2.1)).length+([32]:aaA).length<=9223372036854775807)<|
 chk (((sO++((x1.getD ((r7.1).toNat) (default:Tq1)).2.1))++([32]:aaA)).length+r11.length<=9223372036854775807)<|
 some (x1,(((sO++((x1.getD ((r7.1).toNat) (default:Tq1)).2.1))++([32]:aaA))++r11))
 )else(
 if(x2==(3:Int))then(
 (f189 x1).bind fun r12=>
 (f188 r7.1 (r7.1+(1:Int)) r12).bind fun r13=>
 chk (-9223372036854775808<=(r7.1+(1:Int))/\(r7.1+(1:Int))<=9223372036854775807)<|
 some (r13,([111,107]:aaA))
 )else(
 if(x2==(4:Int))then(
 chk ((((((x1.getD ((r7.1).toNat) (default:Tq1)).2.1).length:Nat):Int)+((x5.length:Nat):Int))<=9223372036854775807)<|
 if(decide ((((((x1.getD ((r7.1).toNat) (default:Tq1)).2.1).length+x5.length):Nat):Int)>(256:Int)))then(
 some (x1,([108,111,110,103]:aaA))
 )else(
 (aC1 x1 x3 (((x1.getD ((r7.1).toNat) (default:Tq1)).2.1)++x5)).bind fun r14=>
 chk (((x1.getD ((r7.1).toNat) (default:Tq1)).2.1).length+x5.length<=9223372036854775807)<|
 some (r14.1,r14.2)
 )
 )else(
 if(!(((x1.getD ((r7.1).toNat) (default:Tq1)).2.1)==x4))then(
 chk (([110,111,32]:aaA).length+((x1.getD ((r7.1).toNat) (default:Tq1)).2.1).length<=9223372036854775807)<|
 some (x1,(([110,111,32]:aaA)++((x1.getD ((r7.1).toNat) (default:Tq1)).2.1)))
 )else(
 (aC1 x1 x3 x5).bind fun r15=>
 some (r15.1,r15.2)
 )
 )
 )
 )
 )
 )
 )
 )
 )
theorem f153_ok (x1:List Tq1) (x2:Int) (x3 x4 x5:aaA) (r:Ty7×aaA) (h:aCN x1 x2 x3 x4 x5=some r):aG Tryz.prog 153 [(1,pT)] [] [] [vL 3 cN (default:Tq1) x1,.agg [.i x2,.str x3,.str x4,.str x5]] (.tup [vL 3 cN (default:Tq1) r.1,.str r.2]) []:=by
 unfold aCN at h;refine aG.body 0 _ _ Tryz.func153 rfl Tryz.ntmps153 rfl rfl ?_;refine aN [] [] [0,3,1000001] [3] trivial ?_;refine aaE (aaE ?_);obtain⟨r6,hr6,h⟩:=bind_ok h;refine aZ [] [(1,⟨[.agg [.i x2,.str x3,.str x4,.str x5]],[],[],[],.tup [.agg [.str r6.1,.bool r6.2.1,.bool r6.2.2.1,.bool r6.2.2.2.1],.bool r6.2.2.2.2],[],[],[]⟩)] [0,3,7,1000001] [3] (an2 (cpT (f185_ok _ _ _ _ _ hr6)) trivial) ?_;refine tN (aN [] [] [0,3,17,1000001] [3] trivial ?_);refine cK (!r6.2.2.2.2) (fun hc1=> ?_) fun hc1=> ?_
 ·replace h:=aE hc1 h;refine bC [] [] ⟨131,[(4,bA x1),(5,.str cs3)],[],[],0⟩ trivial ?_;obtain rfl:=aaD h;refine aaH (tR ?_);exact bK
 ·replace h:=aF hc1 h;refine aaG (tN (aaE ?_));obtain⟨r7,hr7,h⟩:=bind_ok h;refine aZ [] [(3,⟨[bA x1,.str x3],[],[],[],.tup [.i r7.1,.bool r7.2],[],[],[]⟩)] [0,3,8,9,1000001] [3] (an1 (cpT (f186_ok _ _ _ hr7))) ?_;refine tN (aaE (aaJ (aN [] [] [0,3,8,9,26,1000001] [3] trivial ?_)));refine cK (x2==(6:Int)) (fun hc2=> ?_) fun hc2=> ?_
  ·replace h:=aE hc2 h;refine aaE ?_;obtain⟨r8,hr8,h⟩:=bind_ok h;obtain⟨ob0,h⟩:=aB h;refine bB [] [(3,⟨[.i (lZ x1)],[],[],[],.str r8,[],[],[1]⟩)] ⟨131,[(4,bA x1),(5,.str (cs9++r8))],[],[],0⟩ (an2 (cpT (iO _ _ hr8)) ob0) ?_;refine tN ?_;obtain rfl:=aaD h;refine aaH (kR (tR ?_));exact bK
  ·replace h:=aF hc2 h;refine aN [] [] [0,3,8,9,35,1000001] [3] trivial ?_;refine cK (x2==(1:Int)) (fun hc3=> ?_) fun hc3=> ?_
   ·replace h:=aE hc3 h;refine aaE ?_;obtain⟨r9,hr9,h⟩:=bind_ok h;refine bB [] [(5,⟨[bA x1,.str x3,.str x5],[],[],[],.tup [bA r9.1,.str r9.2],[],[],[1]⟩)] ⟨131,[(4,bA r9.1),(5,.str r9.2)],[],[],0⟩ (an1 (cpT (vF _ _ _ _ hr9))) ?_;refine tN ?_;obtain rfl:=aaD h;refine aaH (kR (tR ?_));exact bK
   ·replace h:=aF hc3 h;refine aaE (aZ [] [] [0,3,8,9,47,1000001] [3] (an2 (an1 (idA (((x2==(4:Int))==true)=true))) (bqA (x2==(4:Int)) true)) ?_);refine tN (cK ((x2==(4:Int))&&(!r7.2)) (fun hc4=> ?_) fun hc4=> ?_)
    ·replace h:=aE hc4 h;refine aaE ?_;obtain⟨r10,hr10,h⟩:=bind_ok h;refine bB [] [(5,⟨[bA x1,.str x3,.str x5],[],[],[],.tup [bA r10.1,.str r10.2],[],[],[1]⟩)] ⟨131,[(4,bA r10.1),(5,.str r10.2)],[],[],0⟩ (an1 (cpT (vF _ _ _ _ hr10))) ?_;refine tN ?_;obtain rfl:=aaD h;refine aaH (kR (tR ?_));exact bK
    ·replace h:=aF hc4 h;refine aN [] [] [0,3,8,63,1000001] [3] trivial ?_;refine cK (!r7.2) (fun hc5=> ?_) fun hc5=> ?_
     ·replace h:=aE hc5 h;refine bC [] [] ⟨131,[(4,bA x1),(5,.str ([110,111,110,101]:aaA))],[],[],0⟩ trivial ?_;obtain rfl:=aaD h;refine aaH (kR (tR ?_));exact bK
     ·replace h:=aF hc5 h;refine aaG (kN (tN (aaE ?_)));obtain⟨ob3,h⟩:=aB h;refine aZ [] [] [0,3,8,10,1000001] [3,10] (an2 ob3 trivial) ?_;refine tN (aaE (aN [] [] [0,3,8,10,72,1000001] [3,10] trivial ?_));refine aaJ (aN [] [] [0,3,8,10,72,73,1000001] [3,10] trivial ?_);refine cK (x2==(2:Int)) (fun hc6=> ?_) fun hc6=> ?_
      ·replace h:=aE hc6 h;refine aaE ?_;obtain⟨r11,hr11,h⟩:=bind_ok h;obtain⟨ob4,ob5,ob6,h⟩:=ck3 h;refine bB [] [(7,⟨[.i (x1.getD ((r7.1).toNat) aQ).2.2],[],[],[],.str r11,[],[],[1]⟩)] ⟨131,[(4,bA x1),(5,.str (((sO++((x1.getD ((r7.1).toNat) aQ).2.1))++([32]:aaA))++r11))],[],[],0⟩ (an4 ob4 ob5 (cpT (iO _ _ hr11)) ob6) ?_;refine tN ?_;obtain rfl:=aaD h;refine aaH (kR (tR ?_));exact bK
      ·replace h:=aF hc6 h;refine aN [] [] [0,3,8,10,72,84,1000001] [3,10] trivial ?_;refine cK (x2==(3:Int)) (fun hc7=> ?_) fun hc7=> ?_
       ·replace h:=aE hc7 h;refine aaE ?_;obtain⟨r12,hr12,h⟩:=bind_ok h;obtain⟨r13,hr13,h⟩:=bind_ok h;obtain⟨ob7,h⟩:=aB h;refine bB [] [(1,⟨[bA x1],[],[],[(6001,aS r12)],.own 6001,[6001],[],[]⟩),(5,⟨[.own 6001,.i r7.1,.i (r7.1+(1:Int))],[6001],[],[(6001,aS r13)],.own 6001,[6001],[],[]⟩)] ⟨131,[(4,.own 6001),(5,.str ([111,107]:aaA)),(1000001,pT)],[(6001,aS r13)],[],0⟩ (an3 (cpT (aG.ren (aV 3000 6001) (aD 3000 6001) rfl (f189_ok _ _ hr12))) ob7 (cpT (aG.ren (aV 2000 6001) (aD 2000 6001) rfl (f188_ok _ _ _ _ hr13)))) ?_;refine tN (aaS (aaI (adI 6001 rfl rfl) (LR (s':=⟨131,[(4,bA r13),(5,.str ([111,107]:aaA)),(1000001,pT)],[],[],0⟩))) ?_);obtain rfl:=aaD h;refine aaS (LR (s':=⟨131,[(4,bA r13),(5,.str ([111,107]:aaA))],[],[],0⟩)) ?_;refine aaH (kR (tR ?_));exact bK
       ·replace h:=aF hc7 h;refine aN [] [] [0,3,10,92,1000001] [3,10] trivial ?_;refine cK (x2==(4:Int)) (fun hc8=> ?_) fun hc8=> ?_
        ·replace h:=aE hc8 h;refine aaE (aaE ?_);obtain⟨ob8p,h⟩:=aB h;have ob8: -9223372036854775808<=(((((x1.getD ((r7.1).toNat) aQ).2.1).length:Nat):Int)+((x5.length:Nat):Int))/\(((((x1.getD ((r7.1).toNat) aQ).2.1).length:Nat):Int)+((x5.length:Nat):Int))<=9223372036854775807:=⟨by omega,ob8p⟩;refine aZ [] [] [0,3,10,101,1000001] [3,10] (an1 ob8) ?_;refine tN (cK (decide ((((((x1.getD ((r7.1).toNat) aQ).2.1).length+x5.length):Nat):Int)>(256:Int))) (fun hc9=> ?_) fun hc9=> ?_)
         ·replace h:=aE hc9 h;refine bC [] [] ⟨131,[(4,bA x1),(5,.str ([108,111,110,103]:aaA))],[],[],0⟩ trivial ?_;obtain rfl:=aaD h;refine aaH (tR (kR (tR ?_)));exact bK
         ·replace h:=aF hc9 h;refine aaG (tN (aaE ?_));obtain⟨r14,hr14,h⟩:=bind_ok h;obtain⟨ob9,h⟩:=aB h;refine aZ [] [(8,⟨[bA x1,.str x3,.str (((x1.getD ((r7.1).toNat) aQ).2.1)++x5)],[],[],[],.tup [bA r14.1,.str r14.2],[],[],[1]⟩)] [4,5] [] (an2 ob9 (cpT (vF _ _ _ _ hr14))) ?_;refine tN ?_;obtain rfl:=aaD h;refine aaH (kR (tR ?_));exact bK
        ·replace h:=aF hc8 h;refine aaG (kN (tN (aaE (aN [] [] [0,3,10,118,1000001] [3,10] trivial ?_))));refine cK (!(((x1.getD ((r7.1).toNat) aQ).2.1)==x4)) (fun hc10=> ?_) fun hc10=> ?_
         ·replace h:=aE hc10 h;refine aaE ?_;obtain⟨ob10,h⟩:=aB h;refine bB [] [] ⟨131,[(4,bA x1),(5,.str (([110,111,32]:aaA)++((x1.getD ((r7.1).toNat) aQ).2.1)))],[],[],0⟩ (an1 ob10) ?_;refine tN ?_;obtain rfl:=aaD h;refine aaH (tR ?_);exact bK
         ·replace h:=aF hc10 h;refine aaG (tN (aaE ?_));obtain⟨r15,hr15,h⟩:=bind_ok h;refine aZ [] [(5,⟨[bA x1,.str x3,.str x5],[],[],[],.tup [bA r15.1,.str r15.2],[],[],[1]⟩)] [4,5] [] (an1 (cpT (vF _ _ _ _ hr15))) ?_;refine tN ?_;obtain rfl:=aaD h;refine aaH ?_;exact bK
def f154 (x1:List Tq0):Option Ty5:=
 abc ((x1).length=0) (
 some []
 ) (
 chk ((0+(x1).length) *32<=140737488355328)<|
 some ([]++x1)
 )
theorem f154_ok (x1 r:List Tq0) (h:f154 x1=some r):aG Tryz.prog 154 [] [] [] [vL 3 cC (default:Tq0) x1] (.own 3000) [(3000,bL 160 3 cC (default:Tq0) r)]:=by
 unfold f154 at h;refine aG.body 0 _ _ Tryz.func154 rfl Tryz.ntmps154 rfl rfl ?_;refine aN [] [] [0] [] trivial ?_;refine aaE (bC [] [] ⟨8,[(0,bH x1),(4,.abool (fun b=>b=true->(x1).length=0))],[],[],0⟩ trivial ?_);obtain⟨hA1,hB1⟩:=aB2 h;refine AWp.condAb (fun b=>b=true->(x1).length=0) (by kernel_rfl) (fun hc1=> ?_) (fun hc1=> ?_)
 ·have h:=hA1 (hc1 rfl);refine bC [] [] ⟨8,[(2,.nils)],[],[],0⟩ trivial ?_;refine aaS (aaI (adE 2 3000 160 3 (bY cC bE []) rfl rfl (aaW rfl)) (LR (s':=⟨8,[(2,.own 3000)],[(3000,bF [])],[],0⟩))) ?_;obtain rfl:=aaD h;refine aaS (LR (s':=⟨8,[(2,.own 3000)],[(3000,bF [])],[],0⟩)) ?_;refine aaH (tR ?_);exact bK
 ·have h:=hB1;refine aaG (tN (aaE ?_));obtain⟨ob0,h⟩:=aB h;refine bB [] [] ⟨8,[(2,.own 5)],[(5,.rows 160 3 (0+(x1).length) (fH 0 (dE 3 []) (bY cC bE x1)))],[],0⟩ (an1 ob0) ?_;refine tN (aaS (acO (s':=⟨8,[(2,.own 5)],[(5,bF ([]++x1))],[],0⟩) rfl rfl ⟨.refl _,trivial⟩ ⟨⟨_,rfl,(acE (adF (acM (enc:=cC) [] rfl rfl (fun _=>rfl)) (acH _)))⟩,trivial⟩) ?_);refine aaS (aaI (abX (aV 5 3000) (aD 5 3000) rfl) (LR (s':=⟨8,[(2,.own 3000)],[(3000,bF ([]++x1))],[],0⟩))) ?_;obtain rfl:=aaD h;refine aaS (LR (s':=⟨8,[(2,.own 3000)],[(3000,bF ([]++x1))],[],0⟩)) ?_;refine aaH ?_;exact bK
abbrev f155z0 (x2 x3:List Tq0):aJ:=[(2000,bL 160 3 cC (default:Tq0) x2),(2001,bL 160 3 cC (default:Tq0) x3)]
def f155e (x1:Int) (x2 x3:List Tq0):Option (Ty5×Ty5):=
 chk (0<=x1/\x1<=(((x2).length:Nat):Int))<|
 if((((x3).length:Nat):Int)==(0:Int))then(
 some (x2,x3)
 )else(
 if(x1==(((x2).length:Nat):Int))then(
 chk (((x2).length+(x3).length) *32<=140737488355328)<|
 some ((x2++x3),x3)
 )else(

 none
 )
 )
theorem f155e_ok (x1:Int) (x2 x3:List Tq0) (r:Ty5×Ty5) (h:f155e x1 x2 x3=some r):aG Tryz.prog 155 [] [2001] [(2000,bL 160 3 cC (default:Tq0) x2),(2001,bL 160 3 cC (default:Tq0) x3)] [.own 2000,.i x1,.own 2001] (.own 2000) [(2000,bL 160 3 cC (default:Tq0) r.1),(2001,bL 160 3 cC (default:Tq0) r.2)]:=by
 unfold f155e at h;refine aG.body 0 _ _ Tryz.func155 rfl Tryz.ntmps155 rfl rfl ?_;refine aN [] [] [0,1,2] [2000,2001] trivial ?_;refine aaE ?_;obtain⟨ob0,h⟩:=aB h;refine aZ [] [] [0,1,2] [2000,2001] (an1 ob0) ?_;refine tN (aN [] [] [0,1,2,7] [2000,2001] trivial ?_);refine aaE (aN [] [] [0,1,2,7,16] [2000,2001] trivial ?_);refine cK ((lZ x3)==(0:Int)) (fun hc1=> ?_) fun hc1=> ?_
 ·replace h:=aE hc1 h;refine bC [] [] ⟨95,[(6,.own 2000)],(f155z0 x2 x3),[2001],0⟩ trivial ?_;obtain rfl:=aaD h;refine aaH (tR ?_);exact bK
 ·replace h:=aF hc1 h;refine aaG (tN (aN [] [] [0,1,2,7,8] [2000,2001] trivial ?_));refine aaE (bC [] [] ⟨95,[(0,.own 2000),(1,.i x1),(2,.own 2001),(7,.i (lZ x3)),(8,.i (lZ x2)),(22,.bool (x1==(lZ x2)))],(f155z0 x2 x3),[2001],0⟩ trivial ?_);refine cK (x1==(lZ x2)) (fun hc2=> ?_) fun hc2=> ?_
  ·replace h:=aE hc2 h;refine aaE ?_;obtain⟨ob1,h⟩:=aB h;refine bB [] [] ⟨95,[(6,.own 2000)],[(2000,.rows 160 3 ((x2).length+(x3).length) (fH (x2).length (bY cC bE x2) (bY cC bE x3))),(2001,bF x3)],[2001],0⟩ (an1 ob1) ?_;refine tN (aaS (acO (s':=⟨95,[(6,.own 2000)],[(2000,bF (x2++x3)),(2001,bF x3)],[2001],0⟩) rfl rfl ⟨.refl _,trivial⟩ ⟨⟨_,rfl,(acE (adF (acH _) (acH _)))⟩,⟨_,rfl,.refl _⟩,trivial⟩) ?_);obtain rfl:=aaD h;refine aaS (LR (s':=⟨95,[(6,.own 2000)],[(2000,bF (x2++x3)),(2001,bF x3)],[2001],0⟩)) ?_;refine aaH (tR ?_);exact bK
  ·replace h:=aF hc2 h;refine aaG (tN (aaE (aaE ?_)));exact nEx h
def f155 (x2:Int) (x1 x3:List Tq0):Option (List (Int×Int×aaA)×List (Int×Int×aaA)):=
 if 0<=x2/\x2.toNat<x1.length/\0<x3.length/\(x1.length+x3.length) *32<=140737488355328 then some (x1.take x2.toNat++x3++x1.drop x2.toNat,x3)else f155e x2 x1 x3
theorem f155_ok (x2:Int) (x1 x3:List Tq0) (r:List Tq0×List Tq0) (h:f155 x2 x1 x3=some r):aG Tryz.prog 155 [] [2001] [(2000,bL 160 3 cC (default:Tq0) x1),(2001,bL 160 3 cC (default:Tq0) x3)] [.own 2000,.i x2,.own 2001] (.own 2000) [(2000,bL 160 3 cC (default:Tq0) r.1),(2001,bL 160 3 cC (default:Tq0) r.2)]:=by
 unfold f155 at h;split at h
 ·rename_i hc;cases h;have:=xE 3 (by decide) 160 32 cC bE insShift1 insGrow1 x1 x3 x2.toNat hc.2.1 hc.2.2.1 hc.2.2.2;rw[aeM hc.1]at this;exact this
 ·exact f155e_ok x2 x1 x3 r h
abbrev aBI (x1:List Tq1) (x2:List Tq0):List V:=[vL 3 cN (default:Tq1) x1,vL 3 cC (default:Tq0) x2]
abbrev yW (l11:List Tq1):List V:=[vL 3 cN (default:Tq1) l11,.own 6001]
abbrev f123z3 (s10:aaA):List (Nat×V):=[(2,.ptr 2 0),(4,.ptr 4 0),(8,.str s10),(1000001,pT)]
abbrev f123z4 (r8:Tq9):List V:=[.i r8.1,.str r8.2.1,.str r8.2.2.1,.str r8.2.2.2.1]
abbrev f123z5 (s10:aaA):List (Nat×V):=[(4,.ptr 4 0),(5,.str s10),(1000001,pT)]
def f123 (x1:List Tq1) (x2:List Tq0) (x3 x4:Int) (x5:aaA):Option aCY:=
 (f150 x3 x4).bind fun r6=>
 if(((!r6)||(x5==[]))||(decide (((x5.length:Nat):Int)>(200:Int))))then(
 some (x1,x2,cs3)
 )else(
 (f151 x2 x3).bind fun r7=>
 chk ((r7.2==true)=true->0<=r7.1/\r7.1<(((x2).length:Nat):Int))<|
 if(r7.2&&(decide ((x2.getD ((r7.1).toNat) (default:Tq0)).2.1>x4)))then(
 some (x1,x2,cs4)
 )else(
 chk ((r7.2==true)=true->0<=r7.1/\r7.1<(((x2).length:Nat):Int))<|
 if(r7.2&&((x2.getD ((r7.1).toNat) (default:Tq0)).2.1==x4))then(
 chk (0<=r7.1/\r7.1<(((x2).length:Nat):Int))<|
 some (x1,x2,(x2.getD ((r7.1).toNat) (default:Tq0)).2.2)
 )else(
 jn (fun((s10,l11):aaA×Ty7)=>
 (f154 x2).bind fun r12=>
 jn (fun(l13:List Tq0)=>
 some (l11,l13,s10)
 ) fun(K2:Ty5->Option aCY)=>
 if r7.2 then(
 chk (0<=r7.1/\r7.1<(((r12).length:Nat):Int))<|
 chk (((r7.1).toNat)<(r12).length)<|
 K2 (r12.set ((r7.1).toNat) (x3,x4,s10))
 )else(
 (f155 r7.1 r12 [(x3,x4,s10)]).bind fun r14=>
 K2 r14.1
 )
 ) fun(K1:(aaA×Ty7)->Option aCY)=>
 (f152 x5).bind fun r8=>
 if(r8.2.2.2.2==(0:Int))then(
 (aCN x1 r8.1 r8.2.1 r8.2.2.1 r8.2.2.2.1).bind fun r9=>
 K1 (r9.2,r9.1)
 )else(
 K1 (cs5,x1)
 )
 )
 )
 )
theorem f123_ok (x1:List Tq1) (x2:List Tq0) (x3 x4:Int) (x5:aaA) (r:Ty7×Ty5×aaA) (h:f123 x1 x2 x3 x4 x5=some r):aG Tryz.prog 123 [(1,pT)] [] [] [.agg [vL 3 cN (default:Tq1) x1,vL 3 cC (default:Tq0) x2],.agg [.i x3,.i x4,.str x5]] (.tup [.agg [vL 3 cN (default:Tq1) r.1,vL 3 cC (default:Tq0) r.2.1],.str r.2.2]) []:=by
 unfold f123 at h;refine aG.bodyD [4] 0 _ _ Tryz.func123 rfl Tryz.ntmps123 rfl rfl ?_;refine aN [] [] [2,3,4,1000001] [2,3,4] trivial ?_;refine aaE (aaE ?_);obtain⟨r6,hr6,h⟩:=bind_ok h;refine aZ [] [(4,⟨[.i x3,.i x4],[],[],[],.bool r6,[],[],[]⟩)] [2,3,4,28,1000001] [2,3,4] (ac6 (cpT (f150_ok _ _ _ hr6)) (an1 (idA (((!r6)==false)=true))) (an1 (idA (((!r6)==false)=true))) (bqA (!r6) false) (an1 (idA ((((!r6)||(x5==[]))==false)=true))) (an1 (idA ((((!r6)||(x5==[]))==false)=true))) (an2 (an1 (idA ((((!r6)||(x5==[]))==false)=true))) (bqA ((!r6)||(x5==[])) false))) ?_;refine tN (cK (((!r6)||(x5==[]))||(decide ((lZ x5)>(200:Int)))) (fun hc1=> ?_) fun hc1=> ?_)
 ·replace h:=aE hc1 h;refine bC [] [] ⟨111,[(4,.ptr 4 0),(5,.str cs3)],[(4,.cells 92 (aBI x1 x2))],[],0⟩ (an1 trivial) ?_;obtain rfl:=aaD h;refine aaH (tR ?_);exact bD
 ·replace h:=aF hc1 h;refine aaG (tN (aaE ?_));obtain⟨r7,hr7,h⟩:=bind_ok h;refine aZ [] [(4,⟨[bH x2,.i x3],[],[],[],.tup [.i r7.1,.bool r7.2],[],[],[]⟩)] [2,3,4,6,7,1000001] [2,3,4] (an1 (cpT (f151_ok _ _ _ hr7))) ?_;refine tN (aaE (aaE ?_));obtain⟨ob8,h⟩:=aB h;refine aZ [] [] [2,3,4,6,7,49,1000001] [2,3,4] (ac6 (an1 (idA ((r7.2==true)=true))) (aaK ob8 (an2 (idA ((r7.2==true)=true)) (idA ((r7.2==true)=true)))) (an1 (idA ((r7.2==true)=true))) (an1 (idA ((r7.2==true)=true))) (an1 (idA ((r7.2==true)=true))) (an2 (idA ((r7.2==true)=true)) (idA ((r7.2==true)=true))) (an1 (bqA (r7.2) true))) ?_;refine tN (cK (r7.2&&(decide ((x2.getD ((r7.1).toNat) bE).2.1>x4))) (fun hc2=> ?_) fun hc2=> ?_)
  ·replace h:=aE hc2 h;refine bC [] [] ⟨111,[(4,.ptr 4 0),(5,.str cs4)],[(4,.cells 92 (aBI x1 x2))],[],0⟩ (an1 trivial) ?_;obtain rfl:=aaD h;refine aaH (tR ?_);exact bD
  ·replace h:=aF hc2 h;refine aaG (tN (aaE (aaE ?_)));obtain⟨ob18,h⟩:=aB h;refine aZ [] [] [2,3,4,6,7,62,1000001] [2,3,4] (ac6 (an1 (idA ((r7.2==true)=true))) (aaK ob18 (an2 (idA ((r7.2==true)=true)) (idA ((r7.2==true)=true)))) (an1 (idA ((r7.2==true)=true))) (an1 (idA ((r7.2==true)=true))) (an1 (idA ((r7.2==true)=true))) (an2 (idA ((r7.2==true)=true)) (idA ((r7.2==true)=true))) (an1 (bqA (r7.2) true))) ?_;refine tN (cK (r7.2&&((x2.getD ((r7.1).toNat) bE).2.1==x4)) (fun hc3=> ?_) fun hc3=> ?_)
   ·replace h:=aE hc3 h;refine aaE ?_;obtain⟨ob27,h⟩:=aB h;refine bB [] [] ⟨111,[(4,.ptr 4 0),(5,.str (x2.getD ((r7.1).toNat) bE).2.2)],[(4,.cells 92 (aBI x1 x2))],[],0⟩ (an2 ob27 trivial) ?_;refine tN ?_;obtain rfl:=aaD h;refine aaH (tR ?_);exact bD
   ·replace h:=aF hc3 h;refine aaG (tN (aN [] [] [2,3,4,6,7,8,1000001] [2,3,4] trivial ?_));obtain⟨K1,hK1,h⟩:=aI h;refine aaR (fun(x:aaA×Ty7)=>match x with|(s10,l11)=>⟨111,[(2,.ptr 2 0),(3,.ptr 3 0),(4,.ptr 4 0),(6,.i r7.1),(7,.bool r7.2),(8,.str s10),(1000001,pT)],[(2,.cells 92 [bA l11,bH x2]),(3,.cells 88 [.i x3,.i x4,.str x5]),(4,.cells 92 [.nils,.nils])],[],0⟩) (fun x=>K1 x=some r) ?_ ?_
    ·refine aaE ?_;obtain⟨r8,hr8,h⟩:=bind_ok h;refine aZ [] [(2,⟨[.str x5],[],[],[],.tup [.agg (f123z4 r8),.i r8.2.2.2.2],[],[],[]⟩)] [2,3,4,6,7,8,9,10,1000001] [2,3,4,9] (an2 (cpT (f152_ok _ _ hr8)) trivial) ?_;refine tN (bC [] [] ⟨111,[(2,.ptr 2 0),(3,.ptr 3 0),(4,.ptr 4 0),(6,.i r7.1),(7,.bool r7.2),(8,.str cs5),(9,.ptr 9 0),(77,.bool (r8.2.2.2.2==(0:Int))),(1000001,pT)],[(2,.cells 92 (aBI x1 x2)),(3,.cells 88 [.i x3,.i x4,.str x5]),(4,.cells 92 [.nils,.nils]),(9,.cells 164 (f123z4 r8))],[],0⟩ trivial ?_);refine cK (r8.2.2.2.2==(0:Int)) (fun hc4=> ?_) fun hc4=> ?_
     ·replace h:=aE hc4 h;obtain⟨r9,hr9,h⟩:=bind_ok h;refine aZ [] [(3,⟨[bA x1,.agg (f123z4 r8)],[],[],[],.tup [bA r9.1,.str r9.2],[],[],[1]⟩)] [2,3,4,6,7,8,1000001] [2,3,4] (an2 (cpT (f153_ok _ _ _ _ _ _ hr9)) trivial) ?_;exact jN (r9.2,r9.1) LR h
     ·replace h:=aF hc4 h;refine aaG ?_;exact jN (cs5,x1) LR h
    ·rintro⟨s10,l11⟩ h;replace h:=(congrFun hK1 _).symm.trans h;refine aN [] [] [2,4,6,7,8,11,1000001] [2,4,11] (an1 trivial) ?_;refine aaE ?_;obtain⟨r12,hr12,h⟩:=bind_ok h;refine bB [] [(2,⟨[bH x2],[],[],[(6001,bF r12)],.own 6001,[6001],[],[]⟩)] ⟨111,[(2,.ptr 2 0),(4,.ptr 4 0),(6,.i r7.1),(7,.bool r7.2),(8,.str s10),(11,.ptr 11 0),(1000001,pT)],[(2,.cells 92 (yW l11)),(4,.cells 92 [.nils,.nils]),(11,.cells 160 [.i x3,.i x4,.str s10]),(6001,bF r12)],[],0⟩ (an2 (cpT (aG.ren (aV 3000 6001) (aD 3000 6001) rfl (f154_ok _ _ hr12))) trivial) ?_;refine tN ?_;obtain⟨K2,hK2,h⟩:=aI h;refine aaR (α:=List Tq0) (fun(l13:List Tq0)=>⟨111,(f123z3 s10),[(2,.cells 92 (yW l11)),(4,.cells 92 [.nils,.nils]),(6001,bF l13)],[],0⟩) (fun x=>K2 x=some r) ?_ ?_
     ·refine aN [] [] [2,4,6,8,11,96,1000001] [2,4,11,6001] trivial ?_;refine cK r7.2 (fun hc5=> ?_) fun hc5=> ?_
      ·replace h:=aE hc5 h;obtain⟨ob28,ob29,h⟩:=ck2 h;refine bB [] [] ⟨111,(f123z3 s10),[(2,.cells 92 (yW l11)),(4,.cells 92 [.nils,.nils]),(6001,.rows 160 3 (r12).length (aC0 (bY cC bE r12) ((r7.1).toNat) 0 [.i x3,.i x4,.str s10]))],[],0⟩ (an2 ob28 ob29) ?_;exact jN ((r12.set ((r7.1).toNat) (x3,x4,s10))) (aaI (acO (s':=⟨111,(f123z3 s10),[(2,.cells 92 (yW l11)),(4,.cells 92 [.nils,.nils]),(6001,bF (r12.set ((r7.1).toNat) (x3,x4,s10)))],[],0⟩) rfl rfl ⟨.refl _,.refl _,.refl _,.refl _,trivial⟩ ⟨⟨_,rfl,.refl _⟩,⟨_,rfl,.refl _⟩,⟨_,rfl,(acE (RL.set (x3,x4,s10) (acH _) (by intro j hj;match j,hj with|0,_=>rfl|1,_=>rfl|2,_=>rfl)))⟩,trivial⟩) LR) h
      ·replace h:=aF hc5 h;obtain⟨r14,hr14,h⟩:=bind_ok h;refine aZ [] [(5,⟨[.own 6001,.i r7.1,.own 106],[6001,106],[106],[(6001,bF r14.1),(106,bF r14.2)],.own 6001,[6001],[],[]⟩)] [2,4,8,1000001] [2,4,6001] (an2 (cpT (Spec.heap (h0:=[(6001,bF r12),(106,.rows 160 3 1 (dE 3 [.i x3,.i x4,.str s10]))]) (aG.ren (aV 2001 106) (aD 2001 106) rfl (aG.ren (aV 2000 6001) (aD 2000 6001) rfl (f155_ok _ _ _ _ hr14))) ⟨⟨_,rfl,.refl _⟩,⟨_,rfl,(acE (acM (enc:=cC) [(x3,x4,s10)] rfl rfl (fun _=>rfl)))⟩,trivial⟩)) trivial) ?_;exact jN (r14.1) LR h
     ·rintro l13 h;replace h:=(congrFun hK2 _).symm.trans h;refine bC [] [] ⟨111,(f123z5 s10),[(4,.cells 92 (yW l11)),(6001,bF l13)],[],0⟩ (an1 trivial) ?_;refine aaS (aaI (adI 6001 rfl rfl) (LR (s':=⟨111,(f123z5 s10),[(4,.cells 92 [bA l11,bH l13])],[],0⟩))) ?_;obtain rfl:=aaD h;refine aaS (LR (s':=⟨111,[(4,.ptr 4 0),(5,.str s10)],[(4,.cells 92 [bA l11,bH l13])],[],0⟩)) ?_;refine aaH ?_;exact bD
def oD (r4:Int×Int×Ty5×Int) (K1:(Ty7×Ty5×Ty5)->Option (Ty7×Ty5×Ty5)):Nat->(Nat×Ty7×Ty5×Ty5)->Option (Ty7×Ty5×Ty5)
 |0,_=>none
 |k+1,(n5,l6,l7,l8)=>
  if(decide ((n5:Int)<(((r4.2.2.1).length:Nat):Int)))then(
  chk ((n5:Int)<(((r4.2.2.1).length:Nat):Int))<|
  (f123 l6 l7 ((r4.2.2.1.getD n5 (default:Tq0)).1) ((r4.2.2.1.getD n5 (default:Tq0)).2.1) ((r4.2.2.1.getD n5 (default:Tq0)).2.2)).bind fun r9=>
  chk (((l8).length+1) *32<=140737488355328)<|
  chk (((n5:Int)+(1:Int))<=9223372036854775807)<|
  (oD r4 K1 k) ((n5+1),r9.1,r9.2.1,(l8++[((r4.2.2.1.getD n5 (default:Tq0)).1,(r4.2.2.1.getD n5 (default:Tq0)).2.1,r9.2.2)]))
  )else(
  K1 (l6,l7,l8)
  )
abbrev f90z0 (x1:List Tq1) (x2:List Tq0):List V:=[vL 3 cN (default:Tq1) x1,vL 3 cC (default:Tq0) x2]
abbrev rB (r4:Int×Int×Ty5×Int) (n5:Nat):=(r4.2.2.1.getD n5 (default:Tq0))
abbrev f90z2 (r4:Int×Int×Ty5×Int) (n5:Nat):List (Nat×V):=[(2,.ptr 2 0),(4,.ptr 4 0),(8,.own 5008),(21,vL 3 cC (default:Tq0) r4.2.2.1),(22,.i (((r4.2.2.1).length:Nat):Int)),(23,.i (n5:Int)),(1000001,pT),(1000002,bT),(1000003,bT)]
abbrev f90z3 (r9:Ty7×Ty5×aaA):List V:=[vL 3 cN (default:Tq1) r9.1,vL 3 cC (default:Tq0) r9.2.1]
abbrev f90z4 (l6:List Tq1) (l7:List Tq0):List V:=[vL 3 cN (default:Tq1) l6,vL 3 cC (default:Tq0) l7]
abbrev f90z5 (l10:List Tq1) (l11:List Tq0):List V:=[vL 3 cN (default:Tq1) l10,vL 3 cC (default:Tq0) l11]
abbrev f90z6 (r4:Int×Int×Ty5×Int):List V:=[.i r4.1,.i r4.2.1,vL 3 cC (default:Tq0) r4.2.2.1]
abbrev f90z7 (r4:Int×Int×Ty5×Int) (n5:Nat):List V:=[.i (rB r4 n5).1,.i (rB r4 n5).2.1,.str (rB r4 n5).2.2]
abbrev f90z8 :=Ty5
abbrev f90z9 (r9:Ty7×Ty5×aaA) (l8:List Tq0) (r4:Int×Int×Ty5×Int) (n5:Nat):aJ:=[(2,.cells 92 (f90z3 r9)),(4,.cells 92 [.nils,.nils]),(5008,bL 98 3 cC (default:Tq0) (l8++[((rB r4 n5).1,(rB r4 n5).2.1,r9.2.2)]))]
abbrev f90z10 (l6:List Tq1) (l7 l8:List Tq0):aJ:=[(2,.cells 92 (f90z4 l6 l7)),(4,.cells 92 [.nils,.nils]),(5008,bL 98 3 cC (default:Tq0) l8)]
def f90 (x1:List Tq1) (x2:List Tq0) (x3:aaA):Option (Ty7×Ty5×Ty5):=
 (f68 x3).bind fun r4=>
 if(r4.2.2.2 !=(0:Int))then(
 some (x1,x2,[])
 )else(
 jn (fun((l10,l11,l12):Ty7×Ty5×Ty5)=>
 some (l10,l11,l12)
 ) fun(K1:(Ty7×Ty5×Ty5)->Option (Ty7×Ty5×Ty5))=>
 oD r4 K1 aY (0,x1,x2,[])
 )
theorem f90_ok (x1:List Tq1) (x2:List Tq0) (x3:aaA) (r:Ty7×Ty5×Ty5) (h:f90 x1 x2 x3=some r):aG Tryz.prog 90 [(1,pT),(2,bT),(3,bT)] [] [] [.agg [vL 3 cN (default:Tq1) x1,vL 3 cC (default:Tq0) x2],.str x3] (.tup [.agg [vL 3 cN (default:Tq1) r.1,vL 3 cC (default:Tq0) r.2.1],.own 3000]) [(3000,bL 98 3 cC (default:Tq0) r.2.2)]:=by
 unfold f90 at h;refine aG.bodyD [4] 0 _ _ Tryz.func90 rfl Tryz.ntmps90 rfl rfl ?_;refine aN [] [] [1,2,4,1000001,1000002,1000003] [2,4] trivial ?_;refine aaE ?_;obtain⟨r4,hr4,h⟩:=bind_ok h;refine aZ [] [(1,⟨[.str x3],[],[],[],.tup [.agg (f90z6 r4),.i r4.2.2.2],[],[],[1,2,3]⟩)] [2,4,6,7,1000001,1000002,1000003] [2,4,6] (an2 (cpT (f68_ok _ _ hr4)) trivial) ?_;refine tN (aaE (aN [] [] [2,4,6,18,1000001,1000002,1000003] [2,4,6] trivial ?_));refine cK (r4.2.2.2 !=(0:Int)) (fun hc1=> ?_) fun hc1=> ?_
 ·replace h:=aE hc1 h;refine bC [] [] ⟨45,[(4,.ptr 4 0),(5,.nils),(1000001,pT),(1000002,bT),(1000003,bT)],[(4,.cells 92 (f90z0 x1 x2))],[],0⟩ (an1 trivial) ?_;refine aaS (aaI (adE 5 3000 98 3 (bY cC bE []) rfl rfl (aaW rfl)) (LR (s':=⟨45,[(4,.ptr 4 0),(5,.own 3000),(1000001,pT),(1000002,bT),(1000003,bT)],[(4,.cells 92 (f90z0 x1 x2)),(3000,cD [])],[],0⟩))) ?_;obtain rfl:=aaD h;refine aaS (LR (s':=⟨45,[(4,.ptr 4 0),(5,.own 3000)],[(3000,cD []),(4,.cells 92 (f90z0 x1 x2))],[],0⟩)) ?_;refine aaH (tR ?_);exact bD
 ·replace h:=aF hc1 h;refine aaG (tN (aN [] [] [2,4,6,8,1000001,1000002,1000003] [2,4,6] trivial ?_));obtain⟨K1,hK1,h⟩:=aI h;refine aaR (fun(x:Ty7×(f90z8)×(f90z8))=>match x with|(l10,l11,l12)=>⟨45,[(2,.ptr 2 0),(4,.ptr 4 0),(8,.own 5008),(1000001,pT),(1000002,bT),(1000003,bT)],[(2,.cells 92 (f90z5 l10 l11)),(4,.cells 92 [.nils,.nils]),(5008,cD l12)],[],0⟩) (fun x=>K1 x=some r) ?_ ?_
  ·refine bC [] [] ⟨45,[(2,.ptr 2 0),(4,.ptr 4 0),(8,.nils),(21,bH r4.2.2.1),(22,.i (lZ r4.2.2.1)),(23,.i (0:Int)),(1000001,pT),(1000002,bT),(1000003,bT)],[(2,.cells 92 (f90z0 x1 x2)),(4,.cells 92 [.nils,.nils])],[],0⟩ trivial ?_;refine aaJ (abG (α:=Nat×(Nat×Ty7×(f90z8)×(f90z8))) (fun x=>match x with|(_,n5,l6,l7,l8)=>⟨45,(f90z2 r4 n5),(f90z10 l6 l7 l8),[],0⟩) (fun x=>oD r4 K1 x.1 x.2=some r) (fun x=>x.1) (aY,0,x1,x2,[]) (aaI (aaI (adE 8 5008 98 3 (bY cC bE []) rfl rfl (aaW rfl)) (LR (s':=⟨45,[(2,.ptr 2 0),(4,.ptr 4 0),(8,.own 5008),(21,bH r4.2.2.1),(22,.i (lZ r4.2.2.1)),(23,.i (0:Int)),(1000001,pT),(1000002,bT),(1000003,bT)],[(2,.cells 92 (f90z0 x1 x2)),(4,.cells 92 [.nils,.nils]),(5008,cD [])],[],0⟩))) LR) h ?_)
   rintro⟨k0,n5,l6,l7,l8⟩ h
   cases k0 with
   |zero=>exact nEx h
   |succ k0=>
   obtain⟨C0,hC0⟩:∃C,C=oD r4 K1 k0:=⟨_,rfl⟩;replace h:=(oD.eq_2 ..).symm.trans h
   try rw[<-hC0]at h
   refine aN [] [] [2,4,8,21,22,23,24,1000001,1000002,1000003] [2,4,5008] trivial ?_;refine aaE (cK (decide ((n5:Int)<(lZ r4.2.2.1))) (fun hc2=> ?_) fun hc2=> ?_)
   ·replace h:=aE hc2 h;refine aaG (tN (aaE (aaJ (aaE ?_))));obtain⟨ob0p,h⟩:=aB h;refine aZ [] [] [2,4,8,10,21,22,23,1000001,1000002,1000003] [2,4,10,5008] (an2 (iN ob0p) trivial) ?_;refine tN (aN [] [] [2,4,8,10,21,22,23,1000001,1000002,1000003] [2,4,10,5008] trivial ?_);refine aaE ?_;obtain⟨r9,hr9,h⟩:=bind_ok h;refine aZ [] [(2,⟨[.agg (f90z4 l6 l7),.agg (f90z7 r4 n5)],[],[],[],.tup [.agg (f90z3 r9),.str r9.2.2],[],[],[1]⟩)] [2,4,8,10,11,21,22,23,1000001,1000002,1000003] [2,4,10,5008] (an2 (cpT (f123_ok _ _ _ _ _ _ hr9)) trivial) ?_;refine tN ?_;obtain⟨ob1,h⟩:=aB h;refine bB [] [] ⟨45,(f90z2 r4 n5),[(2,.cells 92 (f90z3 r9)),(4,.cells 92 [.nils,.nils]),(5008,.rows 98 3 ((l8).length+1) (fH (l8).length (bY cC bE l8) (dE 3 [.i (rB r4 n5).1,.i (rB r4 n5).2.1,.str r9.2.2])))],[],0⟩ (an1 ob1) ?_;refine kN (tN (aaS (acO (s':=⟨45,(f90z2 r4 n5),(f90z9 r9 l8 r4 n5),[],0⟩) rfl rfl ⟨.refl _,.refl _,.refl _,.refl _,.refl _,.refl _,.refl _,.refl _,.refl _,trivial⟩ ⟨⟨_,rfl,.refl _⟩,⟨_,rfl,.refl _⟩,⟨_,rfl,(acE (adF (acH _) (acM (enc:=cC) [((rB r4 n5).1,(rB r4 n5).2.1,r9.2.2)] rfl rfl (fun _=>rfl))))⟩,trivial⟩) ?_));obtain⟨ob2p,h⟩:=aB h;refine aZ [] [] [2,4,8,21,22,23,1000001,1000002,1000003] [2,4,5008] (an1 (iP ob2p)) ?_;rw[hC0]at h;exact lN (_,(n5+1),r9.1,r9.2.1,(l8++[((rB r4 n5).1,(rB r4 n5).2.1,r9.2.2)])) LR h (aaM _)
   ·replace h:=aF hc2 h;refine abJ (tE (tE (kS ?_)));exact jN (l6,l7,l8) LR h
  ·rintro⟨l10,l11,l12⟩ h;replace h:=(congrFun hK1 _).symm.trans h;refine bC [] [] ⟨45,[(4,.ptr 4 0),(5,.own 5008),(1000001,pT),(1000002,bT),(1000003,bT)],[(4,.cells 92 (f90z5 l10 l11)),(5008,cD l12)],[],0⟩ (an1 trivial) ?_;refine aaS (aaI (abX (aV 5008 3000) (aD 5008 3000) rfl) (LR (s':=⟨45,[(4,.ptr 4 0),(5,.own 3000),(1000001,pT),(1000002,bT),(1000003,bT)],[(4,.cells 92 (f90z5 l10 l11)),(3000,cD l12)],[],0⟩))) ?_;obtain rfl:=aaD h;refine aaS (LR (s':=⟨45,[(4,.ptr 4 0),(5,.own 3000)],[(3000,cD l12),(4,.cells 92 (f90z5 l10 l11))],[],0⟩)) ?_;refine aaH ?_;exact bD
def oC (x1:List Ty0) (K1:(Ty7×Ty5)->Option (Ty7×Ty5)):Nat->(Nat×Ty7×Ty5)->Option (Ty7×Ty5)
 |0,_=>none
 |k+1,(n3,l4,l5)=>
  if(decide ((n3:Int)<(((x1).length:Nat):Int)))then(
  chk ((n3:Int)<(((x1).length:Nat):Int))<|
  (f90 l4 l5 (x1.getD n3 [])).bind fun r6=>
  chk (((n3:Int)+(1:Int))<=9223372036854775807)<|
  (oC x1 K1 k) ((n3+1),r6.1,r6.2.1)
  )else(
  K1 (l4,l5)
  )
abbrev f91z0 (l4:List Tq1) (l5:List Tq0):aJ:=[(2,.cells 92 [.nils,.nils]),(3,.cells 92 [vL 3 cN (default:Tq1) l4,vL 3 cC (default:Tq0) l5])]
abbrev f91z1 (r2:Ty7×Ty5):List V:=[vL 3 cN (default:Tq1) r2.1,vL 3 cC (default:Tq0) r2.2]
abbrev f91z2 (r6:Ty7×Ty5×Ty5):List V:=[vL 3 cN (default:Tq1) r6.1,vL 3 cC (default:Tq0) r6.2.1]
abbrev f91z3 (l7:List Tq1) (l8:List Tq0):List V:=[vL 3 cN (default:Tq1) l7,vL 3 cC (default:Tq0) l8]
def f91 (x1:List Ty0):Option (Ty7×Ty5):=
 (f124).bind fun r2=>
 jn (fun((l7,l8):Ty7×Ty5)=>
 some (l7,l8)
 ) fun(K1:(Ty7×Ty5)->Option (Ty7×Ty5))=>
 oC x1 K1 aY (0,r2.1,r2.2)
theorem f91_ok (x1:List Ty0) (r:Ty7×Ty5) (h:f91 x1=some r):aG Tryz.prog 91 [(1,pT),(2,bT),(3,bT)] [] [] [vL 1 eS [] x1] (.agg [vL 3 cN (default:Tq1) r.1,vL 3 cC (default:Tq0) r.2]) []:=by
 unfold f91 at h;refine aG.bodyD [2] 0 _ _ Tryz.func91 rfl Tryz.ntmps91 rfl rfl ?_;refine aN [] [] [0,2,1000001,1000002,1000003] [2] trivial ?_;refine aaE ?_;obtain⟨r2,hr2,h⟩:=bind_ok h;refine bB [] [(0,⟨[],[],[],[],.agg (f91z1 r2),[],[],[]⟩)] ⟨21,[(0,cQ x1),(2,.ptr 2 0),(3,.ptr 3 0),(1000001,pT),(1000002,bT),(1000003,bT)],[(2,.cells 92 [.nils,.nils]),(3,.cells 92 (f91z1 r2))],[],0⟩ (an2 (cpT (f124_ok _ hr2)) trivial) ?_;refine tN ?_;obtain⟨K1,hK1,h⟩:=aI h;refine aaR (fun(x:Ty7×Ty5)=>match x with|(l7,l8)=>⟨21,[(2,.ptr 2 0),(3,.ptr 3 0),(1000001,pT),(1000002,bT),(1000003,bT)],[(2,.cells 92 [.nils,.nils]),(3,.cells 92 (f91z3 l7 l8))],[],0⟩) (fun x=>K1 x=some r) ?_ ?_
 ·refine aN [] [] [2,3,7,8,9,1000001,1000002,1000003] [2,3] trivial ?_;refine aaJ (abG (α:=Nat×(Nat×Ty7×Ty5)) (fun x=>match x with|(_,n3,l4,l5)=>⟨21,[(2,.ptr 2 0),(3,.ptr 3 0),(7,cQ x1),(8,.i (lZ x1)),(9,.i (n3:Int)),(1000001,pT),(1000002,bT),(1000003,bT)],(f91z0 l4 l5),[],0⟩) (fun x=>oC x1 K1 x.1 x.2=some r) (fun x=>x.1) (aY,0,r2.1,r2.2) LR h ?_)
  rintro⟨k0,n3,l4,l5⟩ h
  cases k0 with
  |zero=>exact nEx h
  |succ k0=>
  obtain⟨C0,hC0⟩:∃C,C=oC x1 K1 k0:=⟨_,rfl⟩;replace h:=(oC.eq_2 ..).symm.trans h
  try rw[<-hC0]at h
  refine aN [] [] [2,3,7,8,9,10,1000001,1000002,1000003] [2,3] trivial ?_;refine aaE (cK (decide ((n3:Int)<(lZ x1))) (fun hc1=> ?_) fun hc1=> ?_)
  ·replace h:=aE hc1 h;refine aaG (tN (aaE (aaJ (aaE ?_))));obtain⟨ob0p,h⟩:=aB h;refine aZ [] [] [2,3,5,7,8,9,1000001,1000002,1000003] [2,3] (an1 (iN ob0p)) ?_;refine tN ?_;obtain⟨r6,hr6,h⟩:=bind_ok h;refine bB [] [(2,⟨[.agg [bA l4,bH l5],.str (x1.getD n3 [])],[],[],[(6001,cD r6.2.2)],.tup [.agg (f91z2 r6),.own 6001],[6001],[],[1,2,3]⟩)] ⟨21,[(2,.ptr 2 0),(3,.ptr 3 0),(7,cQ x1),(8,.i (lZ x1)),(9,.i (n3:Int)),(1000001,pT),(1000002,bT),(1000003,bT)],[(2,.cells 92 [.nils,.nils]),(3,.cells 92 (f91z2 r6))],[],0⟩ (an2 (cpT (aG.ren (aV 3000 6001) (aD 3000 6001) rfl (f90_ok _ _ _ _ hr6))) trivial) ?_;refine kN (tN ?_);obtain⟨ob1p,h⟩:=aB h;refine aZ [] [] [2,3,7,8,9,1000001,1000002,1000003] [2,3] (an1 (iP ob1p)) ?_;rw[hC0]at h;exact lN (_,(n3+1),r6.1,r6.2.1) LR h (aaM _)
  ·replace h:=aF hc1 h;refine abJ (tE (tE (kS ?_)));exact jN (l4,l5) LR h
 ·rintro⟨l7,l8⟩ h;replace h:=(congrFun hK1 _).symm.trans h;refine aN [] [] [2] [2] (an1 trivial) ?_;obtain rfl:=aaD h;refine aaH ?_;exact bD
abbrev f93z0 (x4 x5 x6 x7 x8:Int) (x9 x10:aaA):List V:=[.i x4,.i x5,.i x6,.i x7,.i x8,.str x9,.str x10,.opq,.opq,.opq,.opq,.opq,.opq,.opq,.opq,.opq,.opq,.opq,.opq,.opq,.opq,.opq,.opq,.opq,.opq,.opq,.opq,.opq]
def f93 (x1 x2:Int) (x3:aaA) (x4 x5 x6 x7 x8:Int) (x9 x10:aaA):Option (Bool×Int×Int×Int×Int×Int×aaA×aaA):=
 some (((x1==x6)&&(x2==x8)),x4,x5,x6,x7,x8,x9,x10)
theorem f93_ok (x1 x2:Int) (x3:aaA) (x4 x5 x6 x7 x8:Int) (x9 x10:aaA) (r:Bool×Int×Int×Int×Int×Int×aaA×aaA) (h:f93 x1 x2 x3 x4 x5 x6 x7 x8 x9 x10=some r):aG Tryz.prog 93 [] [2000] [(2000,.cells 51 [.i x4,.i x5,.i x6,.i x7,.i x8,.str x9,.str x10,.opq,.opq,.opq,.opq,.opq,.opq,.opq,.opq,.opq,.opq,.opq,.opq,.opq,.opq,.opq,.opq,.opq,.opq,.opq,.opq,.opq])] [.agg [.i x1,.i x2,.str x3],.ptr 2000 0] (.bool r.1) [(2000,.cells 51 [.i r.2.1,.i r.2.2.1,.i r.2.2.2.1,.i r.2.2.2.2.1,.i r.2.2.2.2.2.1,.str r.2.2.2.2.2.2.1,.str r.2.2.2.2.2.2.2,.opq,.opq,.opq,.opq,.opq,.opq,.opq,.opq,.opq,.opq,.opq,.opq,.opq,.opq,.opq,.opq,.opq,.opq,.opq,.opq,.opq])]:=by
 unfold f93 at h;refine aG.body 0 _ _ Tryz.func93 rfl Tryz.ntmps93 rfl rfl ?_;refine aN [] [] [1,2] [2,2000] trivial ?_;refine aaE (bB [] [] ⟨16,[(3,.bool ((x1==x6)&&(x2==x8)))],[(2000,.cells 51 (f93z0 x4 x5 x6 x7 x8 x9 x10))],[2000],0⟩ (an4 (an1 (idA (((x1==x6)==true)=true))) (an1 (idA (((x1==x6)==true)=true))) (an2 (idA (((x1==x6)==true)=true)) (idA (((x1==x6)==true)=true))) (bqA (x1==x6) true)) ?_);refine tN ?_;obtain rfl:=aaD h;refine aaH ?_;exact bK
def jH (x1:List Tq0) (K1:(Int×Int×Int×Int×Int×aaA×aaA)->Option Tq10):Nat->(Nat×Int×Int×Int×Int×Int×aaA×aaA)->Option Tq10
 |0,_=>none
 |k+1,(n9,i10,i11,i12,i13,i14,s15,s16)=>
  if(decide ((n9:Int)<(((x1).length:Nat):Int)))then(
  (f93 ((x1.getD n9 (default:Tq0)).1) ((x1.getD n9 (default:Tq0)).2.1) ((x1.getD n9 (default:Tq0)).2.2) i10 i11 i12 i13 i14 s15 s16).bind fun r17=>
  chk ((n9:Int)<(((x1).length:Nat):Int))<|
  if r17.1 then(
  some ((n9:Int),r17.2.1,r17.2.2.1,r17.2.2.2.1,r17.2.2.2.2.1,r17.2.2.2.2.2.1,r17.2.2.2.2.2.2.1,r17.2.2.2.2.2.2.2)
  )else(
  chk (((n9:Int)+(1:Int))<=9223372036854775807)<|
  (jH x1 K1 k) ((n9+1),r17.2.1,r17.2.2.1,r17.2.2.2.1,r17.2.2.2.2.1,r17.2.2.2.2.2.1,r17.2.2.2.2.2.2.1,r17.2.2.2.2.2.2.2)
  )
  )else(
  K1 (i10,i11,i12,i13,i14,s15,s16)
  )
abbrev f92z0 (r17:Bool×Int×Int×Int×Int×Int×aaA×aaA):aJ:=[(2000,.cells 51 [.i r17.2.1,.i r17.2.2.1,.i r17.2.2.2.1,.i r17.2.2.2.2.1,.i r17.2.2.2.2.2.1,.str r17.2.2.2.2.2.2.1,.str r17.2.2.2.2.2.2.2,.opq,.opq,.opq,.opq,.opq,.opq,.opq,.opq,.opq,.opq,.opq,.opq,.opq,.opq,.opq,.opq,.opq,.opq,.opq,.opq,.opq])]
abbrev f92z1 (i10 i11 i12 i13 i14:Int) (s15 s16:aaA):aJ:=[(2000,.cells 51 [.i i10,.i i11,.i i12,.i i13,.i i14,.str s15,.str s16,.opq,.opq,.opq,.opq,.opq,.opq,.opq,.opq,.opq,.opq,.opq,.opq,.opq,.opq,.opq,.opq,.opq,.opq,.opq,.opq,.opq])]
abbrev f92z2 (x2 x3 x4 x5 x6:Int) (x7 x8:aaA):aJ:=[(2000,.cells 51 [.i x2,.i x3,.i x4,.i x5,.i x6,.str x7,.str x8,.opq,.opq,.opq,.opq,.opq,.opq,.opq,.opq,.opq,.opq,.opq,.opq,.opq,.opq,.opq,.opq,.opq,.opq,.opq,.opq,.opq])]
abbrev f92z3 (i18 i19 i20 i21 i22:Int) (s23 s24:aaA):aJ:=[(2000,.cells 51 [.i i18,.i i19,.i i20,.i i21,.i i22,.str s23,.str s24,.opq,.opq,.opq,.opq,.opq,.opq,.opq,.opq,.opq,.opq,.opq,.opq,.opq,.opq,.opq,.opq,.opq,.opq,.opq,.opq,.opq])]
def f92 (x1:List Tq0) (x2 x3 x4 x5 x6:Int) (x7 x8:aaA):Option Tq10:=
 jn (fun((i18,i19,i20,i21,i22,s23,s24):Int×Int×Int×Int×Int×aaA×aaA)=>
 some ((-1:Int),i18,i19,i20,i21,i22,s23,s24)
 ) fun(K1:(Int×Int×Int×Int×Int×aaA×aaA)->Option Tq10)=>
 jH x1 K1 aY (0,x2,x3,x4,x5,x6,x7,x8)
theorem f92_ok (x1:List Tq0) (x2 x3 x4 x5 x6:Int) (x7 x8:aaA) (r:Tq10) (h:f92 x1 x2 x3 x4 x5 x6 x7 x8=some r):aG Tryz.prog 92 [] [2000] [(2000,.cells 51 [.i x2,.i x3,.i x4,.i x5,.i x6,.str x7,.str x8,.opq,.opq,.opq,.opq,.opq,.opq,.opq,.opq,.opq,.opq,.opq,.opq,.opq,.opq,.opq,.opq,.opq,.opq,.opq,.opq,.opq])] [vL 3 cC (default:Tq0) x1,.fn (.func 93) [.ptr 2000 0]] (.i r.1) [(2000,.cells 51 [.i r.2.1,.i r.2.2.1,.i r.2.2.2.1,.i r.2.2.2.2.1,.i r.2.2.2.2.2.1,.str r.2.2.2.2.2.2.1,.str r.2.2.2.2.2.2.2,.opq,.opq,.opq,.opq,.opq,.opq,.opq,.opq,.opq,.opq,.opq,.opq,.opq,.opq,.opq,.opq,.opq,.opq,.opq,.opq,.opq])]:=by
 unfold f92 at h;refine aG.body 0 _ _ Tryz.func92 rfl Tryz.ntmps92 rfl rfl ?_;refine aN [] [] [0,1] [2000] trivial ?_;obtain⟨K1,hK1,h⟩:=aI h;refine aaR (fun(x:Int×Int×Int×Int×Int×aaA×aaA)=>match x with|(i18,i19,i20,i21,i22,s23,s24)=>⟨19,[],(f92z3 i18 i19 i20 i21 i22 s23 s24),[2000],0⟩) (fun x=>K1 x=some r) ?_ ?_
 ·refine bC [] [] ⟨19,[(0,bH x1),(1,.fn (.func 93) [.ptr 2000 0]),(7,.i (lZ x1)),(8,.i (0:Int))],(f92z2 x2 x3 x4 x5 x6 x7 x8),[2000],0⟩ trivial ?_;refine aaJ (abG (α:=Nat×(Nat×Int×Int×Int×Int×Int×aaA×aaA)) (fun x=>match x with|(_,n9,i10,i11,i12,i13,i14,s15,s16)=>⟨19,[(0,bH x1),(1,.fn (.func 93) [.ptr 2000 0]),(7,.i (lZ x1)),(8,.i (n9:Int))],(f92z1 i10 i11 i12 i13 i14 s15 s16),[2000],0⟩) (fun x=>jH x1 K1 x.1 x.2=some r) (fun x=>x.1) (aY,0,x2,x3,x4,x5,x6,x7,x8) LR h ?_)
  rintro⟨k0,n9,i10,i11,i12,i13,i14,s15,s16⟩ h
  cases k0 with
  |zero=>exact nEx h
  |succ k0=>
  obtain⟨C0,hC0⟩:∃C,C=jH x1 K1 k0:=⟨_,rfl⟩;replace h:=(jH.eq_2 ..).symm.trans h
  try rw[<-hC0]at h
  refine aN [] [] [0,1,7,8,9] [2000] trivial ?_;refine aaE (cK (decide ((n9:Int)<(lZ x1))) (fun hc1=> ?_) fun hc1=> ?_)
  ·replace h:=aE hc1 h;refine aaG (tN (aaE (aaJ (aN [] [] [0,1,5,7,8] [2000] trivial ?_))));refine aaE ?_;obtain⟨r17,hr17,h⟩:=bind_ok h;obtain⟨ob0p,h⟩:=aB h;refine bB [] [(5,⟨[.agg [.i (x1.getD n9 bE).1,.i (x1.getD n9 bE).2.1,.str (x1.getD n9 bE).2.2],.ptr 2000 0],[2000],[2000],(f92z0 r17),.bool r17.1,[],[],[]⟩)] ⟨19,[(0,bH x1),(1,.fn (.func 93) [.ptr 2000 0]),(5,.i (n9:Int)),(7,.i (lZ x1)),(8,.i (n9:Int)),(16,.bool r17.1)],(f92z0 r17),[2000],0⟩ (an2 (iN ob0p) (cpT (f93_ok _ _ _ _ _ _ _ _ _ _ _ hr17))) ?_;refine tN (cK r17.1 (fun hc2=> ?_) fun hc2=> ?_)
   ·replace h:=aE hc2 h;refine aN [] [] [4] [2000] trivial ?_;obtain rfl:=aaD h;refine aaH (kR (tR (tR (kR (aR ?_)))));exact bK
   ·replace h:=aF hc2 h;refine aaG (kN (tN ?_));obtain⟨ob1p,h⟩:=aB h;refine bB [] [] ⟨19,[(0,bH x1),(1,.fn (.func 93) [.ptr 2000 0]),(7,.i (lZ x1)),(8,.i (((n9+1):Nat):Int))],(f92z0 r17),[2000],0⟩ (an1 (iP ob1p)) ?_;rw[hC0]at h;exact lN (_,(n9+1),r17.2.1,r17.2.2.1,r17.2.2.2.1,r17.2.2.2.2.1,r17.2.2.2.2.2.1,r17.2.2.2.2.2.2.1,r17.2.2.2.2.2.2.2) LR h (aaM _)
  ·replace h:=aF hc1 h;refine abJ (tE (tE (kS ?_)));exact jN (i10,i11,i12,i13,i14,s15,s16) LR h
 ·rintro⟨i18,i19,i20,i21,i22,s23,s24⟩ h;replace h:=(congrFun hK1 _).symm.trans h;refine aN [] [] [4] [2000] trivial ?_;obtain rfl:=aaD h;refine aaH ?_;exact bK
def lE (x3 x4:Int) (x8:List Tq5) (x9:List Tq4) (x10:List Ty2) (x11:List Tq2) (x12:List Ty2) (x13:List (Tq0×Bool)) (x14:List (Tq2×Bool)) (K1:(List Ty0)->Option Ty14):Nat->(Nat×List Ty0)->Option Ty14
 |0,_=>none
 |k+1,(n17,l18)=>
  if(decide ((n17:Int)<x4))then(
  if(!(hM x10 (((12:Int)+x3),(n17:Int))))then(
  some (false,x8,x9,x10,x11,x12,x13,x14)
  )else(
  chk (((l18).length+1) *16<=140737488355328)<|
  chk (((n17:Int)+(1:Int))<=9223372036854775807)<|
  (lE x3 x4 x8 x9 x10 x11 x12 x13 x14 K1 k) ((n17+1),(l18++[(gM x10 [] (((12:Int)+x3),(n17:Int)))]))
  )
  )else(
  K1 l18
  )
abbrev aCD (x1 x2 x3 x4 x5:Int) (x6 x7:aaA):List V:=[.i x1,.i x2,.i x3,.i x4,.i x5,.str x6,.str x7,.opq,.opq,.opq,.opq,.opq,.opq,.opq,.opq,.opq,.opq,.opq,.opq,.opq,.opq,.opq,.opq,.opq,.opq,.opq,.opq,.opq]
abbrev aAv :List V:=[.own 2001,.own 2002,.own 2003,.own 2004,.own 2005,.own 2006,.own 2007]
abbrev f66z2 (x1 x2 x3 x4 x5:Int) (x6 x7:aaA) (x8:List Tq5) (x9:List Tq4) (x10:List Ty2) (x11:List Tq2) (x12:List Ty2) (x13:List (Tq0×Bool)) (x14:List (Tq2×Bool)) (l18:List Ty0):aJ:=[(3,.cells 51 (aCD x1 x2 x3 x4 x5 x6 x7)),(2000,.cells 115 (aAv)),(2001,bP (V.int .i64) 0 eG [] x8),(2002,bP (V.int .i64) 0 eN false x9),(2003,bP aP (default:Tq2) cH [] x10),(2004,bP (V.int .i64) 0 eM 0 x11),(2005,bP aP (default:Tq2) cH [] x12),(2006,bP bO (default:Tq0) eV false x13),(2007,bP bJ (default:Tq2) eP false x14),(5013,bL 9 1 eS [] l18)]
abbrev f66z3 (x1 x2 x3 x4 x5:Int) (x6 x7:aaA) (x8:List Tq5) (x9:List Tq4) (x10:List Ty2) (x11:List Tq2) (x12:List Ty2) (x13:List (Tq0×Bool)) (x14:List (Tq2×Bool)):aJ:=[(3,.cells 51 (aCD x1 x2 x3 x4 x5 x6 x7)),(2000,.cells 115 (aAv)),(2001,bP (V.int .i64) 0 eG [] x8),(2002,bP (V.int .i64) 0 eN false x9),(2003,bP aP (default:Tq2) cH [] x10),(2004,bP (V.int .i64) 0 eM 0 x11),(2005,bP aP (default:Tq2) cH [] x12),(2006,bP bO (default:Tq0) eV false x13),(2007,bP bJ (default:Tq2) eP false x14)]
abbrev f66z4 (x8:List Tq5) (x9:List Tq4) (x10:List Ty2) (x11:List Tq2) (x12:List Ty2) (x13:List (Tq0×Bool)) (x14:List (Tq2×Bool)):aJ:=[(2000,.cells 115 (aAv)),(2001,bP (V.int .i64) 0 eG [] x8),(2002,bP (V.int .i64) 0 eN false x9),(2003,bP aP (default:Tq2) cH [] x10),(2004,bP (V.int .i64) 0 eM 0 x11),(2005,bP aP (default:Tq2) cH [] x12),(2006,bP bO (default:Tq0) eV false x13),(2007,bP bJ (default:Tq2) eP false x14)]
abbrev lR (x14:List (Tq2×Bool)) (x3 x5:Int) (x12:List Ty2):=((gM x14 false (x3,x5))||(!(hM x12 (x3,x5))))
abbrev f66z6 (x1 x2 x3 x4 x5:Int) (x6 x7:aaA) (x8:List Tq5) (x9:List Tq4) (x10:List Ty2) (x11:List Tq2) (x12:List Ty2) (x13:List (Tq0×Bool)) (x14:List (Tq2×Bool)) (l18:List Ty0) (n17:Nat):aJ:=[(3,.cells 51 (aCD x1 x2 x3 x4 x5 x6 x7)),(2000,.cells 115 (aAv)),(2001,bP (V.int .i64) 0 eG [] x8),(2002,bP (V.int .i64) 0 eN false x9),(2003,bP aP (default:Tq2) cH [] x10),(2004,bP (V.int .i64) 0 eM 0 x11),(2005,bP aP (default:Tq2) cH [] x12),(2006,bP bO (default:Tq0) eV false x13),(2007,bP bJ (default:Tq2) eP false x14),(5013,bL 9 1 eS [] (l18++[(gM x10 [] (((12:Int)+x3),(n17:Int)))]))]
abbrev f66z8 (x3:Int) (x10:List Ty2) (x4:Int) (n17:Nat):List (Nat×V):=[(0,.ptr 2000 0),(3,.ptr 3 0),(6,.i ((12:Int)+x3)),(9,.str (gM x10 [] (((12:Int)+x3),x4))),(13,.own 5013),(85,.i x4),(86,.i (n17:Int)),(1000001,pT),(1000002,bT),(1000003,bT)]
abbrev yA (r22:Tq10):=((decide (r22.1>=(0:Int)))==true)
abbrev jK (r15:Int×Int×Ty5×Int):=(r15.2.2.2 !=(0:Int))
abbrev f66z11 (x10:List Ty2) (x3 x4:Int):List (Nat×V):=[(3,.ptr 3 0),(9,.str (gM x10 [] (((12:Int)+x3),x4))),(13,.own 5013),(1000001,pT),(1000002,bT),(1000003,bT)]
def f66 (x1 x2 x3 x4 x5:Int) (x6 x7:aaA) (x8:List Tq5) (x9:List Tq4) (x10:List Ty2) (x11:List Tq2) (x12:List Ty2) (x13:List (Tq0×Bool)) (x14:List (Tq2×Bool)):Option Ty14:=
 chk (-9223372036854775808<=((12:Int)+x3)/\((12:Int)+x3)<=9223372036854775807)<|
 (f68 (gM x10 [] (((12:Int)+x3),x4))).bind fun r15=>
 eO (((((gM x14 false (x3,x5))||(!(hM x12 (x3,x5))))||(!(hM x10 (((12:Int)+x3),x4))))||(r15.2.2.2 !=(0:Int)))==false) (f89 r15.2.2.1 x3 x5 (gM x12 [] (x3,x5))) fun r16=>
 if(((((gM x14 false (x3,x5))||(!(hM x12 (x3,x5))))||(!(hM x10 (((12:Int)+x3),x4))))||(r15.2.2.2 !=(0:Int)))||(!r16))then(
 some (false,x8,x9,x10,x11,x12,x13,x14)
 )else(
 jn (fun(l19:List Ty0)=>
 (f91 l19).bind fun r20=>
 (f90 r20.1 r20.2 (gM x10 [] (((12:Int)+x3),x4))).bind fun r21=>
 (f92 r21.2.2 x1 x2 x3 x4 x5 x6 x7).bind fun r22=>
 chk (((decide (r22.1>=(0:Int)))==true)=true->0<=r22.1/\r22.1<(((r21.2.2).length:Nat):Int))<|
 chk (((decide (r22.1>=(0:Int)))==true)=true->((r22.1).toNat)<(r21.2.2).length)<|
 some (((decide (r22.1>=(0:Int)))&&(((r21.2.2.getD ((r22.1).toNat) (default:Tq0)).2.2)==r22.2.2.2.2.2.2.2)),x8,x9,x10,x11,x12,x13,x14)
 ) fun(K1:(List Ty0)->Option Ty14)=>
 lE x3 x4 x8 x9 x10 x11 x12 x13 x14 K1 aY (0,[])
 )
theorem f66_ok (x1 x2 x3 x4 x5:Int) (x6 x7:aaA) (x8:List Tq5) (x9:List Tq4) (x10:List Ty2) (x11:List Tq2) (x12:List Ty2) (x13:List (Tq0×Bool)) (x14:List (Tq2×Bool)) (r:Bool×(List Tq5)×(List Tq4)×gB×(List Tq2)×gB×rZ×rY) (h:f66 x1 x2 x3 x4 x5 x6 x7 x8 x9 x10 x11 x12 x13 x14=some r):aG Tryz.prog 66 [(1,pT),(2,bT),(3,bT)] [2000] [(2000,.cells 115 [.own 2001,.own 2002,.own 2003,.own 2004,.own 2005,.own 2006,.own 2007]),(2001,bP (V.int .i64) 0 eG [] x8),(2002,bP (V.int .i64) 0 eN false x9),(2003,bP aP (default:Tq2) cH [] x10),(2004,bP (V.int .i64) 0 eM 0 x11),(2005,bP aP (default:Tq2) cH [] x12),(2006,bP bO (default:Tq0) eV false x13),(2007,bP bJ (default:Tq2) eP false x14)] [.ptr 2000 0,.agg [.i x1,.i x2,.i x3,.i x4,.i x5,.str x6,.str x7,.opq,.opq,.opq,.opq,.opq,.opq,.opq,.opq,.opq,.opq,.opq,.opq,.opq,.opq,.opq,.opq,.opq,.opq,.opq,.opq,.opq]] (.bool r.1) [(2000,.cells 115 [.own 2001,.own 2002,.own 2003,.own 2004,.own 2005,.own 2006,.own 2007]),(2001,bP (V.int .i64) 0 eG [] r.2.1),(2002,bP (V.int .i64) 0 eN false r.2.2.1),(2003,bP aP (default:Tq2) cH [] r.2.2.2.1),(2004,bP (V.int .i64) 0 eM 0 r.2.2.2.2.1),(2005,bP aP (default:Tq2) cH [] r.2.2.2.2.2.1),(2006,bP bO (default:Tq0) eV false r.2.2.2.2.2.2.1),(2007,bP bJ (default:Tq2) eP false r.2.2.2.2.2.2.2)]:=by
 unfold f66 at h;refine aG.body 0 _ _ Tryz.func66 rfl Tryz.ntmps66 rfl rfl ?_;refine aN [] [] [0,3,1000001,1000002,1000003] [3,2000,2001,2002,2003,2004,2005,2006,2007] trivial ?_;refine aaE ?_;obtain⟨ob0,h⟩:=aB h;refine aZ [] [] [0,3,5,6,1000001,1000002,1000003] [3,5,2000,2001,2002,2003,2004,2005,2006,2007] (an2 ob0 trivial) ?_;refine tN ?_;refine aN [] [(5,⟨[.own 2005,.agg [.i x3,.i x5]],[2005],[2005],[(2005,bP aP bN cH [] x12)],.tup [.str (gM x12 [] (x3,x5)),.bool (hM x12 (x3,x5))],[],[],[]⟩)] [0,3,5,6,7,8,1000001,1000002,1000003] [3,5,2000,2001,2002,2003,2004,2005,2006,2007] (an1 (aaK (eD (P:=Tryz.prog) Tryz.underlying110 aP aAg bN cH [] [] (by kernel_rfl) (.tmp 32) (.tmp 33) 118 2005 x12 (x3,x5)) (eU.same [.own 2005,.agg [.i x3,.i x5]]))) ?_;refine aN [] [(8,⟨[.own 2003,.agg [.i ((12:Int)+x3),.i x4]],[2003],[2003],[(2003,bP aP bN cH [] x10)],.tup [.str (gM x10 [] (((12:Int)+x3),x4)),.bool (hM x10 (((12:Int)+x3),x4))],[],[],[]⟩)] [0,3,5,6,7,8,9,10,1000001,1000002,1000003] [3,5,2000,2001,2002,2003,2004,2005,2006,2007] (an1 (aaK (eD (P:=Tryz.prog) Tryz.underlying110 aP aAg bN cH [] [] (by kernel_rfl) (.tmp 41) (.tmp 45) 118 2003 x10 (((12:Int)+x3),x4)) (eU.same [.own 2003,.agg [.i ((12:Int)+x3),.i x4]]))) ?_;refine aaE ?_;obtain⟨r15,hr15,h⟩:=bind_ok h;refine aZ [] [(1,⟨[.str (gM x10 [] (((12:Int)+x3),x4))],[],[],[],.tup [.agg [.i r15.1,.i r15.2.1,bH r15.2.2.1],.i r15.2.2.2],[],[],[1,2,3]⟩)] [0,3,5,6,7,8,9,10,11,12,1000001,1000002,1000003] [3,5,11,2000,2001,2002,2003,2004,2005,2006,2007] (an2 (cpT (f68_ok _ _ hr15)) trivial) ?_;refine tN (aaE (aaE ?_));obtain⟨r16,hr16,h⟩:=bI h;refine aZ [] [(5,⟨[.own 2007,.agg [.i x3,.i x5]],[2007],[2007],[(2007,bP bJ bN eP false x14)],.bool (gM x14 false (x3,x5)),[],[],[]⟩),(27,⟨[bH r15.2.2.1,.agg [.i x3,.i x5,.str (gM x12 [] (x3,x5))]],[],[],[],.bool r16,[],[],[]⟩)] [0,3,6,9,83,1000001,1000002,1000003] [3,2000,2001,2002,2003,2004,2005,2006,2007] (ac6 (aaK (fQ (P:=Tryz.prog) Tryz.underlying113 bJ kE113 bN eP false false (by kernel_rfl) (.tmp 57) (.tmp 58) 4 2007 x14 (x3,x5)) (eU.same [.own 2007,.agg [.i x3,.i x5]])) (an1 (idA (((gM x14 false (x3,x5))==false)=true))) (bqA (gM x14 false (x3,x5)) false) (an1 (idA (((lR x14 x3 x5 x12)==false)=true))) (bqA (lR x14 x3 x5 x12) false) (an1 (idA ((((lR x14 x3 x5 x12)||(!(hM x10 (((12:Int)+x3),x4))))==false)=true))) (ac6 (bqA ((lR x14 x3 x5 x12)||(!(hM x10 (((12:Int)+x3),x4)))) false) (an1 (idA (((((lR x14 x3 x5 x12)||(!(hM x10 (((12:Int)+x3),x4))))||(jK r15))==false)=true))) (an1 (idA (((((lR x14 x3 x5 x12)||(!(hM x10 (((12:Int)+x3),x4))))||(jK r15))==false)=true))) (an1 (idA (((((lR x14 x3 x5 x12)||(!(hM x10 (((12:Int)+x3),x4))))||(jK r15))==false)=true))) (an3 (idA (((((lR x14 x3 x5 x12)||(!(hM x10 (((12:Int)+x3),x4))))||(jK r15))==false)=true)) (idA (((((lR x14 x3 x5 x12)||(!(hM x10 (((12:Int)+x3),x4))))||(jK r15))==false)=true)) (idA (((((lR x14 x3 x5 x12)||(!(hM x10 (((12:Int)+x3),x4))))||(jK r15))==false)=true))) (aaK (cpC fun hc=>(f89_ok _ _ _ _ _ (hr16 hc))) (an2 (idA (((((lR x14 x3 x5 x12)||(!(hM x10 (((12:Int)+x3),x4))))||(jK r15))==false)=true)) (idA (((((lR x14 x3 x5 x12)||(!(hM x10 (((12:Int)+x3),x4))))||(jK r15))==false)=true)))) (an2 (an1 (idA (((((lR x14 x3 x5 x12)||(!(hM x10 (((12:Int)+x3),x4))))||(jK r15))==false)=true))) (bqA (((lR x14 x3 x5 x12)||(!(hM x10 (((12:Int)+x3),x4))))||(jK r15)) false)))) ?_;refine tN (cK ((((lR x14 x3 x5 x12)||(!(hM x10 (((12:Int)+x3),x4))))||(jK r15))||(!r16)) (fun hc1=> ?_) fun hc1=> ?_)
 ·replace h:=aE hc1 h;refine bC [] [] ⟨129,[(4,.bool false)],(f66z4 x8 x9 x10 x11 x12 x13 x14),[2000],0⟩ trivial ?_;obtain rfl:=aaD h;refine aaH (tR ?_);exact bK
 ·replace h:=aF hc1 h;refine aaG (tN (aN [] [] [0,3,6,9,13,1000001,1000002,1000003] [3,2000,2001,2002,2003,2004,2005,2006,2007] trivial ?_));obtain⟨K1,hK1,h⟩:=aI h;refine aaR (α:=List Ty0) (fun(l19:List Ty0)=>⟨129,(f66z11 x10 x3 x4),[(3,.cells 51 (aCD x1 x2 x3 x4 x5 x6 x7)),(2000,.cells 115 (aAv)),(2001,bP (V.int .i64) 0 eG [] x8),(2002,bP (V.int .i64) 0 eN false x9),(2003,bP aP bN cH [] x10),(2004,bP (V.int .i64) 0 eM 0 x11),(2005,bP aP bN cH [] x12),(2006,bP bO bE eV false x13),(2007,bP bJ bN eP false x14),(5013,aU l19)],[2000],0⟩) (fun x=>K1 x=some r) ?_ ?_
  ·refine bC [] [] ⟨129,[(0,.ptr 2000 0),(3,.ptr 3 0),(6,.i ((12:Int)+x3)),(9,.str (gM x10 [] (((12:Int)+x3),x4))),(13,.nils),(85,.i x4),(86,.i (0:Int)),(1000001,pT),(1000002,bT),(1000003,bT)],(f66z3 x1 x2 x3 x4 x5 x6 x7 x8 x9 x10 x11 x12 x13 x14),[2000],0⟩ trivial ?_;refine aaJ (abG (α:=Nat×(Nat×List Ty0)) (fun x=>match x with|(_,n17,l18)=>⟨129,(f66z8 x3 x10 x4 n17),(f66z2 x1 x2 x3 x4 x5 x6 x7 x8 x9 x10 x11 x12 x13 x14 l18),[2000],0⟩) (fun x=>lE x3 x4 x8 x9 x10 x11 x12 x13 x14 K1 x.1 x.2=some r) (fun x=>x.1) (aY,0,[]) (aaI (aaI (adE 13 5013 9 1 (bY eS [] []) rfl rfl (aaW rfl)) (LR (s':=⟨129,[(0,.ptr 2000 0),(3,.ptr 3 0),(6,.i ((12:Int)+x3)),(9,.str (gM x10 [] (((12:Int)+x3),x4))),(13,.own 5013),(85,.i x4),(86,.i (0:Int)),(1000001,pT),(1000002,bT),(1000003,bT)],[(3,.cells 51 (aCD x1 x2 x3 x4 x5 x6 x7)),(2000,.cells 115 (aAv)),(2001,bP (V.int .i64) 0 eG [] x8),(2002,bP (V.int .i64) 0 eN false x9),(2003,bP aP bN cH [] x10),(2004,bP (V.int .i64) 0 eM 0 x11),(2005,bP aP bN cH [] x12),(2006,bP bO bE eV false x13),(2007,bP bJ bN eP false x14),(5013,aU [])],[2000],0⟩))) LR) h ?_)
   rintro⟨k0,n17,l18⟩ h
   cases k0 with
   |zero=>exact nEx h
   |succ k0=>
   obtain⟨C0,hC0⟩:∃C,C=lE x3 x4 x8 x9 x10 x11 x12 x13 x14 K1 k0:=⟨_,rfl⟩;replace h:=(lE.eq_2 ..).symm.trans h
   try rw[<-hC0]at h
   refine aN [] [] [0,3,6,9,13,85,86,87,1000001,1000002,1000003] [3,2000,2001,2002,2003,2004,2005,2006,2007,5013] trivial ?_;refine aaE (cK (decide ((n17:Int)<x4)) (fun hc2=> ?_) fun hc2=> ?_)
   ·replace h:=aE hc2 h;refine aaG (tN (aaE (aaJ (aN [] [] [0,3,6,9,13,14,85,86,1000001,1000002,1000003] [3,2000,2001,2002,2003,2004,2005,2006,2007,5013] trivial ?_))));refine aN [] [(7,⟨[.own 2003,.agg [.i ((12:Int)+x3),.i (n17:Int)]],[2003],[2003],[(2003,bP aP bN cH [] x10)],.tup [.str (gM x10 [] (((12:Int)+x3),(n17:Int))),.bool (hM x10 (((12:Int)+x3),(n17:Int)))],[],[],[]⟩)] [0,3,6,9,13,15,16,85,86,1000001,1000002,1000003] [3,2000,2001,2002,2003,2004,2005,2006,2007,5013] (an1 (aaK (eD (P:=Tryz.prog) Tryz.underlying110 aP aAg bN cH [] [] (by kernel_rfl) (.tmp 93) (.tmp 96) 118 2003 x10 (((12:Int)+x3),(n17:Int))) (eU.same [.own 2003,.agg [.i ((12:Int)+x3),.i (n17:Int)]]))) ?_;refine aaE (aN [] [] [0,3,6,9,13,15,85,86,101,1000001,1000002,1000003] [3,2000,2001,2002,2003,2004,2005,2006,2007,5013] trivial ?_);refine cK (!(hM x10 (((12:Int)+x3),(n17:Int)))) (fun hc3=> ?_) fun hc3=> ?_
    ·replace h:=aE hc3 h;refine bC [] [] ⟨129,[(4,.bool false)],(f66z4 x8 x9 x10 x11 x12 x13 x14),[2000],0⟩ trivial ?_;obtain rfl:=aaD h;refine aaH (tR (kR (tR (tR (kR (aR ?_))))));exact bK
    ·replace h:=aF hc3 h;refine aaG (tN ?_);obtain⟨ob17,h⟩:=aB h;refine bB [] [] ⟨129,(f66z8 x3 x10 x4 n17),[(3,.cells 51 (aCD x1 x2 x3 x4 x5 x6 x7)),(2000,.cells 115 (aAv)),(2001,bP (V.int .i64) 0 eG [] x8),(2002,bP (V.int .i64) 0 eN false x9),(2003,bP aP bN cH [] x10),(2004,bP (V.int .i64) 0 eM 0 x11),(2005,bP aP bN cH [] x12),(2006,bP bO bE eV false x13),(2007,bP bJ bN eP false x14),(5013,.rows 9 1 ((l18).length+1) (fH (l18).length (bY eS [] l18) (dE 1 [.str (gM x10 [] (((12:Int)+x3),(n17:Int)))])))],[2000],0⟩ (an1 ob17) ?_;refine kN (tN (aaS (acO (s':=⟨129,(f66z8 x3 x10 x4 n17),(f66z6 x1 x2 x3 x4 x5 x6 x7 x8 x9 x10 x11 x12 x13 x14 l18 n17),[2000],0⟩) rfl rfl ⟨.refl _,.refl _,.refl _,.refl _,.refl _,.refl _,.refl _,.refl _,.refl _,.refl _,trivial⟩ ⟨⟨_,rfl,.refl _⟩,⟨_,rfl,.refl _⟩,⟨_,rfl,.refl _⟩,⟨_,rfl,.refl _⟩,⟨_,rfl,.refl _⟩,⟨_,rfl,.refl _⟩,⟨_,rfl,.refl _⟩,⟨_,rfl,.refl _⟩,⟨_,rfl,.refl _⟩,⟨_,rfl,(acE (adF (acH _) (acM (enc:=eS) [(gM x10 [] (((12:Int)+x3),(n17:Int)))] rfl rfl (fun _=>rfl))))⟩,trivial⟩) ?_));obtain⟨ob18p,h⟩:=aB h;refine aZ [] [] [0,3,6,9,13,85,86,1000001,1000002,1000003] [3,2000,2001,2002,2003,2004,2005,2006,2007,5013] (an1 (iP ob18p)) ?_;rw[hC0]at h;exact lN (_,(n17+1),(l18++[(gM x10 [] (((12:Int)+x3),(n17:Int)))])) LR h (aaM _)
   ·replace h:=aF hc2 h;refine abJ (tE (tE (kS ?_)));exact jN (l18) LR h
  ·rintro l19 h;replace h:=(congrFun hK1 _).symm.trans h;refine aaE (aaS (aaI (adI 5013 rfl rfl) (LR (s':=⟨129,[(3,.ptr 3 0),(9,.str (gM x10 [] (((12:Int)+x3),x4))),(13,cQ l19),(1000001,pT),(1000002,bT),(1000003,bT)],(f66z3 x1 x2 x3 x4 x5 x6 x7 x8 x9 x10 x11 x12 x13 x14),[2000],0⟩))) ?_);obtain⟨r20,hr20,h⟩:=bind_ok h;obtain⟨r21,hr21,h⟩:=bind_ok h;refine aZ [] [(1,⟨[cQ l19],[],[],[],.agg [bA r20.1,bH r20.2],[],[],[1,2,3]⟩),(3,⟨[.agg [bA r20.1,bH r20.2],.str (gM x10 [] (((12:Int)+x3),x4))],[],[],[(6001,cD r21.2.2)],.tup [.agg [bA r21.1,bH r21.2.1],.own 6001],[6001],[],[1,2,3]⟩)] [3,18,1000001,1000002,1000003] [3,2000,2001,2002,2003,2004,2005,2006,2007,6001] (an3 (cpT (f91_ok _ _ hr20)) (cpT (aG.ren (aV 3000 6001) (aD 3000 6001) rfl (f90_ok _ _ _ _ hr21))) trivial) ?_;refine tN (aaE ?_);obtain⟨r22,hr22,h⟩:=bind_ok h;refine aZ [] [(2,⟨[bH r21.2.2,.fn (.func 93) [.ptr 3 0]],[3],[3],[(3,.cells 51 (qpt r22.2))],.i r22.1,[],[6001],[]⟩)] [3,18,19,1000001,1000002,1000003] [3,2000,2001,2002,2003,2004,2005,2006,2007,6001] (an1 (cpL (c:=true) [(6001,cD r21.2.2)] [6001] [.own 6001,.fn (.func 93) [.ptr 3 0]] (fun _=>(aG.ren (aV 2000 3) (aD 2000 3) rfl (f92_ok _ _ _ _ _ _ _ _ _ hr22))) (fun _=>⟨.refl _,.refl _,trivial⟩) (.inr ⟨rfl,⟨rfl,trivial⟩⟩))) ?_;refine tN (aaE ?_);obtain⟨ob19,h⟩:=aB h;obtain⟨ob23,h⟩:=aB h;have ob28:true=true->(decide (r22.1>=(0:Int)))=true->(yA r22)=true:=fun _ h=>beq_iff_eq.2 h;refine bB [] [] ⟨129,[(4,.bool ((decide (r22.1>=(0:Int)))&&(((r21.2.2.getD ((r22.1).toNat) bE).2.2)==r22.2.2.2.2.2.2.2)))],(f66z4 x8 x9 x10 x11 x12 x13 x14),[2000],0⟩ (an6 (aaK ob19 (an2 (idA ((yA r22)=true)) (idA ((yA r22)=true)))) (an1 (idA ((yA r22)=true))) (aaK ob23 (an1 (idA ((yA r22)=true)))) (an1 (idA ((yA r22)=true))) (an2 (idA ((yA r22)=true)) (idA ((yA r22)=true))) ob28) ?_;refine tN ?_;obtain rfl:=aaD h;refine aaH ?_;exact bK
abbrev aCH (x1 x2 x3 x4 x5:Int) (x6 x7:aaA):List V:=[.i x1,.i x2,.i x3,.i x4,.i x5,.str x6,.str x7,.opq,.opq,.opq,.opq,.opq,.opq,.opq,.opq,.opq,.opq,.opq,.opq,.opq,.opq,.opq,.opq,.opq,.opq,.opq,.opq,.opq]
abbrev aAy (x1 x2 x3 x4 x5:Int) (x6 x7:aaA) (x8:List Tq5) (x9:List Tq4) (x10:List Ty2) (x11:List Tq2) (x12:List Ty2) (x13:List (Tq0×Bool)) (x14:List (Tq2×Bool)):aJ:=[(3,.cells 51 (aCH x1 x2 x3 x4 x5 x6 x7)),(2000,.cells 115 [.own 2001,.own 2002,.own 2003,.own 2004,.own 2005,.own 2006,.own 2007]),(2001,bP (V.int .i64) 0 eG [] x8),(2002,bP (V.int .i64) 0 eN false x9),(2003,bP aP (default:Tq2) cH [] x10),(2004,bP (V.int .i64) 0 eM 0 x11),(2005,bP aP (default:Tq2) cH [] x12),(2006,bP bO (default:Tq0) eV false x13),(2007,bP bJ (default:Tq2) eP false x14)]
abbrev f43z2 (x8:List Tq5) (x9:List Tq4) (x10:List Ty2) (x11:List Tq2) (x12:List Ty2) (x13:List (Tq0×Bool)) (x14:List (Tq2×Bool)):aJ:=[(2000,.cells 115 [.own 2001,.own 2002,.own 2003,.own 2004,.own 2005,.own 2006,.own 2007]),(2001,bP (V.int .i64) 0 eG [] x8),(2002,bP (V.int .i64) 0 eN false x9),(2003,bP aP (default:Tq2) cH [] x10),(2004,bP (V.int .i64) 0 eM 0 x11),(2005,bP aP (default:Tq2) cH [] x12),(2006,bP bO (default:Tq0) eV false x13),(2007,bP bJ (default:Tq2) eP false x14)]
abbrev f43z3 (r17:Bool×(List Tq5)×(List Tq4)×gB×(List Tq2)×gB×rZ×rY):aJ:=[(2000,.cells 115 [.own 2001,.own 2002,.own 2003,.own 2004,.own 2005,.own 2006,.own 2007]),(2001,bP (V.int .i64) 0 eG [] r17.2.1),(2002,bP (V.int .i64) 0 eN false r17.2.2.1),(2003,bP aP (default:Tq2) cH [] r17.2.2.2.1),(2004,bP (V.int .i64) 0 eM 0 r17.2.2.2.2.1),(2005,bP aP (default:Tq2) cH [] r17.2.2.2.2.2.1),(2006,bP bO (default:Tq0) eV false r17.2.2.2.2.2.2.1),(2007,bP bJ (default:Tq2) eP false r17.2.2.2.2.2.2.2)]
abbrev f43z4 :List (Nat×V):=[(0,.ptr 2000 0),(3,.ptr 3 0),(1000001,pT),(1000002,bT),(1000003,bT)]
abbrev f43z5 (l18:List Tq5) (l19:List Tq4) (l20:List Ty2) (l21:List Tq2) (l22:List Ty2) (l23:List (Tq0×Bool)) (l24:List (Tq2×Bool)):aJ:=[(2000,.cells 115 [.own 2001,.own 2002,.own 2003,.own 2004,.own 2005,.own 2006,.own 2007]),(2001,bP (V.int .i64) 0 eG [] l18),(2002,bP (V.int .i64) 0 eN false l19),(2003,bP aP (default:Tq2) cH [] l20),(2004,bP (V.int .i64) 0 eM 0 l21),(2005,bP aP (default:Tq2) cH [] l22),(2006,bP bO (default:Tq0) eV false l23),(2007,bP bJ (default:Tq2) eP false l24)]
abbrev f43z6 :List (Nat×V):=[(1000001,pT),(1000002,bT),(1000003,bT)]
abbrev f43z7 :=gB
def f43 (x1 x2 x3 x4 x5:Int) (x6 x7:aaA) (x8:List Tq5) (x9:List Tq4) (x10:List Ty2) (x11:List Tq2) (x12:List Ty2) (x13:List (Tq0×Bool)) (x14:List (Tq2×Bool)):Option Ty15:=
 jn (fun(_:Unit)=>
 jn (fun((l18,l19,l20,l21,l22,l23,l24):(List Tq5)×(List Tq4)×gB×(List Tq2)×gB×rZ×rY)=>
 some ((0:Int),l18,l19,l20,l21,l22,l23,l24)
 ) fun(K3:Ty6->Option Ty15)=>
 eO ((x2==(2:Int))==true) (f57 x1 x2 x3 x4 x5 x6 x7) fun r16=>
 if((x2==(2:Int))&&r16)=true then(
 (f66 x1 x2 x3 x4 x5 x6 x7 x8 x9 x10 x11 x12 x13 x14).bind fun r17=>
 if(!r17.1)then(
 some ((3:Int),r17.2.1,r17.2.2.1,r17.2.2.2.1,r17.2.2.2.2.1,r17.2.2.2.2.2.1,r17.2.2.2.2.2.2.1,r17.2.2.2.2.2.2.2)
 )else(
 K3 (r17.2.1,r17.2.2.1,r17.2.2.2.1,r17.2.2.2.2.1,r17.2.2.2.2.2.1,r17.2.2.2.2.2.2.1,r17.2.2.2.2.2.2.2)
 )
 )else(
 K3 (x8,x9,x10,x11,x12,x13,x14)
 )
 ) fun(K1:Unit->Option Ty15)=>
 (f50 x1 x2 x3 x4 x5 x6 x7).bind fun r15=>
 if r15.2 then(
 jn (fun(_:Unit)=>
 if(x2==(3:Int))=true then(
 if(x4 !=(gM x11 (0:Int) x3))then(
 some ((2:Int),x8,x9,x10,x11,x12,x13,x14)
 )else(
 K1 ()
 )
 )else(
 K1 ()
 )
 ) fun(K2:Unit->Option Ty15)=>
 if(hM x8 x4)=true then(
 if(!((gM x8 [] x4)==x6))=true then(
 some ((1:Int),x8,x9,x10,x11,x12,x13,x14)
 )else(
 if(gM x9 false x4)then(
 some ((1:Int),x8,x9,x10,x11,x12,x13,x14)
 )else(
 K2 ()
 )
 )
 )else(
 chk (false=true->false=true->(!((gM x8 [] x4)==x6))=false->false=true)<|
 K2 ()
 )
 )else(
 K1 ()
 )
theorem f43_ok (x1 x2 x3 x4 x5:Int) (x6 x7:aaA) (x8:List Tq5) (x9:List Tq4) (x10:List Ty2) (x11:List Tq2) (x12:List Ty2) (x13:List (Tq0×Bool)) (x14:List (Tq2×Bool)) (r:Int×(List Tq5)×(List Tq4)×gB×(List Tq2)×gB×rZ×rY) (h:f43 x1 x2 x3 x4 x5 x6 x7 x8 x9 x10 x11 x12 x13 x14=some r):aG Tryz.prog 43 [(1,pT),(2,bT),(3,bT)] [2000] [(2000,.cells 115 [.own 2001,.own 2002,.own 2003,.own 2004,.own 2005,.own 2006,.own 2007]),(2001,bP (V.int .i64) 0 eG [] x8),(2002,bP (V.int .i64) 0 eN false x9),(2003,bP aP (default:Tq2) cH [] x10),(2004,bP (V.int .i64) 0 eM 0 x11),(2005,bP aP (default:Tq2) cH [] x12),(2006,bP bO (default:Tq0) eV false x13),(2007,bP bJ (default:Tq2) eP false x14)] [.ptr 2000 0,.agg [.i x1,.i x2,.i x3,.i x4,.i x5,.str x6,.str x7,.opq,.opq,.opq,.opq,.opq,.opq,.opq,.opq,.opq,.opq,.opq,.opq,.opq,.opq,.opq,.opq,.opq,.opq,.opq,.opq,.opq]] (.i r.1) [(2000,.cells 115 [.own 2001,.own 2002,.own 2003,.own 2004,.own 2005,.own 2006,.own 2007]),(2001,bP (V.int .i64) 0 eG [] r.2.1),(2002,bP (V.int .i64) 0 eN false r.2.2.1),(2003,bP aP (default:Tq2) cH [] r.2.2.2.1),(2004,bP (V.int .i64) 0 eM 0 r.2.2.2.2.1),(2005,bP aP (default:Tq2) cH [] r.2.2.2.2.2.1),(2006,bP bO (default:Tq0) eV false r.2.2.2.2.2.2.1),(2007,bP bJ (default:Tq2) eP false r.2.2.2.2.2.2.2)]:=by
 unfold f43 at h;refine aG.body 0 _ _ Tryz.func43 rfl Tryz.ntmps43 rfl rfl ?_;refine aN [] [] [0,3,1000001,1000002,1000003] [3,2000,2001,2002,2003,2004,2005,2006,2007] trivial ?_;obtain⟨K1,hK1,h⟩:=aI h;refine aaR (fun(x:Unit)=>match x with|()=>⟨69,(f43z4),(aAy x1 x2 x3 x4 x5 x6 x7 x8 x9 x10 x11 x12 x13 x14),[2000],0⟩) (fun x=>K1 x=some r) ?_ ?_
 ·refine aaE ?_;obtain⟨r15,hr15,h⟩:=bind_ok h;refine aZ [] [(1,⟨[.agg (aCH x1 x2 x3 x4 x5 x6 x7)],[],[],[],.tup [.i r15.1,.bool r15.2],[],[],[]⟩)] [0,3,6,1000001,1000002,1000003] [3,2000,2001,2002,2003,2004,2005,2006,2007] (an1 (cpT (aBy _ _ _ _ _ _ _ _ hr15))) ?_;refine tN (bC [] [] ⟨69,[(0,.ptr 2000 0),(3,.ptr 3 0),(14,.bool r15.2),(1000001,pT),(1000002,bT),(1000003,bT)],(aAy x1 x2 x3 x4 x5 x6 x7 x8 x9 x10 x11 x12 x13 x14),[2000],0⟩ trivial ?_);refine cK r15.2 (fun hc1=> ?_) fun hc1=> ?_
  ·replace h:=aE hc1 h;obtain⟨K2,hK2,h⟩:=aI h;refine aaR (fun(x:Unit)=>match x with|()=>⟨69,(f43z4),(aAy x1 x2 x3 x4 x5 x6 x7 x8 x9 x10 x11 x12 x13 x14),[2000],0⟩) (fun x=>K2 x=some r) ?_ ?_
   ·refine bC [] [(6,⟨[.own 2001,.i x4],[2001],[2001],[(2001,bP (V.int .i64) 0 eG [] x8)],.tup [.str (gM x8 [] x4),.bool (hM x8 x4)],[],[],[]⟩)] ⟨69,[(0,.ptr 2000 0),(3,.ptr 3 0),(7,.str (gM x8 [] x4)),(8,.bool (hM x8 x4)),(1000001,pT),(1000002,bT),(1000003,bT)],(aAy x1 x2 x3 x4 x5 x6 x7 x8 x9 x10 x11 x12 x13 x14),[2000],0⟩ (an1 (aaK (eD (P:=Tryz.prog) Tryz.underlying108 (V.int .i64) kE108 0 eG [] [] (by kernel_rfl) (.tmp 19) (.tmp 21) 118 2001 x8 x4) (eU.same [.own 2001,.i x4]))) ?_;refine aaE ?_;by_cases hg4_1:(hM x8 x4)=true
    ·replace h:=xC hg4_1 h;by_cases hg4_6:(!((gM x8 [] x4)==x6))=true
     ·replace h:=xC hg4_6 h;have ob0:=idA (true=true);have ob1:=idA (true=true);have ob2:=idA (true=true);have ob3:=idA (true=true);have ob4:=idA (false=true);have ob5:=idA (false=true);have ob6:=idA (false=true);have ob7:=idA (false=true);have ob8:true=true->true=true->true=false->false=true:=by first|decide|omega|simp|(intro h;cases h)
      have ob9:=idA (true=true);have ob10:true=true->true=true->true=true:=fun _ h=>h;refine bB [] [(1,⟨[],[],[],[],(.bool true),[],[0],[]⟩),(6,⟨[],[],[],[],(.opt true (.bool true)),[],[0],[]⟩),(13,⟨[],[],[],[],.bool (gM x9 false x4),[],[],[]⟩)] ⟨69,[(0,.ptr 2000 0),(3,.ptr 3 0),(40,.bool true),(1000001,pT),(1000002,bT),(1000003,bT)],(aAy x1 x2 x3 x4 x5 x6 x7 x8 x9 x10 x11 x12 x13 x14),[2000],0⟩ (ac6 (show((.bool (hM x8 x4)):V)=(.bool true)from(congrArg (fun x=>((.bool x):V)) hg4_1)) (an1 ob0) (an2 ob1 ob2) (aaK (an1 ob3) (show((.opt true (.bool (!((gM x8 [] x4)==x6)))):V)=(.opt true (.bool true))from(congrArg (fun x=>((.opt true (.bool x)):V)) hg4_6))) (an1 ob4) (an1 ob5) (an5 (an1 ob6) (an1 ob7) trivial (aaK ob8 (an1 ob9)) ob10)) ?_;refine tN (cK true (fun hc=> ?_) fun hc=> ?_)
      ·clear hc;refine aN [] [] [4] [2000,2001,2002,2003,2004,2005,2006,2007] trivial ?_;obtain rfl:=aaD h;refine aaH (aR (aR ?_));exact bK
      ·cases hc
     ·replace h:=xD hg4_6 h;have ob0:=idA (true=true);have ob1:=idA (true=true);have ob2:=idA (true=true);have ob3:=idA (true=true);have ob4:=idA (true=true);have ob5:=idA (true=true);have ob6:=idA (true=true);have ob7:=idA (true=true);have ob8:=idA (true=true);have ob9:=idA (true=true);have ob10:true=true->True:=by first|decide|omega|simp|(intro h;cases h)
      have ob12:true=true->true=true->true=true:=fun _ h=>h;refine aZ [] [(1,⟨[],[],[],[],(.bool true),[],[0],[]⟩),(6,⟨[],[],[],[],(.opt true (.bool false)),[],[0],[]⟩),(13,⟨[.own 2002,.i x4],[2002],[2002],[(2002,bP (V.int .i64) 0 eN false x9)],.bool (gM x9 false x4),[],[],[]⟩)] [0,3,40,1000001,1000002,1000003] [3,2000,2001,2002,2003,2004,2005,2006,2007] (ac6 (show((.bool (hM x8 x4)):V)=(.bool true)from(congrArg (fun x=>((.bool x):V)) hg4_1)) (an1 ob0) (an2 ob1 ob2) (aaK (an1 ob3) (show((.opt true (.bool (!((gM x8 [] x4)==x6)))):V)=(.opt true (.bool false))from(congrArg (fun x=>((.opt true (.bool x)):V)) (aeL.2 hg4_6)))) (an1 ob4) (an1 ob5) (an5 (an1 ob6) (an1 ob7) (aaK (aaK (fQ (P:=Tryz.prog) Tryz.underlying109 (V.int .i64) kE109 0 eN false false (by kernel_rfl) (.tmp 35) (.tmp 37) 4 2002 x9 x4) (eU.same [.own 2002,.i x4])) (an2 ob8 ob9)) (aaK ob10 (an1 (idA (true=true)))) ob12)) ?_;refine tN (cK (gM x9 false x4) (fun hc4=> ?_) fun hc4=> ?_)
      ·replace h:=aE hc4 h;refine bC [] [] ⟨69,[(4,.i (1:Int))],(f43z2 x8 x9 x10 x11 x12 x13 x14),[2000],0⟩ trivial ?_;obtain rfl:=aaD h;refine aaH (aR (aR ?_));exact bK
      ·replace h:=aF hc4 h;refine aaG ?_;exact jN () LR h
    ·replace h:=xD hg4_1 h;have ob0:=idA (false=true);have ob1:=idA (false=true);have ob2:=idA (false=true);have ob3:=idA (false=true);have ob4:=idA (false=true);have ob5:=idA (false=true);have ob6:=idA (false=true);have ob7:=idA (false=true);obtain⟨ob8,h⟩:=aB h;have ob9:=idA (false=true);have ob10:true=true->false=true->false=true:=fun _ h=>h;refine bB [] [(1,⟨[],[],[],[],(.bool false),[],[0],[]⟩),(13,⟨[],[],[],[],.bool (gM x9 false x4),[],[],[]⟩)] ⟨69,[(0,.ptr 2000 0),(3,.ptr 3 0),(40,.bool false),(1000001,pT),(1000002,bT),(1000003,bT)],(aAy x1 x2 x3 x4 x5 x6 x7 x8 x9 x10 x11 x12 x13 x14),[2000],0⟩ (ac6 (show((.bool (hM x8 x4)):V)=(.bool false)from(congrArg (fun x=>((.bool x):V)) (aeL.2 hg4_1))) (an1 ob0) (an2 ob1 ob2) (an1 ob3) (an1 ob4) (an1 ob5) (an5 (an1 ob6) (an1 ob7) trivial (aaK ob8 (an1 ob9)) ob10)) ?_;refine tN (cK false (fun hc=> ?_) fun hc=> ?_)
     ·cases hc
     ·clear hc;refine aaG ?_;exact jN () LR h
   ·rintro⟨⟩ h;replace h:=(congrFun hK2 _).symm.trans h;refine aaE ?_;by_cases hg6_3:(x2==(3:Int))=true
    ·replace h:=xC hg6_3 h;have ob13:=idA (true=true);have ob14:=idA (true=true);have ob15:=idA (true=true);have ob16:=idA (true=true);have ob17:=idA (true=true);have ob18:=idA (true=true);have ob19:=idA (true=true);have ob20:=idA (true=true);have ob21:true=true->true=true->true=true:=fun _ h=>h;refine aZ [] [(3,⟨[],[],[],[],(.bool true),[],[0],[]⟩),(12,⟨[.own 2004,.i x3],[2004],[2004],[(2004,bP (V.int .i64) 0 eM 0 x11)],.i (gM x11 (0:Int) x3),[],[],[]⟩)] [0,3,55,1000001,1000002,1000003] [3,2000,2001,2002,2003,2004,2005,2006,2007] (ac6 (show((.bool (x2==(3:Int))):V)=(.bool true)from(congrArg (fun x=>((.bool x):V)) hg6_3)) (an1 ob13) (an1 ob14) (an1 ob15) (an1 ob16) (an1 ob17) (an3 (aaK (aaK (fQ (P:=Tryz.prog) Tryz.underlying111 (V.int .i64) kE111 0 eM 0 (0:Int) (by kernel_rfl) (.tmp 50) (.tmp 52) 3 2004 x11 x3) (eU.same [.own 2004,.i x3])) (an2 ob18 ob19)) (an1 ob20) ob21)) ?_;refine tN (cK (x4 !=(gM x11 (0:Int) x3)) (fun hc6=> ?_) fun hc6=> ?_)
     ·replace h:=aE hc6 h;refine bC [] [] ⟨69,[(4,.i (2:Int))],(f43z2 x8 x9 x10 x11 x12 x13 x14),[2000],0⟩ trivial ?_;obtain rfl:=aaD h;refine aaH (aR ?_);exact bK
     ·replace h:=aF hc6 h;refine aaG ?_;exact jN () LR h
    ·replace h:=xD hg6_3 h;have ob13:=idA (false=true);have ob14:=idA (false=true);have ob15:=idA (false=true);have ob16:=idA (false=true);have ob17:=idA (false=true);have ob18:=idA (false=true);have ob19:=idA (false=true);have ob20:true=true->false=true->false=true:=fun _ h=>h;refine bB [] [(3,⟨[],[],[],[],(.bool false),[],[0],[]⟩),(12,⟨[],[],[],[],.i (gM x11 (0:Int) x3),[],[],[]⟩)] ⟨69,[(0,.ptr 2000 0),(3,.ptr 3 0),(55,.bool false),(1000001,pT),(1000002,bT),(1000003,bT)],(aAy x1 x2 x3 x4 x5 x6 x7 x8 x9 x10 x11 x12 x13 x14),[2000],0⟩ (ac6 (show((.bool (x2==(3:Int))):V)=(.bool false)from(congrArg (fun x=>((.bool x):V)) (aeL.2 hg6_3))) (an1 ob13) (an1 ob14) (an1 ob15) (an1 ob16) (an1 ob17) (an3 trivial (an2 ob18 ob19) ob20)) ?_;refine tN (cK false (fun hc=> ?_) fun hc=> ?_)
     ·cases hc
     ·clear hc;refine aaG ?_;exact jN () LR h
  ·replace h:=aF hc1 h;refine aaG ?_;exact jN () LR h
 ·rintro⟨⟩ h;replace h:=(congrFun hK1 _).symm.trans h;obtain⟨K3,hK3,h⟩:=aI h;refine aaR (fun(x:(List Tq5)×(List Tq4)×(f43z7)×(List Tq2)×(f43z7)×rZ×rY)=>match x with|(l18,l19,l20,l21,l22,l23,l24)=>⟨69,(f43z6),(f43z5 l18 l19 l20 l21 l22 l23 l24),[2000],0⟩) (fun x=>K3 x=some r) ?_ ?_
  ·refine aaE ?_;obtain⟨r16,hr16,h⟩:=bI h;by_cases hg8_7:((x2==(2:Int))&&r16)=true
   ·replace h:=xC hg8_7 h;obtain⟨r17,hr17,h⟩:=bind_ok h;have ob22:=idA (((x2==(2:Int))==true)=true);have ob23:=bqA (x2==(2:Int)) true;have ob24:=idA (true=true);have ob25:=idA (true=true);have ob26:true=true->true=true->true=true:=fun _ h=>h;refine aZ [] [(5,⟨[.agg (aCH x1 x2 x3 x4 x5 x6 x7)],[],[],[],.bool r16,[],[],[]⟩),(7,⟨[],[],[],[],(.bool true),[],[0],[]⟩),(10,⟨[.ptr 2000 0,.agg (aCH x1 x2 x3 x4 x5 x6 x7)],[2000,2001,2002,2003,2004,2005,2006,2007],[2000],(f43z3 r17),.bool r17.1,[2001,2002,2003,2004,2005,2006,2007],[],[1,2,3]⟩)] [68,1000001,1000002,1000003] [2000,2001,2002,2003,2004,2005,2006,2007] (an5 (aaK (cpC fun hc=>(tM _ _ _ _ _ _ _ _ (hr16 hc))) (an1 ob22)) ob23 (show((.bool ((x2==(2:Int))&&r16)):V)=(.bool true)from(congrArg (fun x=>((.bool x):V)) hg8_7)) (aaK (cpT (f66_ok _ _ _ _ _ _ _ _ _ _ _ _ _ _ _ hr17)) (an2 ob24 ob25)) ob26) ?_;refine tN (cK (!r17.1) (fun hc8=> ?_) fun hc8=> ?_)
    ·replace h:=aE hc8 h;refine bC [] [] ⟨69,[(4,.i (3:Int))],(f43z3 r17),[2000],0⟩ trivial ?_;obtain rfl:=aaD h;refine aaH (aR ?_);exact bK
    ·replace h:=aF hc8 h;refine aaG ?_;exact jN (r17.2.1,r17.2.2.1,r17.2.2.2.1,r17.2.2.2.2.1,r17.2.2.2.2.2.1,r17.2.2.2.2.2.2.1,r17.2.2.2.2.2.2.2) LR h
   ·replace h:=xD hg8_7 h;have ob22:=idA (((x2==(2:Int))==true)=true);have ob23:=bqA (x2==(2:Int)) true;have ob24:=idA (false=true);have ob25:=idA (false=true);have ob26:=idA (false=true);have ob27:true=true->false=true->false=true:=fun _ h=>h;refine bB [] [(5,⟨[.agg (aCH x1 x2 x3 x4 x5 x6 x7)],[],[],[],.bool r16,[],[],[]⟩),(7,⟨[],[],[],[],(.bool false),[],[0],[]⟩),(10,⟨[],[],[],[],.bool false,[],[],[]⟩)] ⟨69,[(68,.bool false),(1000001,pT),(1000002,bT),(1000003,bT)],(f43z2 x8 x9 x10 x11 x12 x13 x14),[2000],0⟩ (an6 (aaK (cpC fun hc=>(tM _ _ _ _ _ _ _ _ (hr16 hc))) (an1 ob22)) ob23 (show((.bool ((x2==(2:Int))&&r16)):V)=(.bool false)from(congrArg (fun x=>((.bool x):V)) (aeL.2 hg8_7))) (aaK (show(rX Tryz.prog false 66 [] [] [] [] [] [.ptr 2000 0,.agg (aCH x1 x2 x3 x4 x5 x6 x7)] [] (.bool false) [])from⟨nofun,nofun,.inl rfl⟩) (an2 ob24 ob25)) (an1 ob26) ob27) ?_;refine tN (cK false (fun hc=> ?_) fun hc=> ?_)
    ·cases hc
    ·clear hc;refine aaG ?_;exact jN (x8,x9,x10,x11,x12,x13,x14) LR h
  ·rintro⟨l18,l19,l20,l21,l22,l23,l24⟩ h;replace h:=(congrFun hK3 _).symm.trans h;refine aN [] [] [4] [2000,2001,2002,2003,2004,2005,2006,2007] trivial ?_;obtain rfl:=aaD h;refine aaH ?_;exact bK
abbrev f42z0 (r16:Int×(List Tq5)×(List Tq4)×gB×(List Tq2)×gB×rZ×rY):aJ:=[(2000,.cells 115 [.own 2001,.own 2002,.own 2003,.own 2004,.own 2005,.own 2006,.own 2007]),(2001,bP (V.int .i64) 0 eG [] r16.2.1),(2002,bP (V.int .i64) 0 eN false r16.2.2.1),(2003,bP aP (default:Tq2) cH [] r16.2.2.2.1),(2004,bP (V.int .i64) 0 eM 0 r16.2.2.2.2.1),(2005,bP aP (default:Tq2) cH [] r16.2.2.2.2.2.1),(2006,bP bO (default:Tq0) eV false r16.2.2.2.2.2.2.1),(2007,bP bJ (default:Tq2) eP false r16.2.2.2.2.2.2.2),(2008,.cells 3 [.i r16.1])]
def f42 (x1 x2 x3 x4 x5:Int) (x6 x7:aaA) (x8:List Tq5) (x9:List Tq4) (x10:List Ty2) (x11:List Tq2) (x12:List Ty2) (x13:List (Tq0×Bool)) (x14:List (Tq2×Bool)) (x15:Int):Option (Bool×(List Tq5)×(List Tq4)×gB×(List Tq2)×gB×rZ×rY×Int):=
 (f43 x1 x2 x3 x4 x5 x6 x7 x8 x9 x10 x11 x12 x13 x14).bind fun r16=>
 some ((r16.1 !=(0:Int)),r16.2.1,r16.2.2.1,r16.2.2.2.1,r16.2.2.2.2.1,r16.2.2.2.2.2.1,r16.2.2.2.2.2.2.1,r16.2.2.2.2.2.2.2,r16.1)
theorem f42_ok (x1 x2 x3 x4 x5:Int) (x6 x7:aaA) (x8:List Tq5) (x9:List Tq4) (x10:List Ty2) (x11:List Tq2) (x12:List Ty2) (x13:List (Tq0×Bool)) (x14:List (Tq2×Bool)) (x15:Int) (r:Bool×(List Tq5)×(List Tq4)×gB×(List Tq2)×gB×rZ×rY×Int) (h:f42 x1 x2 x3 x4 x5 x6 x7 x8 x9 x10 x11 x12 x13 x14 x15=some r):aG Tryz.prog 42 [(1,pT),(2,bT),(3,bT)] [2000,2008] [(2000,.cells 115 [.own 2001,.own 2002,.own 2003,.own 2004,.own 2005,.own 2006,.own 2007]),(2001,bP (V.int .i64) 0 eG [] x8),(2002,bP (V.int .i64) 0 eN false x9),(2003,bP aP (default:Tq2) cH [] x10),(2004,bP (V.int .i64) 0 eM 0 x11),(2005,bP aP (default:Tq2) cH [] x12),(2006,bP bO (default:Tq0) eV false x13),(2007,bP bJ (default:Tq2) eP false x14),(2008,.cells 3 [.i x15])] [.ptr 2000 0,.agg [.i x1,.i x2,.i x3,.i x4,.i x5,.str x6,.str x7,.opq,.opq,.opq,.opq,.opq,.opq,.opq,.opq,.opq,.opq,.opq,.opq,.opq,.opq,.opq,.opq,.opq,.opq,.opq,.opq,.opq],.ptr 2008 0] (.bool r.1) [(2000,.cells 115 [.own 2001,.own 2002,.own 2003,.own 2004,.own 2005,.own 2006,.own 2007]),(2001,bP (V.int .i64) 0 eG [] r.2.1),(2002,bP (V.int .i64) 0 eN false r.2.2.1),(2003,bP aP (default:Tq2) cH [] r.2.2.2.1),(2004,bP (V.int .i64) 0 eM 0 r.2.2.2.2.1),(2005,bP aP (default:Tq2) cH [] r.2.2.2.2.2.1),(2006,bP bO (default:Tq0) eV false r.2.2.2.2.2.2.1),(2007,bP bJ (default:Tq2) eP false r.2.2.2.2.2.2.2.1),(2008,.cells 3 [.i r.2.2.2.2.2.2.2.2])]:=by
 unfold f42 at h;refine aG.body 0 _ _ Tryz.func42 rfl Tryz.ntmps42 rfl rfl ?_;refine aN [] [] [0,2,4,1000001,1000002,1000003] [4,2000,2001,2002,2003,2004,2005,2006,2007,2008] trivial ?_;refine aaE ?_;obtain⟨r16,hr16,h⟩:=bind_ok h;refine aZ [] [(2,⟨[.ptr 2000 0,.agg (qpc x1 x2 x3 x4 x5 x6 x7)],[2000,2001,2002,2003,2004,2005,2006,2007],[2000],((2000,.cells 115 [.own 2001,.own 2002,.own 2003,.own 2004,.own 2005,.own 2006,.own 2007])::qmp 2001 r16.2.1 r16.2.2.1 r16.2.2.2.1 r16.2.2.2.2.1 r16.2.2.2.2.2.1 r16.2.2.2.2.2.2.1 r16.2.2.2.2.2.2.2),.i r16.1,[2001,2002,2003,2004,2005,2006,2007],[],[1,2,3]⟩)] [2,1000001,1000002,1000003] [2000,2001,2002,2003,2004,2005,2006,2007,2008] (an2 (cpT (f43_ok _ _ _ _ _ _ _ _ _ _ _ _ _ _ _ hr16)) trivial) ?_;refine tN (bC [] [] ⟨11,[(5,.bool (r16.1 !=(0:Int)))],(f42z0 r16),[2000,2008],0⟩ trivial ?_);obtain rfl:=aaD h;refine aaH ?_;exact bK
abbrev rH (x1 x2 x3 x4 x5:Int) (x6 x7:aaA):List V:=[.i x1,.i x2,.i x3,.i x4,.i x5,.str x6,.str x7,.opq,.opq,.opq,.opq,.opq,.opq,.opq,.opq,.opq,.opq,.opq,.opq,.opq,.opq,.opq,.opq,.opq,.opq,.opq,.opq,.opq]
abbrev f45z1 (x1 x2 x3 x4 x5:Int) (x6 x7:aaA) (x8:List Tq5) (x9:List Tq4) (x10:List Ty2) (x11:List Tq2) (x12:List Ty2) (x13:List (Tq0×Bool)) (x14:List (Tq2×Bool)):aJ:=[(3,.cells 51 (rH x1 x2 x3 x4 x5 x6 x7)),(2000,.cells 115 [.own 2001,.own 2002,.own 2003,.own 2004,.own 2005,.own 2006,.own 2007]),(2001,bP (V.int .i64) 0 eG [] x8),(2002,bP (V.int .i64) 0 eN false x9),(2003,bP aP (default:Tq2) cH [] x10),(2004,bP (V.int .i64) 0 eM 0 x11),(2005,bP aP (default:Tq2) cH [] x12),(2006,bP bO (default:Tq0) eV false x13),(2007,bP bJ (default:Tq2) eP false x14)]
abbrev mO :List V:=[.own 2001,.own 2002,.own 2003,.own 2004,.own 2005,.own 2006,.own 2007]
abbrev f45z3 (x1 x2 x3 x4 x5:Int) (x6 x7:aaA) (l16:List Tq5) (l17:List Tq4) (x10:List Ty2) (x11:List Tq2) (x12:List Ty2) (x13:List (Tq0×Bool)) (x14:List (Tq2×Bool)):aJ:=[(3,.cells 51 (rH x1 x2 x3 x4 x5 x6 x7)),(2000,.cells 115 (mO)),(2001,bP (V.int .i64) 0 eG [] l16),(2002,bP (V.int .i64) 0 eN false l17),(2003,bP aP (default:Tq2) cH [] x10),(2004,bP (V.int .i64) 0 eM 0 x11),(2005,bP aP (default:Tq2) cH [] x12),(2006,bP bO (default:Tq0) eV false x13),(2007,bP bJ (default:Tq2) eP false x14)]
abbrev f45z4 (x1 x2 x3 x4 x5:Int) (x6 x7:aaA) (l19:List Tq5) (l20:List Tq4) (l21:List Ty2) (l22:List Tq2) (x12:List Ty2) (x13:List (Tq0×Bool)) (x14:List (Tq2×Bool)):aJ:=[(3,.cells 51 (rH x1 x2 x3 x4 x5 x6 x7)),(10,.cells 145 [.i x3,.i x5]),(2000,.cells 115 (mO)),(2001,bP (V.int .i64) 0 eG [] l19),(2002,bP (V.int .i64) 0 eN false l20),(2003,bP aP (default:Tq2) cH [] l21),(2004,bP (V.int .i64) 0 eM 0 l22),(2005,bP aP (default:Tq2) cH [] x12),(2006,bP bO (default:Tq0) eV false (gA x13 (x3,x5,x6) true)),(2007,bP bJ (default:Tq2) eP false x14)]
abbrev f45z5 (x1 x2 x3 x4 x5:Int) (x6 x7:aaA) (l16:List Tq5) (l17:List Tq4) (l18:List Ty2) (x11:List Tq2) (x12:List Ty2) (x13:List (Tq0×Bool)) (x14:List (Tq2×Bool)):aJ:=[(3,.cells 51 (rH x1 x2 x3 x4 x5 x6 x7)),(2000,.cells 115 (mO)),(2001,bP (V.int .i64) 0 eG [] l16),(2002,bP (V.int .i64) 0 eN false l17),(2003,bP aP (default:Tq2) cH [] l18),(2004,bP (V.int .i64) 0 eM 0 x11),(2005,bP aP (default:Tq2) cH [] x12),(2006,bP bO (default:Tq0) eV false x13),(2007,bP bJ (default:Tq2) eP false x14)]
abbrev f45z6 :List (Nat×V):=[(0,.ptr 2000 0),(3,.ptr 3 0)]
abbrev f45z7 (r15:Tq4):List (Nat×V):=[(0,.ptr 2000 0),(3,.ptr 3 0),(4,.i r15.1)]
abbrev aAx (x3 x5:Int):List V:=[.i x3,.i x5]
def f45 (x1 x2 x3 x4 x5:Int) (x6 x7:aaA) (x8:List Tq5) (x9:List Tq4) (x10:List Ty2) (x11:List Tq2) (x12:List Ty2) (x13:List (Tq0×Bool)) (x14:List (Tq2×Bool)):Option Ty6:=
 jn (fun((l19,l20,l21,l22):(List Tq5)×(List Tq4)×gB×(List Tq2))=>
 eO ((x2==(1:Int))==true) (f57 x1 x2 x3 x4 x5 x6 x7) fun r23=>
 if((x2==(1:Int))&&r23)then(
 if(!(hM x12 (x3,x5)))then(
 some (l19,l20,l21,l22,(gA x12 (x3,x5) x6),(gA x13 (x3,x5,x6) true),x14)
 )else(
 some (l19,l20,l21,l22,x12,(gA x13 (x3,x5,x6) true),x14)
 )
 )else(
 eO ((x2==(2:Int))==true) (f57 x1 x2 x3 x4 x5 x6 x7) fun r24=>
 if((x2==(2:Int))&&r24)then(
 some (l19,l20,l21,l22,x12,x13,(gA x14 (x3,x5) true))
 )else(
 some (l19,l20,l21,l22,x12,x13,x14)
 )
 )
 ) fun(K1:((List Tq5)×(List Tq4)×gB×(List Tq2))->Option Ty6)=>
 (f50 x1 x2 x3 x4 x5 x6 x7).bind fun r15=>
 if r15.2 then(
 jn (fun((l16,l17):(List Tq5)×(List Tq4))=>
 jn (fun(l18:List Ty2)=>
 if(x2==(3:Int))then(
 chk (-9223372036854775808<=((gM x11 (0:Int) x3)+(1:Int))/\((gM x11 (0:Int) x3)+(1:Int))<=9223372036854775807)<|
 K1 (l16,l17,l18,(gA x11 x3 ((gM x11 (0:Int) x3)+(1:Int))))
 )else(
 K1 (l16,l17,l18,x11)
 )
 ) fun(K3:gB->Option Ty6)=>
 if(!(hM x10 (r15.1,x4)))then(
 K3 (gA x10 (r15.1,x4) x6)
 )else(
 K3 x10
 )
 ) fun(K2:((List Tq5)×(List Tq4))->Option Ty6)=>
 if(!(hM x8 x4))then(
 K2 ((gA x8 x4 x6),x9)
 )else(
 if(!((gM x8 [] x4)==x6))then(
 K2 (x8,(gA x9 x4 true))
 )else(
 K2 (x8,x9)
 )
 )
 )else(
 K1 (x8,x9,x10,x11)
 )
theorem f45_ok (x1 x2 x3 x4 x5:Int) (x6 x7:aaA) (x8:List Tq5) (x9:List Tq4) (x10:List Ty2) (x11:List Tq2) (x12:List Ty2) (x13:List (Tq0×Bool)) (x14:List (Tq2×Bool)) (r:(List Tq5)×(List Tq4)×gB×(List Tq2)×gB×rZ×rY) (h:f45 x1 x2 x3 x4 x5 x6 x7 x8 x9 x10 x11 x12 x13 x14=some r):aG Tryz.prog 45 [] [2000] [(2000,.cells 115 [.own 2001,.own 2002,.own 2003,.own 2004,.own 2005,.own 2006,.own 2007]),(2001,bP (V.int .i64) 0 eG [] x8),(2002,bP (V.int .i64) 0 eN false x9),(2003,bP aP (default:Tq2) cH [] x10),(2004,bP (V.int .i64) 0 eM 0 x11),(2005,bP aP (default:Tq2) cH [] x12),(2006,bP bO (default:Tq0) eV false x13),(2007,bP bJ (default:Tq2) eP false x14)] [.ptr 2000 0,.agg [.i x1,.i x2,.i x3,.i x4,.i x5,.str x6,.str x7,.opq,.opq,.opq,.opq,.opq,.opq,.opq,.opq,.opq,.opq,.opq,.opq,.opq,.opq,.opq,.opq,.opq,.opq,.opq,.opq,.opq]] (.tup []) [(2000,.cells 115 [.own 2001,.own 2002,.own 2003,.own 2004,.own 2005,.own 2006,.own 2007]),(2001,bP (V.int .i64) 0 eG [] r.1),(2002,bP (V.int .i64) 0 eN false r.2.1),(2003,bP aP (default:Tq2) cH [] r.2.2.1),(2004,bP (V.int .i64) 0 eM 0 r.2.2.2.1),(2005,bP aP (default:Tq2) cH [] r.2.2.2.2.1),(2006,bP bO (default:Tq0) eV false r.2.2.2.2.2.1),(2007,bP bJ (default:Tq2) eP false r.2.2.2.2.2.2)]:=by
 unfold f45 at h;refine aG.body 0 _ _ Tryz.func45 rfl Tryz.ntmps45 rfl rfl ?_;refine aN [] [] [0,3] [3,2000,2001,2002,2003,2004,2005,2006,2007] trivial ?_;obtain⟨K1,hK1,h⟩:=aI h;refine aaR (fun(x:(List Tq5)×(List Tq4)×gB×(List Tq2))=>match x with|(l19,l20,l21,l22)=>⟨139,(f45z6),((3,.cells 51 (rH x1 x2 x3 x4 x5 x6 x7))::(2000,.cells 115 (mO))::qmp 2001 l19 l20 l21 l22 x12 x13 x14),[2000],0⟩) (fun x=>K1 x=some r) ?_ ?_
 ·refine aaE ?_;obtain⟨r15,hr15,h⟩:=bind_ok h;refine aZ [] [(1,⟨[.agg (rH x1 x2 x3 x4 x5 x6 x7)],[],[],[],.tup [.i r15.1,.bool r15.2],[],[],[]⟩)] [0,3,4,5] [3,2000,2001,2002,2003,2004,2005,2006,2007] (an1 (cpT (aBy _ _ _ _ _ _ _ _ hr15))) ?_;refine tN (bC [] [] ⟨139,[(0,.ptr 2000 0),(3,.ptr 3 0),(4,.i r15.1),(18,.bool r15.2)],(f45z1 x1 x2 x3 x4 x5 x6 x7 x8 x9 x10 x11 x12 x13 x14),[2000],0⟩ trivial ?_);refine cK r15.2 (fun hc1=> ?_) fun hc1=> ?_
  ·replace h:=aE hc1 h;obtain⟨K2,hK2,h⟩:=aI h;refine aaR (fun(x:(List Tq5)×(List Tq4))=>match x with|(l16,l17)=>⟨139,(f45z7 r15),(f45z3 x1 x2 x3 x4 x5 x6 x7 l16 l17 x10 x11 x12 x13 x14),[2000],0⟩) (fun x=>K2 x=some r) ?_ ?_
   ·refine aN [] [(6,⟨[.own 2001,.i x4],[2001],[2001],[(2001,bP (V.int .i64) 0 eG [] x8)],.tup [.str (gM x8 [] x4),.bool (hM x8 x4)],[],[],[]⟩)] [0,3,4,6,7] [3,2000,2001,2002,2003,2004,2005,2006,2007] (an1 (aaK (eD (P:=Tryz.prog) Tryz.underlying108 (V.int .i64) kE108 0 eG [] [] (by kernel_rfl) (.tmp 23) (.tmp 25) 118 2001 x8 x4) (eU.same [.own 2001,.i x4]))) ?_;refine aN [] [] [0,3,4,6,30] [3,2000,2001,2002,2003,2004,2005,2006,2007] trivial ?_;refine cK (!(hM x8 x4)) (fun hc2=> ?_) fun hc2=> ?_
    ·replace h:=aE hc2 h;refine bB [] [(8,⟨[.own 2001,.i x4,.str x6],[2001],[2001],[(2001,bP (V.int .i64) 0 eG [] (gA x8 x4 x6))],.any,[],[],[]⟩)] ⟨139,(f45z7 r15),[(3,.cells 51 (rH x1 x2 x3 x4 x5 x6 x7)),(2000,.cells 115 (mO)),(2001,bP (V.int .i64) 0 eG [] (gA x8 x4 x6)),(2002,bP (V.int .i64) 0 eN false x9),(2003,bP aP bN cH [] x10),(2004,bP (V.int .i64) 0 eM 0 x11),(2005,bP aP bN cH [] x12),(2006,bP bO bE eV false x13),(2007,bP bJ bN eP false x14)],[2000],0⟩ (an1 (aaK (fM Tryz.underlying108 (V.int .i64) kE108 (.mapUpdate 108 (.tmp 34) (.tmp 36) (.tmp 38)) (.tmp 34) (.tmp 36) (.tmp 38) (.inr rfl) 0 eG [] (fun _=>rfl) 0 2001 x8 x4 x6) (eU.same [.own 2001,.i x4,.str x6]))) ?_;exact jN ((gA x8 x4 x6),x9) LR h
    ·replace h:=aF hc2 h;refine aN [] [] [0,3,4,42] [3,2000,2001,2002,2003,2004,2005,2006,2007] trivial ?_;refine cK (!((gM x8 [] x4)==x6)) (fun hc3=> ?_) fun hc3=> ?_
     ·replace h:=aE hc3 h;refine bB [] [(6,⟨[.own 2002,.i x4,.bool true],[2002],[2002],[(2002,bP (V.int .i64) 0 eN false (gA x9 x4 true))],.any,[],[],[]⟩)] ⟨139,(f45z7 r15),[(3,.cells 51 (rH x1 x2 x3 x4 x5 x6 x7)),(2000,.cells 115 (mO)),(2001,bP (V.int .i64) 0 eG [] x8),(2002,bP (V.int .i64) 0 eN false (gA x9 x4 true)),(2003,bP aP bN cH [] x10),(2004,bP (V.int .i64) 0 eM 0 x11),(2005,bP aP bN cH [] x12),(2006,bP bO bE eV false x13),(2007,bP bJ bN eP false x14)],[2000],0⟩ (an1 (aaK (fM Tryz.underlying109 (V.int .i64) kE109 (.mapUpdate 109 (.tmp 46) (.tmp 48) (.const (.bool true))) (.tmp 46) (.tmp 48) (.const (.bool true)) (.inr rfl) 0 eN false (fun _=>rfl) 0 2002 x9 x4 true) (eU.same [.own 2002,.i x4,.bool true]))) ?_;exact jN (x8,(gA x9 x4 true)) LR h
     ·replace h:=aF hc3 h;refine aaG ?_;exact jN (x8,x9) LR h
   ·rintro⟨l16,l17⟩ h;replace h:=(congrFun hK2 _).symm.trans h;obtain⟨K3,hK3,h⟩:=aI h;refine aaR (α:=List Ty2) (fun(l18:List Ty2)=>⟨139,(f45z6),(f45z5 x1 x2 x3 x4 x5 x6 x7 l16 l17 l18 x11 x12 x13 x14),[2000],0⟩) (fun x=>K3 x=some r) ?_ ?_
    ·refine aN [] [(8,⟨[.own 2003,.agg [.i r15.1,.i x4]],[2003],[2003],[(2003,bP aP bN cH [] x10)],.tup [.str (gM x10 [] (r15.1,x4)),.bool (hM x10 (r15.1,x4))],[],[],[]⟩)] [0,3,4,9] [3,2000,2001,2002,2003,2004,2005,2006,2007] (an1 (aaK (eD (P:=Tryz.prog) Tryz.underlying110 aP aAg bN cH [] [] (by kernel_rfl) (.tmp 53) (.tmp 57) 118 2003 x10 (r15.1,x4)) (eU.same [.own 2003,.agg [.i r15.1,.i x4]]))) ?_;refine bC [] [] ⟨139,[(0,.ptr 2000 0),(3,.ptr 3 0),(4,.i r15.1),(62,.bool (!(hM x10 (r15.1,x4))))],(f45z3 x1 x2 x3 x4 x5 x6 x7 l16 l17 x10 x11 x12 x13 x14),[2000],0⟩ trivial ?_;refine cK (!(hM x10 (r15.1,x4))) (fun hc4=> ?_) fun hc4=> ?_
     ·replace h:=aE hc4 h;refine aZ [] [(10,⟨[.own 2003,.agg [.i r15.1,.i x4],.str x6],[2003],[2003],[(2003,bP aP bN cH [] (gA x10 (r15.1,x4) x6))],.any,[],[],[]⟩)] [0,3] [3,2000,2001,2002,2003,2004,2005,2006,2007] (an1 (aaK (fM Tryz.underlying110 aP aAg (.mapUpdate 110 (.tmp 66) (.tmp 70) (.tmp 72)) (.tmp 66) (.tmp 70) (.tmp 72) (.inr rfl) bN cH [] (fun _=>rfl) 0 2003 x10 (r15.1,x4) x6) (eU.same [.own 2003,.agg [.i r15.1,.i x4],.str x6]))) ?_;exact jN ((gA x10 (r15.1,x4) x6)) LR h
     ·replace h:=aF hc4 h;refine aaG ?_;exact jN (x10) LR h
    ·rintro l18 h;replace h:=(congrFun hK3 _).symm.trans h;refine aN [] [] [0,3,75] [3,2000,2001,2002,2003,2004,2005,2006,2007] trivial ?_;refine cK (x2==(3:Int)) (fun hc5=> ?_) fun hc5=> ?_
     ·replace h:=aE hc5 h;obtain⟨ob0,h⟩:=aB h;refine bB [] [(6,⟨[.own 2004,.i x3],[2004],[2004],[(2004,bP (V.int .i64) 0 eM 0 x11)],.i (gM x11 (0:Int) x3),[],[],[]⟩),(8,⟨[.own 2004,.i x3,.i ((gM x11 (0:Int) x3)+(1:Int))],[2004],[2004],[(2004,bP (V.int .i64) 0 eM 0 (gA x11 x3 ((gM x11 (0:Int) x3)+(1:Int))))],.any,[],[],[]⟩)] ⟨139,(f45z6),[(3,.cells 51 (rH x1 x2 x3 x4 x5 x6 x7)),(2000,.cells 115 (mO)),(2001,bP (V.int .i64) 0 eG [] l16),(2002,bP (V.int .i64) 0 eN false l17),(2003,bP aP bN cH [] l18),(2004,bP (V.int .i64) 0 eM 0 (gA x11 x3 ((gM x11 (0:Int) x3)+(1:Int)))),(2005,bP aP bN cH [] x12),(2006,bP bO bE eV false x13),(2007,bP bJ bN eP false x14)],[2000],0⟩ (an3 (aaK (fQ (P:=Tryz.prog) Tryz.underlying111 (V.int .i64) kE111 0 eM 0 (0:Int) (by kernel_rfl) (.tmp 79) (.tmp 81) 3 2004 x11 x3) (eU.same [.own 2004,.i x3])) ob0 (aaK (fM Tryz.underlying111 (V.int .i64) kE111 (.mapUpdate 111 (.tmp 79) (.tmp 81) (.tmp 83)) (.tmp 79) (.tmp 81) (.tmp 83) (.inr rfl) 0 eM 0 (fun _=>rfl) 0 2004 x11 x3 ((gM x11 (0:Int) x3)+(1:Int))) (eU.same [.own 2004,.i x3,.i ((gM x11 (0:Int) x3)+(1:Int))]))) ?_;exact jN (l16,l17,l18,(gA x11 x3 ((gM x11 (0:Int) x3)+(1:Int)))) LR h
     ·replace h:=aF hc5 h;refine aaG ?_;exact jN (l16,l17,l18,x11) LR h
  ·replace h:=aF hc1 h;refine aaG ?_;exact jN (x8,x9,x10,x11) LR h
 ·rintro⟨l19,l20,l21,l22⟩ h;replace h:=(congrFun hK1 _).symm.trans h;refine aN [] [] [0,3,10] [3,10,2000,2001,2002,2003,2004,2005,2006,2007] (an1 trivial) ?_;refine aaJ (aaE ?_);obtain⟨r23,hr23,h⟩:=bI h;refine aZ [] [(5,⟨[.agg (rH x1 x2 x3 x4 x5 x6 x7)],[],[],[],.bool r23,[],[],[]⟩)] [0,3,10,89] [3,10,2000,2001,2002,2003,2004,2005,2006,2007] (an2 (aaK (cpC fun hc=>(tM _ _ _ _ _ _ _ _ (hr23 hc))) (an1 (idA (((x2==(1:Int))==true)=true)))) (bqA (x2==(1:Int)) true)) ?_;refine tN (cK ((x2==(1:Int))&&r23) (fun hc6=> ?_) fun hc6=> ?_)
  ·replace h:=aE hc6 h;refine aN [] [(11,⟨[.own 2006,.agg [.i x3,.i x5,.str x6],.bool true],[2006],[2006],[(2006,bP bO bE eV false (gA x13 (x3,x5,x6) true))],.any,[],[],[]⟩)] [0,3,10] [3,10,2000,2001,2002,2003,2004,2005,2006,2007] (an1 (aaK (fM Tryz.underlying112 bO kE112 (.mapUpdate 112 (.tmp 100) (.tmp 107) (.const (.bool true))) (.tmp 100) (.tmp 107) (.const (.bool true)) (.inr rfl) bE eV false (fun _=>rfl) 0 2006 x13 (x3,x5,x6) true) (eU.same [.own 2006,.agg [.i x3,.i x5,.str x6],.bool true]))) ?_;refine aN [] [(5,⟨[.own 2005,.agg (aAx x3 x5)],[2005],[2005],[(2005,bP aP bN cH [] x12)],.tup [.str (gM x12 [] (x3,x5)),.bool (hM x12 (x3,x5))],[],[],[]⟩)] [0,3,10,12] [3,10,2000,2001,2002,2003,2004,2005,2006,2007] (an1 (aaK (eD (P:=Tryz.prog) Tryz.underlying110 aP aAg bN cH [] [] (by kernel_rfl) (.tmp 112) (.tmp 113) 118 2005 x12 (x3,x5)) (eU.same [.own 2005,.agg (aAx x3 x5)]))) ?_;refine bC [] [] ⟨139,[(0,.ptr 2000 0),(3,.ptr 3 0),(10,.ptr 10 0),(118,.bool (!(hM x12 (x3,x5))))],(f45z4 x1 x2 x3 x4 x5 x6 x7 l19 l20 l21 l22 x12 x13 x14),[2000],0⟩ trivial ?_;refine cK (!(hM x12 (x3,x5))) (fun hc7=> ?_) fun hc7=> ?_
   ·replace h:=aE hc7 h;refine bB [] [(7,⟨[.own 2005,.agg (aAx x3 x5),.str x6],[2005],[2005],[(2005,bP aP bN cH [] (gA x12 (x3,x5) x6))],.any,[],[],[]⟩)] ⟨139,[],[(2000,.cells 115 (mO)),(2001,bP (V.int .i64) 0 eG [] l19),(2002,bP (V.int .i64) 0 eN false l20),(2003,bP aP bN cH [] l21),(2004,bP (V.int .i64) 0 eM 0 l22),(2005,bP aP bN cH [] (gA x12 (x3,x5) x6)),(2006,bP bO bE eV false (gA x13 (x3,x5,x6) true)),(2007,bP bJ bN eP false x14)],[2000],0⟩ (an1 (aaK (fM Tryz.underlying110 aP aAg (.mapUpdate 110 (.tmp 122) (.tmp 123) (.tmp 125)) (.tmp 122) (.tmp 123) (.tmp 125) (.inr rfl) bN cH [] (fun _=>rfl) 0 2005 x12 (x3,x5) x6) (eU.same [.own 2005,.agg (aAx x3 x5),.str x6]))) ?_;refine kN ?_;obtain rfl:=aaD h;exact pU (LR (s':=⟨139,[],[(2000,.cells 115 (mO)),(2001,bP (V.int .i64) 0 eG [] l19),(2002,bP (V.int .i64) 0 eN false l20),(2003,bP aP bN cH [] l21),(2004,bP (V.int .i64) 0 eM 0 l22),(2005,bP aP bN cH [] (gA x12 (x3,x5) x6)),(2006,bP bO bE eV false (gA x13 (x3,x5,x6) true)),(2007,bP bJ bN eP false x14)],[2000],0⟩)) (gI _ rfl ⟨rfl,rfl⟩ rfl)
   ·replace h:=aF hc7 h;refine aaG (kN ?_);obtain rfl:=aaD h;exact pU (LR (s':=⟨139,[],[(2000,.cells 115 (mO)),(2001,bP (V.int .i64) 0 eG [] l19),(2002,bP (V.int .i64) 0 eN false l20),(2003,bP aP bN cH [] l21),(2004,bP (V.int .i64) 0 eM 0 l22),(2005,bP aP bN cH [] x12),(2006,bP bO bE eV false (gA x13 (x3,x5,x6) true)),(2007,bP bJ bN eP false x14)],[2000],0⟩)) (gI _ rfl ⟨rfl,rfl⟩ rfl)
  ·replace h:=aF hc6 h;refine aaE ?_;obtain⟨r24,hr24,h⟩:=bI h;refine bB [] [(5,⟨[.agg (rH x1 x2 x3 x4 x5 x6 x7)],[],[],[],.bool r24,[],[],[]⟩)] ⟨139,[(0,.ptr 2000 0),(10,.ptr 10 0),(126,.bool ((x2==(2:Int))&&r24))],((10,.cells 145 (aAx x3 x5))::(2000,.cells 115 (mO))::qmp 2001 l19 l20 l21 l22 x12 x13 x14),[2000],0⟩ (an2 (aaK (cpC fun hc=>(tM _ _ _ _ _ _ _ _ (hr24 hc))) (an1 (idA (((x2==(2:Int))==true)=true)))) (bqA (x2==(2:Int)) true)) ?_;refine tN (cK ((x2==(2:Int))&&r24) (fun hc8=> ?_) fun hc8=> ?_)
   ·replace h:=aE hc8 h;refine bB [] [(5,⟨[.own 2007,.agg (aAx x3 x5),.bool true],[2007],[2007],[(2007,bP bJ bN eP false (gA x14 (x3,x5) true))],.any,[],[],[]⟩)] ⟨139,[],[(2000,.cells 115 (mO)),(2001,bP (V.int .i64) 0 eG [] l19),(2002,bP (V.int .i64) 0 eN false l20),(2003,bP aP bN cH [] l21),(2004,bP (V.int .i64) 0 eM 0 l22),(2005,bP aP bN cH [] x12),(2006,bP bO bE eV false x13),(2007,bP bJ bN eP false (gA x14 (x3,x5) true))],[2000],0⟩ (an1 (aaK (fM Tryz.underlying113 bJ kE113 (.mapUpdate 113 (.tmp 137) (.tmp 138) (.const (.bool true))) (.tmp 137) (.tmp 138) (.const (.bool true)) (.inr rfl) bN eP false (fun _=>rfl) 0 2007 x14 (x3,x5) true) (eU.same [.own 2007,.agg (aAx x3 x5),.bool true]))) ?_;refine kN ?_;obtain rfl:=aaD h;exact pU (LR (s':=⟨139,[],[(2000,.cells 115 (mO)),(2001,bP (V.int .i64) 0 eG [] l19),(2002,bP (V.int .i64) 0 eN false l20),(2003,bP aP bN cH [] l21),(2004,bP (V.int .i64) 0 eM 0 l22),(2005,bP aP bN cH [] x12),(2006,bP bO bE eV false x13),(2007,bP bJ bN eP false (gA x14 (x3,x5) true))],[2000],0⟩)) (gI _ rfl ⟨rfl,rfl⟩ rfl)
   ·replace h:=aF hc8 h;refine aaG (kN ?_);obtain rfl:=aaD h;exact pU (LR (s':=⟨139,[],((2000,.cells 115 (mO))::qmp 2001 l19 l20 l21 l22 x12 x13 x14),[2000],0⟩)) (gI _ rfl ⟨rfl,rfl⟩ rfl)
def oN (x1:List Y51) (K1:Int->Option Tq6):Nat->(Nat×Int×(List Tq5)×(List Tq4)×gB×(List Tq2)×gB×rZ×rY)->Option Tq6
 |0,_=>none
 |k+1,(n4,i5,l6,l7,l8,l9,l10,l11,l12)=>
  if(decide ((n4:Int)<(((x1).length:Nat):Int)))then(
  chk ((n4:Int)<(((x1).length:Nat):Int))<|
  (f42 ((x1.getD n4 (default:Y51)).1) ((x1.getD n4 (default:Y51)).2.1) ((x1.getD n4 (default:Y51)).2.2.1) ((x1.getD n4 (default:Y51)).2.2.2.1) ((x1.getD n4 (default:Y51)).2.2.2.2.1) ((x1.getD n4 (default:Y51)).2.2.2.2.2.1) ((x1.getD n4 (default:Y51)).2.2.2.2.2.2) l6 l7 l8 l9 l10 l11 l12 i5).bind fun r13=>
  if r13.1 then(
  some ((n4:Int),(0:Int),r13.2.2.2.2.2.2.2.2)
  )else(
  (f45 ((x1.getD n4 (default:Y51)).1) ((x1.getD n4 (default:Y51)).2.1) ((x1.getD n4 (default:Y51)).2.2.1) ((x1.getD n4 (default:Y51)).2.2.2.1) ((x1.getD n4 (default:Y51)).2.2.2.2.1) ((x1.getD n4 (default:Y51)).2.2.2.2.2.1) ((x1.getD n4 (default:Y51)).2.2.2.2.2.2) r13.2.1 r13.2.2.1 r13.2.2.2.1 r13.2.2.2.2.1 r13.2.2.2.2.2.1 r13.2.2.2.2.2.2.1 r13.2.2.2.2.2.2.2.1).bind fun r14=>
  chk (((n4:Int)+(1:Int))<=9223372036854775807)<|
  (oN x1 K1 k) ((n4+1),r13.2.2.2.2.2.2.2.2,r14.1,r14.2.1,r14.2.2.1,r14.2.2.2.1,r14.2.2.2.2.1,r14.2.2.2.2.2.1,r14.2.2.2.2.2.2)
  )
  )else(
  K1 i5
  )
abbrev aAz :List V:=[.own 6001,.own 6002,.own 6003,.own 6004,.own 6005,.own 6006,.own 6007]
abbrev f41z1 (x2:Int) (r3:(List Tq5)×(List Tq4)×gB×(List Tq2)×gB×rZ×rY):aJ:=[(6,.cells 115 (aAz)),(2000,.cells 3 [.i x2]),(6001,bP (V.int .i64) 0 eG [] r3.1),(6002,bP (V.int .i64) 0 eN false r3.2.1),(6003,bP aP (default:Tq2) cH [] r3.2.2.1),(6004,bP (V.int .i64) 0 eM 0 r3.2.2.2.1),(6005,bP aP (default:Tq2) cH [] r3.2.2.2.2.1),(6006,bP bO (default:Tq0) eV false r3.2.2.2.2.2.1),(6007,bP bJ (default:Tq2) eP false r3.2.2.2.2.2.2)]
abbrev f41z2 (r13:Bool×(List Tq5)×(List Tq4)×gB×(List Tq2)×gB×rZ×rY×Int) (r14:(List Tq5)×(List Tq4)×gB×(List Tq2)×gB×rZ×rY):aJ:=[(6,.cells 115 (aAz)),(2000,.cells 3 [.i r13.2.2.2.2.2.2.2.2]),(6001,bP (V.int .i64) 0 eG [] r14.1),(6002,bP (V.int .i64) 0 eN false r14.2.1),(6003,bP aP (default:Tq2) cH [] r14.2.2.1),(6004,bP (V.int .i64) 0 eM 0 r14.2.2.2.1),(6005,bP aP (default:Tq2) cH [] r14.2.2.2.2.1),(6006,bP bO (default:Tq0) eV false r14.2.2.2.2.2.1),(6007,bP bJ (default:Tq2) eP false r14.2.2.2.2.2.2)]
def f41 (x1:List Y51) (x2:Int):Option Tq6:=
 (f44).bind fun r3=>
 jn (fun(i15:Int)=>
 some ((0:Int),(13:Int),i15)
 ) fun(K1:Int->Option Tq6)=>
 oN x1 K1 aY (0,x2,r3.1,r3.2.1,r3.2.2.1,r3.2.2.2.1,r3.2.2.2.2.1,r3.2.2.2.2.2.1,r3.2.2.2.2.2.2)
theorem f41_ok (x1:List Y51) (x2:Int) (r:Tq6) (h:f41 x1 x2=some r):aG Tryz.prog 41 [(1,pT),(2,bT),(3,bT)] [2000] [(2000,.cells 3 [.i x2])] [vL 28 sB (default:Y51) x1,.fn (.func 42) [.ptr 2000 0]] (.tup [.i r.1,.i r.2.1]) [(2000,.cells 3 [.i r.2.2])]:=by
 unfold f41 at h;refine aG.body 0 _ _ Tryz.func41 rfl Tryz.ntmps41 rfl rfl ?_;refine aN [] [] [0,1,1000001,1000002,1000003] [2000] trivial ?_;refine aaE ?_;obtain⟨r3,hr3,h⟩:=bind_ok h;refine bB [] [(0,⟨[],[],[],(qmp 6001 r3.1 r3.2.1 r3.2.2.1 r3.2.2.2.1 r3.2.2.2.2.1 r3.2.2.2.2.2.1 r3.2.2.2.2.2.2),.agg (aAz),[6001,6002,6003,6004,6005,6006,6007],[],[]⟩)] ⟨24,[(0,aO x1),(1,.fn (.func 42) [.ptr 2000 0]),(6,.ptr 6 0),(1000001,pT),(1000002,bT),(1000003,bT)],(f41z1 x2 r3),[2000],0⟩ (an2 (cpT (aG.ren (aV 3006 6007) (aD 3006 6007) rfl (aG.ren (aV 3005 6006) (aD 3005 6006) rfl (aG.ren (aV 3004 6005) (aD 3004 6005) rfl (aG.ren (aV 3003 6004) (aD 3003 6004) rfl (aG.ren (aV 3002 6003) (aD 3002 6003) rfl (aG.ren (aV 3001 6002) (aD 3001 6002) rfl (aG.ren (aV 3000 6001) (aD 3000 6001) rfl (f44_ok _ hr3))))))))) trivial) ?_;refine tN ?_;obtain⟨K1,hK1,h⟩:=aI h;refine aaR (α:=Int) (fun(i15:Int)=>⟨24,[(1000001,pT),(1000002,bT),(1000003,bT)],[(2000,.cells 3 [.i i15])],[2000],0⟩) (fun x=>K1 x=some r) ?_ ?_
 ·refine aN [] [] [1,6,10,11,12,1000001,1000002,1000003] [6,2000,6001,6002,6003,6004,6005,6006,6007] trivial ?_;refine aaJ (abG (α:=Nat×(Nat×Int×(List Tq5)×(List Tq4)×gB×(List Tq2)×gB×rZ×rY)) (fun x=>match x with|(_,n4,i5,l6,l7,l8,l9,l10,l11,l12)=>⟨24,[(1,.fn (.func 42) [.ptr 2000 0]),(6,.ptr 6 0),(10,aO x1),(11,.i (lZ x1)),(12,.i (n4:Int)),(1000001,pT),(1000002,bT),(1000003,bT)],((6,.cells 115 (aAz))::(2000,.cells 3 [.i i5])::qmp 6001 l6 l7 l8 l9 l10 l11 l12),[2000],0⟩) (fun x=>oN x1 K1 x.1 x.2=some r) (fun x=>x.1) (aY,0,x2,r3.1,r3.2.1,r3.2.2.1,r3.2.2.2.1,r3.2.2.2.2.1,r3.2.2.2.2.2.1,r3.2.2.2.2.2.2) LR h ?_)
  rintro⟨k0,n4,i5,l6,l7,l8,l9,l10,l11,l12⟩ h
  cases k0 with
  |zero=>exact nEx h
  |succ k0=>
  obtain⟨C0,hC0⟩:∃C,C=oN x1 K1 k0:=⟨_,rfl⟩;replace h:=(oN.eq_2 ..).symm.trans h
  try rw[<-hC0]at h
  refine bC [] [] ⟨24,[(1,.fn (.func 42) [.ptr 2000 0]),(6,.ptr 6 0),(10,aO x1),(11,.i (lZ x1)),(12,.i (n4:Int)),(13,.bool (decide ((n4:Int)<(lZ x1)))),(1000001,pT),(1000002,bT),(1000003,bT)],((6,.cells 115 (aAz))::(2000,.cells 3 [.i i5])::qmp 6001 l6 l7 l8 l9 l10 l11 l12),[2000],0⟩ trivial ?_;refine aaE (cK (decide ((n4:Int)<(lZ x1))) (fun hc1=> ?_) fun hc1=> ?_)
  ·replace h:=aE hc1 h;refine aaG (tN (aaE (aaJ (aaE ?_))));obtain⟨ob0p,h⟩:=aB h;refine aZ [] [] [1,6,7,8,10,11,12,1000001,1000002,1000003] [6,8,2000,6001,6002,6003,6004,6005,6006,6007] (an2 (iN ob0p) trivial) ?_;refine tN (aaE (aaE ?_));obtain⟨r13,hr13,h⟩:=bind_ok h;refine aZ [] [(2,⟨[.ptr 6 0,.agg (qpt (x1.getD n4 aH)),.ptr 2000 0],[6,6001,6002,6003,6004,6005,6006,6007,2000],[6,2000],[(6,.cells 115 (aAz)),(6001,bP (V.int .i64) 0 eG [] r13.2.1),(6002,bP (V.int .i64) 0 eN false r13.2.2.1),(6003,bP aP bN cH [] r13.2.2.2.1),(6004,bP (V.int .i64) 0 eM 0 r13.2.2.2.2.1),(6005,bP aP bN cH [] r13.2.2.2.2.2.1),(6006,bP bO bE eV false r13.2.2.2.2.2.2.1),(6007,bP bJ bN eP false r13.2.2.2.2.2.2.2.1),(2000,.cells 3 [.i r13.2.2.2.2.2.2.2.2])],.bool r13.1,[6001,6002,6003,6004,6005,6006,6007],[],[1,2,3]⟩)] [1,6,7,8,10,11,12,19,1000001,1000002,1000003] [6,8,2000,6001,6002,6003,6004,6005,6006,6007] (an1 (cpT (aG.ren (aV 2008 2000) (aD 2008 2000) rfl (aG.ren (aV 2007 6007) (aD 2007 6007) rfl (aG.ren (aV 2006 6006) (aD 2006 6006) rfl (aG.ren (aV 2005 6005) (aD 2005 6005) rfl (aG.ren (aV 2004 6004) (aD 2004 6004) rfl (aG.ren (aV 2003 6003) (aD 2003 6003) rfl (aG.ren (aV 2002 6002) (aD 2002 6002) rfl (aG.ren (aV 2001 6001) (aD 2001 6001) rfl (aG.ren (aV 2000 6) (aD 2000 6) rfl (f42_ok _ _ _ _ _ _ _ _ _ _ _ _ _ _ _ _ hr13)))))))))))) ?_;refine tN (cK r13.1 (fun hc2=> ?_) fun hc2=> ?_)
   ·replace h:=aE hc2 h;refine bC [] [] ⟨24,[(4,.i (n4:Int)),(5,.i (0:Int))],[(2000,.cells 3 [.i r13.2.2.2.2.2.2.2.2])],[2000],0⟩ trivial ?_;obtain rfl:=aaD h;refine aaH (tR (kR (tR (tR (kR (aR ?_))))));exact bK
   ·replace h:=aF hc2 h;refine aaG (tN ?_);obtain⟨r14,hr14,h⟩:=bind_ok h;refine aZ [] [(1,⟨[.ptr 6 0,.agg (qpt (x1.getD n4 aH))],[6,6001,6002,6003,6004,6005,6006,6007],[6],((6,.cells 115 (aAz))::qmp 6001 r14.1 r14.2.1 r14.2.2.1 r14.2.2.2.1 r14.2.2.2.2.1 r14.2.2.2.2.2.1 r14.2.2.2.2.2.2),.tup [],[6001,6002,6003,6004,6005,6006,6007],[],[]⟩)] [1,6,10,11,12,1000001,1000002,1000003] [6,2000,6001,6002,6003,6004,6005,6006,6007] (an1 (cpT (aG.ren (aV 2007 6007) (aD 2007 6007) rfl (aG.ren (aV 2006 6006) (aD 2006 6006) rfl (aG.ren (aV 2005 6005) (aD 2005 6005) rfl (aG.ren (aV 2004 6004) (aD 2004 6004) rfl (aG.ren (aV 2003 6003) (aD 2003 6003) rfl (aG.ren (aV 2002 6002) (aD 2002 6002) rfl (aG.ren (aV 2001 6001) (aD 2001 6001) rfl (aG.ren (aV 2000 6) (aD 2000 6) rfl (f45_ok _ _ _ _ _ _ _ _ _ _ _ _ _ _ _ hr14))))))))))) ?_;refine kN (tN ?_);obtain⟨ob1p,h⟩:=aB h;refine bB [] [] ⟨24,[(1,.fn (.func 42) [.ptr 2000 0]),(6,.ptr 6 0),(10,aO x1),(11,.i (lZ x1)),(12,.i (((n4+1):Nat):Int)),(1000001,pT),(1000002,bT),(1000003,bT)],(f41z2 r13 r14),[2000],0⟩ (an1 (iP ob1p)) ?_;rw[hC0]at h;exact lN (_,(n4+1),r13.2.2.2.2.2.2.2.2,r14.1,r14.2.1,r14.2.2.1,r14.2.2.2.1,r14.2.2.2.2.1,r14.2.2.2.2.2.1,r14.2.2.2.2.2.2) LR h (aaM _)
  ·replace h:=aF hc1 h;refine abJ (tE (tE (kS ?_)));exact jN (i5) LR h
 ·rintro i15 h;replace h:=(congrFun hK1 _).symm.trans h;refine aN [] [] [4,5] [2000] trivial ?_;obtain rfl:=aaD h;refine aaH ?_;exact bK
def f13 (x1:List Ty0) (x2:List Tq7) (x3:BitVec 16) (x4:List Ty1) (x5:List Int) (x6:List Ty4) (x7:List Y51):Option Tq6:=
 (f41 x7 (0:Int)).bind fun r8=>
 some (r8.1,r8.2.2,r8.2.1)
theorem yU (x1:List Ty0) (x2:List Tq7) (x3:BitVec 16) (x4:List Ty1) (x5:List Int) (x6:List Ty4) (x7:List Y51) (r:Tq6) (h:f13 x1 x2 x3 x4 x5 x6 x7=some r):aG Tryz.prog 13 [(1,pT),(2,bT),(3,bT)] [] [] [.agg [vL 1 eS [] x1,vL 2 eSW (default:Tq7) x2,.b16 x3,vL 6 dL (default:aaA×Int×BitVec 16×aaB×aaB×cU) x4,vL 1 eI 0 x5,vL 3 aX (default:aaA×Bool×cU) x6],vL 28 sB (default:Y51) x7] (.tup [.i r.1,.i r.2.1,.i r.2.2]) []:=by
 unfold f13 at h;refine aG.body 0 _ _ Tryz.func13 rfl Tryz.ntmps13 rfl rfl ?_;refine aN [] [] [1,1000001,1000002,1000003] [] trivial ?_;refine aN [] [] [1,7,1000001,1000002,1000003] [7] (an1 trivial) ?_;refine aaE ?_;obtain⟨r8,hr8,h⟩:=bind_ok h;refine aZ [] [(2,⟨[aO x7,.fn (.func 42) [.ptr 7 0]],[7],[7],[(7,.cells 3 [.i r8.2.2])],.tup [.i r8.1,.i r8.2.1],[],[],[1,2,3]⟩)] [7,8,9,1000001,1000002,1000003] [7] (an1 (cpT (aG.ren (aV 2000 7) (aD 2000 7) rfl (f41_ok _ _ _ hr8)))) ?_;refine tN (bC [] [] ⟨19,[(4,.i r8.1),(5,.i r8.2.2),(6,.i r8.2.1)],[],[],0⟩ trivial ?_);obtain rfl:=aaD h;refine aaH ?_;exact bK
def yT (x1:List Y51) (K1:Ty6->Option (List Ty0)):Nat->(Nat×(List Tq5)×(List Tq4)×gB×(List Tq2)×gB×rZ×rY)->Option (List Ty0)
 |0,_=>none
 |k+1,(n3,l4,l5,l6,l7,l8,l9,l10)=>
  if(decide ((n3:Int)<(((x1).length:Nat):Int)))then(
  chk ((n3:Int)<(((x1).length:Nat):Int))<|
  (f45 ((x1.getD n3 (default:Y51)).1) ((x1.getD n3 (default:Y51)).2.1) ((x1.getD n3 (default:Y51)).2.2.1) ((x1.getD n3 (default:Y51)).2.2.2.1) ((x1.getD n3 (default:Y51)).2.2.2.2.1) ((x1.getD n3 (default:Y51)).2.2.2.2.2.1) ((x1.getD n3 (default:Y51)).2.2.2.2.2.2) l4 l5 l6 l7 l8 l9 l10).bind fun r11=>
  chk (((n3:Int)+(1:Int))<=9223372036854775807)<|
  (yT x1 K1 k) ((n3+1),r11.1,r11.2.1,r11.2.2.1,r11.2.2.2.1,r11.2.2.2.2.1,r11.2.2.2.2.2.1,r11.2.2.2.2.2.2)
  )else(
  K1 (l4,l5,l6,l7,l8,l9,l10)
  )
def yS (l12:List Tq5) (l13:List Tq4):Nat->(List Ty0)->Option (List Ty0)
 |0,_=>none
 |k+1,l19=>
  if(!(hM l12 (((l19).length:Nat):Int)))=true then(
  some l19
  )else(
  if(gM l13 false (((l19).length:Nat):Int))then(
  some l19
  )else(
  chk (((l19).length+1) *16<=140737488355328)<|
  (yS l12 l13 k) (l19++[(gM l12 [] (((l19).length:Nat):Int))])
  )
  )
abbrev vI :List V:=[.own 6001,.own 6002,.own 6003,.own 6004,.own 6005,.own 6006,.own 6007]
abbrev f14z1 (r11:(List Tq5)×(List Tq4)×gB×(List Tq2)×gB×rZ×rY):aJ:=[(3,.cells 115 (vI)),(6001,bP (V.int .i64) 0 eG [] r11.1),(6002,bP (V.int .i64) 0 eN false r11.2.1),(6003,bP aP (default:Tq2) cH [] r11.2.2.1),(6004,bP (V.int .i64) 0 eM 0 r11.2.2.2.1),(6005,bP aP (default:Tq2) cH [] r11.2.2.2.2.1),(6006,bP bO (default:Tq0) eV false r11.2.2.2.2.2.1),(6007,bP bJ (default:Tq2) eP false r11.2.2.2.2.2.2)]
abbrev f14z2 (l19:List Ty0) (l12:List Tq5) (l13:List Tq4) (l14:List Ty2) (l15:List Tq2) (l16:List Ty2) (l17:List (Tq0×Bool)) (l18:List (Tq2×Bool)):aJ:=[(3,.cells 115 (vI)),(5006,bL 9 1 eS [] l19),(6001,bP (V.int .i64) 0 eG [] l12),(6002,bP (V.int .i64) 0 eN false l13),(6003,bP aP (default:Tq2) cH [] l14),(6004,bP (V.int .i64) 0 eM 0 l15),(6005,bP aP (default:Tq2) cH [] l16),(6006,bP bO (default:Tq0) eV false l17),(6007,bP bJ (default:Tq2) eP false l18)]
abbrev f14z3 (r2:(List Tq5)×(List Tq4)×gB×(List Tq2)×gB×rZ×rY):aJ:=[(3,.cells 115 (vI)),(6001,bP (V.int .i64) 0 eG [] r2.1),(6002,bP (V.int .i64) 0 eN false r2.2.1),(6003,bP aP (default:Tq2) cH [] r2.2.2.1),(6004,bP (V.int .i64) 0 eM 0 r2.2.2.2.1),(6005,bP aP (default:Tq2) cH [] r2.2.2.2.2.1),(6006,bP bO (default:Tq0) eV false r2.2.2.2.2.2.1),(6007,bP bJ (default:Tq2) eP false r2.2.2.2.2.2.2)]
abbrev f14z4 (l4:List Tq5) (l5:List Tq4) (l6:List Ty2) (l7:List Tq2) (l8:List Ty2) (l9:List (Tq0×Bool)) (l10:List (Tq2×Bool)):aJ:=[(3,.cells 115 (vI)),(6001,bP (V.int .i64) 0 eG [] l4),(6002,bP (V.int .i64) 0 eN false l5),(6003,bP aP (default:Tq2) cH [] l6),(6004,bP (V.int .i64) 0 eM 0 l7),(6005,bP aP (default:Tq2) cH [] l8),(6006,bP bO (default:Tq0) eV false l9),(6007,bP bJ (default:Tq2) eP false l10)]
abbrev f14z5 (l12:List Tq5) (l13:List Tq4) (l14:List Ty2) (l15:List Tq2) (l16:List Ty2) (l17:List (Tq0×Bool)) (l18:List (Tq2×Bool)):aJ:=[(3,.cells 115 (vI)),(6001,bP (V.int .i64) 0 eG [] l12),(6002,bP (V.int .i64) 0 eN false l13),(6003,bP aP (default:Tq2) cH [] l14),(6004,bP (V.int .i64) 0 eM 0 l15),(6005,bP aP (default:Tq2) cH [] l16),(6006,bP bO (default:Tq0) eV false l17),(6007,bP bJ (default:Tq2) eP false l18)]
abbrev f14z6 :=gB
abbrev f14z7 :List (Nat×V):=[(3,.ptr 3 0),(6,.own 5006)]
def f14 (x1:List Y51):Option (List Ty0):=
 (f44).bind fun r2=>
 jn (fun((l12,l13,l14,l15,l16,l17,l18):(List Tq5)×(List Tq4)×gB×(List Tq2)×gB×rZ×rY)=>
 yS l12 l13 aY []
 ) fun(K1:Ty6->Option (List Ty0))=>
 yT x1 K1 aY (0,r2.1,r2.2.1,r2.2.2.1,r2.2.2.2.1,r2.2.2.2.2.1,r2.2.2.2.2.2.1,r2.2.2.2.2.2.2)
theorem f14_ok (x1:List Y51) (r:List Ty0) (h:f14 x1=some r):aG Tryz.prog 14 [] [] [] [vL 28 sB (default:Y51) x1] (.own 3000) [(3000,bL 9 1 eS [] r)]:=by
 unfold f14 at h;refine aG.body 0 _ _ Tryz.func14 rfl Tryz.ntmps14 rfl rfl ?_;refine aN [] [] [0] [] trivial ?_;refine aaE ?_;obtain⟨r2,hr2,h⟩:=bind_ok h;refine bB [] [(0,⟨[],[],[],(qmp 6001 r2.1 r2.2.1 r2.2.2.1 r2.2.2.2.1 r2.2.2.2.2.1 r2.2.2.2.2.2.1 r2.2.2.2.2.2.2),.agg (vI),[6001,6002,6003,6004,6005,6006,6007],[],[]⟩)] ⟨41,[(0,aO x1),(3,.ptr 3 0)],(f14z3 r2),[],0⟩ (an2 (cpT (aG.ren (aV 3006 6007) (aD 3006 6007) rfl (aG.ren (aV 3005 6006) (aD 3005 6006) rfl (aG.ren (aV 3004 6005) (aD 3004 6005) rfl (aG.ren (aV 3003 6004) (aD 3003 6004) rfl (aG.ren (aV 3002 6003) (aD 3002 6003) rfl (aG.ren (aV 3001 6002) (aD 3001 6002) rfl (aG.ren (aV 3000 6001) (aD 3000 6001) rfl (f44_ok _ hr2))))))))) trivial) ?_;refine tN ?_;obtain⟨K1,hK1,h⟩:=aI h;refine aaR (fun(x:(List Tq5)×(List Tq4)×(f14z6)×(List Tq2)×(f14z6)×rZ×rY)=>match x with|(l12,l13,l14,l15,l16,l17,l18)=>⟨41,[(3,.ptr 3 0)],(f14z5 l12 l13 l14 l15 l16 l17 l18),[],0⟩) (fun x=>K1 x=some r) ?_ ?_
 ·refine aN [] [] [3,10,11,12] [3,6001,6002,6003,6004,6005,6006,6007] trivial ?_;refine aaJ (abG (α:=Nat×(Nat×(List Tq5)×(List Tq4)×(f14z6)×(List Tq2)×(f14z6)×rZ×rY)) (fun x=>match x with|(_,n3,l4,l5,l6,l7,l8,l9,l10)=>⟨41,[(3,.ptr 3 0),(10,aO x1),(11,.i (lZ x1)),(12,.i (n3:Int))],(f14z4 l4 l5 l6 l7 l8 l9 l10),[],0⟩) (fun x=>yT x1 K1 x.1 x.2=some r) (fun x=>x.1) (aY,0,r2.1,r2.2.1,r2.2.2.1,r2.2.2.2.1,r2.2.2.2.2.1,r2.2.2.2.2.2.1,r2.2.2.2.2.2.2) LR h ?_)
  rintro⟨k0,n3,l4,l5,l6,l7,l8,l9,l10⟩ h
  cases k0 with
  |zero=>exact nEx h
  |succ k0=>
  obtain⟨C0,hC0⟩:∃C,C=yT x1 K1 k0:=⟨_,rfl⟩;replace h:=(yT.eq_2 ..).symm.trans h
  try rw[<-hC0]at h
  refine aN [] [] [3,10,11,12,13] [3,6001,6002,6003,6004,6005,6006,6007] trivial ?_;refine aaE (cK (decide ((n3:Int)<(lZ x1))) (fun hc1=> ?_) fun hc1=> ?_)
  ·replace h:=aE hc1 h;refine aaG (tN (aaE (aaJ (aaE ?_))));obtain⟨ob0p,h⟩:=aB h;refine aZ [] [] [3,5,10,11,12] [3,5,6001,6002,6003,6004,6005,6006,6007] (an2 (iN ob0p) trivial) ?_;refine tN ?_;obtain⟨r11,hr11,h⟩:=bind_ok h;refine bB [] [(1,⟨[.ptr 3 0,.agg (qpt (x1.getD n3 aH))],[3,6001,6002,6003,6004,6005,6006,6007],[3],(f14z1 r11),.tup [],[6001,6002,6003,6004,6005,6006,6007],[],[]⟩)] ⟨41,[(3,.ptr 3 0),(10,aO x1),(11,.i (lZ x1)),(12,.i (n3:Int))],(f14z1 r11),[],0⟩ (an1 (cpT (aG.ren (aV 2007 6007) (aD 2007 6007) rfl (aG.ren (aV 2006 6006) (aD 2006 6006) rfl (aG.ren (aV 2005 6005) (aD 2005 6005) rfl (aG.ren (aV 2004 6004) (aD 2004 6004) rfl (aG.ren (aV 2003 6003) (aD 2003 6003) rfl (aG.ren (aV 2002 6002) (aD 2002 6002) rfl (aG.ren (aV 2001 6001) (aD 2001 6001) rfl (aG.ren (aV 2000 3) (aD 2000 3) rfl (f45_ok _ _ _ _ _ _ _ _ _ _ _ _ _ _ _ hr11))))))))))) ?_;refine kN (tN ?_);obtain⟨ob1p,h⟩:=aB h;refine aZ [] [] [3,10,11,12] [3,6001,6002,6003,6004,6005,6006,6007] (an1 (iP ob1p)) ?_;rw[hC0]at h;exact lN (_,(n3+1),r11.1,r11.2.1,r11.2.2.1,r11.2.2.2.1,r11.2.2.2.2.1,r11.2.2.2.2.2.1,r11.2.2.2.2.2.2) LR h (aaM _)
  ·replace h:=aF hc1 h;refine abJ (tE (tE (kS ?_)));exact jN (l4,l5,l6,l7,l8,l9,l10) LR h
 ·rintro⟨l12,l13,l14,l15,l16,l17,l18⟩ h;replace h:=(congrFun hK1 _).symm.trans h;refine bC [] [] ⟨41,[(3,.ptr 3 0),(6,.nils)],(f14z5 l12 l13 l14 l15 l16 l17 l18),[],0⟩ trivial ?_;refine aaJ (abG (α:=Nat×(List Ty0)) (fun x=>match x with|(_,l19)=>⟨41,(f14z7),(f14z2 l19 l12 l13 l14 l15 l16 l17 l18),[],0⟩) (fun x=>yS l12 l13 x.1 x.2=some r) (fun x=>x.1) (aY,[]) (aaI (aaI (adE 6 5006 9 1 (bY eS [] []) rfl rfl (aaW rfl)) (LR (s':=⟨41,(f14z7),[(3,.cells 115 (vI)),(6001,bP (V.int .i64) 0 eG [] l12),(6002,bP (V.int .i64) 0 eN false l13),(6003,bP aP bN cH [] l14),(6004,bP (V.int .i64) 0 eM 0 l15),(6005,bP aP bN cH [] l16),(6006,bP bO bE eV false l17),(6007,bP bJ bN eP false l18),(5006,aU [])],[],0⟩))) LR) h ?_)
  rintro⟨k1,l19⟩ h
  cases k1 with
  |zero=>exact nEx h
  |succ k1=>
  obtain⟨C1,hC1⟩:∃C,C=yS l12 l13 k1:=⟨_,rfl⟩;replace h:=(yS.eq_2 ..).symm.trans h
  try rw[<-hC1]at h
  refine aaJ ?_;refine bC [] [(4,⟨[.own 6001,.i (lZ l19)],[6001],[6001],[(6001,bP (V.int .i64) 0 eG [] l12)],.tup [.str (gM l12 [] (lZ l19)),.bool (hM l12 (lZ l19))],[],[],[]⟩)] ⟨41,[(3,.ptr 3 0),(6,.own 5006),(7,.str (gM l12 [] (lZ l19))),(8,.bool (hM l12 (lZ l19)))],(f14z2 l19 l12 l13 l14 l15 l16 l17 l18),[],0⟩ (an1 (aaK (eD (P:=Tryz.prog) Tryz.underlying108 (V.int .i64) kE108 0 eG [] [] (by kernel_rfl) (.tmp 21) (.tmp 23) 118 6001 l12 (lZ l19)) (eU.same [.own 6001,.i (lZ l19)]))) ?_;refine aaE (aaE ?_);by_cases hg9_2:(!(hM l12 (((l19).length:Nat):Int)))=true
  ·replace h:=xC hg9_2 h;have ob2:=idA (false=true);have ob3:=idA (false=true);have ob4:true=true->true=false->false=true:=by first|decide|omega|simp|(intro h;cases h)
   refine bB [] [(2,⟨[],[],[],[],(.bool true),[],[0],[]⟩),(7,⟨[],[],[],[],.bool (gM l13 false (lZ l19)),[],[],[]⟩)] ⟨41,[(3,.ptr 3 0),(6,.own 5006),(7,.str (gM l12 [] (lZ l19))),(35,.bool true)],(f14z2 l19 l12 l13 l14 l15 l16 l17 l18),[],0⟩ (an5 (show((.bool (!(hM l12 (lZ l19)))):V)=(.bool true)from(congrArg (fun x=>((.bool x):V)) hg9_2)) (an1 ob2) (an1 ob3) trivial ob4) ?_;refine tN (cK true (fun hc=> ?_) fun hc=> ?_)
   ·clear hc;refine bC [] [] ⟨41,[(2,.own 5006)],[(5006,aU l19)],[],0⟩ trivial ?_;refine aaS (aaI (abX (aV 5006 3000) (aD 5006 3000) rfl) (LR (s':=⟨41,[(2,.own 3000)],[(3000,aU l19)],[],0⟩))) ?_;obtain rfl:=aaD h;refine aaS (LR (s':=⟨41,[(2,.own 3000)],[(3000,aU l19)],[],0⟩)) ?_;refine aaH (tR (kR (tR (kR ?_))));exact bK
   ·cases hc
  ·replace h:=xD hg9_2 h;have ob2:=idA (true=true);have ob3:=idA (true=true);have ob4:=idA (true=true);refine aZ [] [(2,⟨[],[],[],[],(.bool false),[],[0],[]⟩),(7,⟨[.own 6002,.i (lZ l19)],[6002],[6002],[(6002,bP (V.int .i64) 0 eN false l13)],.bool (gM l13 false (lZ l19)),[],[],[]⟩)] [3,6,7,35] [3,5006,6001,6002,6003,6004,6005,6006,6007] (an5 (show((.bool (!(hM l12 (lZ l19)))):V)=(.bool false)from(congrArg (fun x=>((.bool x):V)) (aeL.2 hg9_2))) (an1 ob2) (an1 ob3) (aaK (aaK (fQ (P:=Tryz.prog) Tryz.underlying109 (V.int .i64) kE109 0 eN false false (by kernel_rfl) (.tmp 31) (.tmp 33) 4 6002 l13 (lZ l19)) (eU.same [.own 6002,.i (lZ l19)])) (an2 ob4 (idA (true=true)))) trivial) ?_;refine tN (cK (gM l13 false (lZ l19)) (fun hc3=> ?_) fun hc3=> ?_)
   ·replace h:=aE hc3 h;refine bC [] [] ⟨41,[(2,.own 5006)],[(5006,aU l19)],[],0⟩ trivial ?_;refine aaS (aaI (abX (aV 5006 3000) (aD 5006 3000) rfl) (LR (s':=⟨41,[(2,.own 3000)],[(3000,aU l19)],[],0⟩))) ?_;obtain rfl:=aaD h;refine aaS (LR (s':=⟨41,[(2,.own 3000)],[(3000,aU l19)],[],0⟩)) ?_;refine aaH (tR (kR (tR (kR ?_))));exact bK
   ·replace h:=aF hc3 h;refine aaG (tN ?_);obtain⟨ob6,h⟩:=aB h;refine bB [] [] ⟨41,(f14z7),((3,.cells 115 (vI))::(5006,.rows 9 1 ((l19).length+1) (fH (l19).length (bY eS [] l19) (dE 1 [.str (gM l12 [] (lZ l19))])))::qmp 6001 l12 l13 l14 l15 l16 l17 l18),[],0⟩ (an1 ob6) ?_;refine kN ?_;rw[hC1]at h;exact lN (_,(l19++[(gM l12 [] (lZ l19))])) (aaI (acO (s':=⟨41,(f14z7),((3,.cells 115 (vI))::(5006,aU (l19++[(gM l12 [] (lZ l19))]))::qmp 6001 l12 l13 l14 l15 l16 l17 l18),[],0⟩) rfl rfl ⟨.refl _,.refl _,trivial⟩ ⟨⟨_,rfl,.refl _⟩,⟨_,rfl,(acE (adF (acH _) (acM (enc:=eS) [(gM l12 [] (lZ l19))] rfl rfl (fun _=>rfl))))⟩,⟨_,rfl,.refl _⟩,⟨_,rfl,.refl _⟩,⟨_,rfl,.refl _⟩,⟨_,rfl,.refl _⟩,⟨_,rfl,.refl _⟩,⟨_,rfl,.refl _⟩,⟨_,rfl,.refl _⟩,trivial⟩) LR) h (aaM _)
def yP (x1 x2:List Ty0) (K1:Unit->Option Bool):Nat->Nat->Option Bool
 |0,_=>none
 |k+1,n3=>
  if(decide ((n3:Int)<(((x1).length:Nat):Int)))then(
  chk ((n3:Int)<(((x1).length:Nat):Int))<|
  chk ((n3:Int)<(((x2).length:Nat):Int))<|
  if(!((x1.getD n3 [])==(x2.getD n3 [])))then(
  some false
  )else(
  chk (((n3:Int)+(1:Int))<=9223372036854775807)<|
  (yP x1 x2 K1 k) (n3+1)
  )
  )else(
  K1 ()
  )
def f15 (x1 x2:List Ty0):Option Bool:=
 if((((x1).length:Nat):Int) !=(((x2).length:Nat):Int))then(
 some false
 )else(
 jn (fun(_:Unit)=>
 some true
 ) fun(K1:Unit->Option Bool)=>
 yP x1 x2 K1 aY 0
 )
theorem f15_ok (x1 x2:List Ty0) (r:Bool) (h:f15 x1 x2=some r):aG Tryz.prog 15 [] [] [] [vL 1 eS [] x1,vL 1 eS [] x2] (.bool r) []:=by
 unfold f15 at h;refine aG.body 0 _ _ Tryz.func15 rfl Tryz.ntmps15 rfl rfl ?_;refine aN [] [] [0,1] [] trivial ?_;refine aaE (bC [] [] ⟨26,[(0,cQ x1),(1,cQ x2),(10,.bool ((lZ x1) !=(lZ x2)))],[],[],0⟩ trivial ?_);refine cK ((lZ x1) !=(lZ x2)) (fun hc1=> ?_) fun hc1=> ?_
 ·replace h:=aE hc1 h;refine aN [] [] [4] [] trivial ?_;obtain rfl:=aaD h;refine aaH (tR ?_);exact bK
 ·replace h:=aF hc1 h;refine aaG (tN ?_);obtain⟨K1,hK1,h⟩:=aI h;refine aaR (fun(x:Unit)=>match x with|()=>⟨26,[],[],[],0⟩) (fun x=>K1 x=some r) ?_ ?_
  ·refine bC [] [] ⟨26,[(0,cQ x1),(1,cQ x2),(5,.i (0:Int))],[],[],0⟩ trivial ?_;refine aaJ (abG (α:=Nat×Nat) (fun x=>match x with|(_,n3)=>⟨26,[(0,cQ x1),(1,cQ x2),(5,.i (n3:Int))],[],[],0⟩) (fun x=>yP x1 x2 K1 x.1 x.2=some r) (fun x=>x.1) (aY,0) LR h ?_)
   rintro⟨k0,n3⟩ h
   cases k0 with
   |zero=>exact nEx h
   |succ k0=>
   obtain⟨C0,hC0⟩:∃C,C=yP x1 x2 K1 k0:=⟨_,rfl⟩;replace h:=(yP.eq_2 ..).symm.trans h
   try rw[<-hC0]at h
   refine aaE (aN [] [] [0,1,5,14] [] trivial ?_);refine cK (decide ((n3:Int)<(lZ x1))) (fun hc2=> ?_) fun hc2=> ?_
   ·replace h:=aE hc2 h;refine aaG (tN (aaE (aaJ (aaE ?_))));obtain⟨ob0p,h⟩:=aB h;obtain⟨ob1p,h⟩:=aB h;refine bB [] [] ⟨26,[(0,cQ x1),(1,cQ x2),(5,.i (n3:Int)),(25,.bool (!((x1.getD n3 [])==(x2.getD n3 []))))],[],[],0⟩ (an2 (iN ob0p) (iN ob1p)) ?_;refine tN (cK (!((x1.getD n3 [])==(x2.getD n3 []))) (fun hc3=> ?_) fun hc3=> ?_)
    ·replace h:=aE hc3 h;refine aN [] [] [4] [] trivial ?_;obtain rfl:=aaD h;refine aaH (kR (tR (tR (kR (aR ?_)))));exact bK
    ·replace h:=aF hc3 h;refine aaG (kN (tN ?_));obtain⟨ob2p,h⟩:=aB h;refine bB [] [] ⟨26,[(0,cQ x1),(1,cQ x2),(5,.i (((n3+1):Nat):Int))],[],[],0⟩ (an1 (iP ob2p)) ?_;rw[hC0]at h;exact lN (_,(n3+1)) LR h (aaM _)
   ·replace h:=aF hc2 h;refine abJ (tE (tE (kS ?_)));exact jN () LR h
  ·rintro⟨⟩ h;replace h:=(congrFun hK1 _).symm.trans h;refine aN [] [] [4] [] trivial ?_;obtain rfl:=aaD h;refine aaH ?_;exact bK
abbrev aCQ (r1:Int×Int×Int×Int) (r2:Tq6):=((((r1.2.2.2==(0:Int))&&((r1.1==(0:Int))&&((r1.2.1==(0:Int))&&((r1.2.2.1==(12:Int))&&true))))&&(r2.2.2==(0:Int)))&&(r2.1==(1:Int)))
abbrev f11z1 (r1:Int×Int×Int×Int) (r2 r3 r4:Tq6):=((((aCQ r1 r2)&&(r2.2.1==(1:Int)))&&(r3.2.2==(13:Int)))&&(r4.2.2==(0:Int)))
abbrev aAK (r1:Int×Int×Int×Int):=((r1.2.2.2==(0:Int))&&((r1.1==(0:Int))&&((r1.2.1==(0:Int))&&((r1.2.2.1==(12:Int))&&true))))
abbrev bU :=([118]:aaA)
abbrev cB :=([119]:aaA)
abbrev sM (r1:Int×Int×Int×Int) (r2 r3 r4:Tq6):=((f11z1 r1 r2 r3 r4)&&(r4.2.1==(3:Int)))
abbrev aAJ (r1:Int×Int×Int×Int) (r2:Tq6):=((aCQ r1 r2)&&(r2.2.1==(1:Int)))
abbrev f11z7 (r1:Int×Int×Int×Int):List V:=[.i r1.1,.i r1.2.1,.i r1.2.2.1]
abbrev aCP (r1:Int×Int×Int×Int):=((r1.2.2.2==(0:Int))==true)
abbrev yY :=cU
abbrev aBN (r1:Int×Int×Int×Int) (r2:Tq6):=(((aAK r1)&&(r2.2.2==(0:Int)))==true)
abbrev aBM (r1:Int×Int×Int×Int) (r2 r3:Tq6):=(((aAJ r1 r2)&&(r3.2.2==(13:Int)))==true)
def f11  :Option Bool:=
 (f22 ([(((0:Int),(4:Int),(0:Int),(0:Int),(0:Int),([118]:aaA),[]):Y51),(((0:Int),(3:Int),(0:Int),(0:Int),(0:Int),([119]:aaA),[]):Y51)])).bind fun r1=>
 (f13 [] [] (BitVec.ofInt 16 0) [] [] [] ([(((0:Int),(4:Int),(0:Int),(0:Int),(0:Int),([118]:aaA),[]):Y51),(((0:Int),(3:Int),(0:Int),(0:Int),(0:Int),([119]:aaA),[]):Y51)])).bind fun r2=>
 chk ((0:Int)<((([(((0:Int),(4:Int),(0:Int),(0:Int),(0:Int),([118]:aaA),[]):Y51),(((0:Int),(3:Int),(0:Int),(0:Int),(0:Int),([119]:aaA),[]):Y51)]).length:Nat):Int))<|
 chk (0<([(((0:Int),(4:Int),(0:Int),(0:Int),(0:Int),([118]:aaA),[]):Y51),(((0:Int),(3:Int),(0:Int),(0:Int),(0:Int),([119]:aaA),[]):Y51)]).length)<|
 (f13 [] [] (BitVec.ofInt 16 0) [] [] [] ([(((([(((0:Int),(4:Int),(0:Int),(0:Int),(0:Int),([118]:aaA),[]):Y51),(((0:Int),(3:Int),(0:Int),(0:Int),(0:Int),([119]:aaA),[]):Y51)]).getD 0 (default:Y51)).1,(([(((0:Int),(4:Int),(0:Int),(0:Int),(0:Int),([118]:aaA),[]):Y51),(((0:Int),(3:Int),(0:Int),(0:Int),(0:Int),([119]:aaA),[]):Y51)]).getD 0 (default:Y51)).2.1,(([(((0:Int),(4:Int),(0:Int),(0:Int),(0:Int),([118]:aaA),[]):Y51),(((0:Int),(3:Int),(0:Int),(0:Int),(0:Int),([119]:aaA),[]):Y51)]).getD 0 (default:Y51)).2.2.1,(([(((0:Int),(4:Int),(0:Int),(0:Int),(0:Int),([118]:aaA),[]):Y51),(((0:Int),(3:Int),(0:Int),(0:Int),(0:Int),([119]:aaA),[]):Y51)]).getD 0 (default:Y51)).2.2.2.1,(([(((0:Int),(4:Int),(0:Int),(0:Int),(0:Int),([118]:aaA),[]):Y51),(((0:Int),(3:Int),(0:Int),(0:Int),(0:Int),([119]:aaA),[]):Y51)]).getD 0 (default:Y51)).2.2.2.2.1,(([(((0:Int),(4:Int),(0:Int),(0:Int),(0:Int),([118]:aaA),[]):Y51),(((0:Int),(3:Int),(0:Int),(0:Int),(0:Int),([119]:aaA),[]):Y51)]).getD 0 (default:Y51)).2.2.2.2.2.1,(([(((0:Int),(4:Int),(0:Int),(0:Int),(0:Int),([118]:aaA),[]):Y51),(((0:Int),(3:Int),(0:Int),(0:Int),(0:Int),([119]:aaA),[]):Y51)]).getD 0 (default:Y51)).2.2.2.2.2.2):Y51),(((0:Int),(3:Int),(0:Int),(0:Int),(0:Int),([118]:aaA),[]):Y51)])).bind fun r3=>
 (f13 [] [] (BitVec.ofInt 16 0) [] [] [] ([(((0:Int),(2:Int),(0:Int),(0:Int),(1:Int),[],([111,107,32,49]:aaA)):Y51)])).bind fun r4=>
 (f13 [] [] (BitVec.ofInt 16 0) [] [] [] ([(((0:Int),(3:Int),(0:Int),(1:Int),(0:Int),([118]:aaA),[]):Y51)])).bind fun r5=>
 if((((((((((r1.2.2.2==(0:Int))&&((r1.1==(0:Int))&&((r1.2.1==(0:Int))&&((r1.2.2.1==(12:Int))&&true))))&&(r2.2.2==(0:Int)))&&(r2.1==(1:Int)))&&(r2.2.1==(1:Int)))&&(r3.2.2==(13:Int)))&&(r4.2.2==(0:Int)))&&(r4.2.1==(3:Int)))&&(r5.2.2==(0:Int)))&&(r5.2.1==(2:Int)))=true then(
 (f14 ([(((([(((0:Int),(4:Int),(0:Int),(0:Int),(0:Int),([118]:aaA),[]):Y51),(((0:Int),(3:Int),(0:Int),(0:Int),(0:Int),([119]:aaA),[]):Y51)]).getD 0 (default:Y51)).1,(([(((0:Int),(4:Int),(0:Int),(0:Int),(0:Int),([118]:aaA),[]):Y51),(((0:Int),(3:Int),(0:Int),(0:Int),(0:Int),([119]:aaA),[]):Y51)]).getD 0 (default:Y51)).2.1,(([(((0:Int),(4:Int),(0:Int),(0:Int),(0:Int),([118]:aaA),[]):Y51),(((0:Int),(3:Int),(0:Int),(0:Int),(0:Int),([119]:aaA),[]):Y51)]).getD 0 (default:Y51)).2.2.1,(([(((0:Int),(4:Int),(0:Int),(0:Int),(0:Int),([118]:aaA),[]):Y51),(((0:Int),(3:Int),(0:Int),(0:Int),(0:Int),([119]:aaA),[]):Y51)]).getD 0 (default:Y51)).2.2.2.1,(([(((0:Int),(4:Int),(0:Int),(0:Int),(0:Int),([118]:aaA),[]):Y51),(((0:Int),(3:Int),(0:Int),(0:Int),(0:Int),([119]:aaA),[]):Y51)]).getD 0 (default:Y51)).2.2.2.2.1,(([(((0:Int),(4:Int),(0:Int),(0:Int),(0:Int),([118]:aaA),[]):Y51),(((0:Int),(3:Int),(0:Int),(0:Int),(0:Int),([119]:aaA),[]):Y51)]).getD 0 (default:Y51)).2.2.2.2.2.1,(([(((0:Int),(4:Int),(0:Int),(0:Int),(0:Int),([118]:aaA),[]):Y51),(((0:Int),(3:Int),(0:Int),(0:Int),(0:Int),([119]:aaA),[]):Y51)]).getD 0 (default:Y51)).2.2.2.2.2.2):Y51),(((0:Int),(3:Int),(0:Int),(0:Int),(0:Int),([118]:aaA),[]):Y51)])).bind fun r6=>
 (f15 r6 ([([118]:aaA)])).bind fun r7=>
 some r7
 )else(
 some false
 )
end Go.Abs
