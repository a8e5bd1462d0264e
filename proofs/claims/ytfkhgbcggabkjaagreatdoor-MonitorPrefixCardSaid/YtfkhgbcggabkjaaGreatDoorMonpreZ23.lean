/- Part 23 of the proof: X54A. -/
import Derived.Test.YtfkhgbcggabkjaaGreatDoorMonpreZ22
namespace Go.Abs
open Go Go.Proofs
set_option maxRecDepth 100000
set_option maxHeartbeats 4000000
abbrev Y51 :Type:=Int×Int×Int×Int×Int×List UInt8×List UInt8
abbrev Ty0 :=List UInt8
abbrev Ty1 :=Tq2×List UInt8
abbrev Ty2 :=List Tq0
abbrev Ty3 :=(List Tq5)×(List Tq4)×(List Ty1)×(List Tq2)×(List Ty1)×(List (Tq0×Bool))×(List (Tq2×Bool))
abbrev Ty4 :=List Tq1
abbrev Ty5 :=List (Tq0×Bool)
abbrev Ty6 :=List (Tq2×Bool)
abbrev Ty7 :=List (BitVec 16×BitVec 16)
abbrev Ty8 :=List Ty1
abbrev Ty9 :=List UInt8×Int×BitVec 16×List (BitVec 16)×List (BitVec 16)×Ty7
abbrev Ty10 :=Bool×(List Tq5)×(List Tq4)×Ty8×(List Tq2)×Ty8×Ty5×Ty6
abbrev aBl :=Ty4×Ty2×List UInt8
abbrev Ty12 :=Int×(List Tq5)×(List Tq4)×Ty8×(List Tq2)×Ty8×Ty5×Ty6
abbrev kS := @yD
abbrev kR := @aBi
abbrev tR := @thenQ_ret
abbrev tE := @aAE
abbrev kN := @sQ
abbrev bR := @bodyQ_ret
abbrev lN := @tW
abbrev jN := @uA
abbrev tN := @lX
theorem jE :Tryz.prog.follows .mixedOrders=true:=by kernel_rfl
def T4 :List Nat:=[0,1,28,2,29,14,24,3,30,22,20,15,25,17,4,8,31,27,13,23,21,19,16,7,26,12,18,6,11,5,10,9]
def T5 :List Nat:=[0,1,56,2,57,49,28,3,61,58,42,50,38,29,17,4,62,47,59,36,45,43,51,22,53,39,33,30,24,18,12,5,63,55,48,27,60,41,37,16,46,35,44,21,52,32,23,11,54,26,40,15,34,20,31,10,25,14,19,9,13,8,7,6]
def T1 :List Nat:=[1,10,100,1000,10000,100000,1000000,10000000,100000000,1000000000,10000000000,100000000000,1000000000000,10000000000000,100000000000000,1000000000000000,10000000000000000,100000000000000000,1000000000000000000,10000000000000000000]
def T8 :List Nat:=[128,191,160,191,128,159,144,191,128,143,0,0,0,0,0,0,0,0,0,0,0,0,0,0,0,0,0,0,0,0,0,0]
instance :DecidableEq Y51:= @instDecidableEqProd Int _ inferInstance (@instDecidableEqProd Int _ inferInstance (@instDecidableEqProd Int _ inferInstance (@instDecidableEqProd Int _ inferInstance (@instDecidableEqProd Int _ inferInstance (@instDecidableEqProd Ty0 _ inferInstance (inferInstance))))))
def aAx (x:Y51):List V:=[.int .i64 x.1,.int .i64 x.2.1,.int .i64 x.2.2.1,.int .i64 x.2.2.2.1,.int .i64 x.2.2.2.2.1,.str x.2.2.2.2.2.1,.str x.2.2.2.2.2.2,.opq,.opq,.opq,.opq,.opq,.opq,.opq,.opq,.opq,.opq,.opq,.opq,.opq,.opq,.opq,.opq,.opq,.opq,.opq,.opq,.opq]
def eI (x:Int):List V:=[.int .i64 x]
def eS (x:List UInt8):List V:=[.str x]
theorem eS_flat (x:List UInt8) (j:Nat):((eS x).getD j .any).flat=true:=by
 match j with
 |0=>rfl
 |_+1=>rfl
def eSW (x:List UInt8×BitVec 16):List V:=[.str x.1,.b16 x.2]
def eW (x:BitVec 16):List V:=[.b16 x]
def eWW (x:BitVec 16×BitVec 16):List V:=[.b16 x.1,.b16 x.2]
instance :DecidableEq Ty9:= @instDecidableEqProd Ty0 _ inferInstance (@instDecidableEqProd Int _ inferInstance (@instDecidableEqProd (BitVec 16) _ inferInstance (@instDecidableEqProd (List (BitVec 16)) _ inferInstance (@instDecidableEqProd (List (BitVec 16)) _ inferInstance (inferInstance)))))
def eT73 (x:List UInt8×Int×BitVec 16×List (BitVec 16)×List (BitVec 16)×Ty7):List V:=[.str x.1,.int .i64 x.2.1,.b16 x.2.2.1,vL 1 eW 0#16 x.2.2.2.1,vL 1 eW 0#16 x.2.2.2.2.1,vL 2 eWW (default:BitVec 16×BitVec 16) x.2.2.2.2.2]
instance :DecidableEq (List UInt8×Bool×Ty7):= @instDecidableEqProd Ty0 _ inferInstance (@instDecidableEqProd Bool _ inferInstance (inferInstance))
def lQ (x:List UInt8×Bool×Ty7):List V:=[.str x.1,.bool x.2.1,vL 2 eWW (default:BitVec 16×BitVec 16) x.2.2]
def dP (x:List UInt8):V:= .str x
theorem kE108 :aBm Tryz.prog 3 (V.int .i64):=lI Tryz.underlying3 (dK .i64) (fun _=>rfl) (fun _=>rfl)
def dV (x:Bool):V:= .bool x
theorem kE109 :aBm Tryz.prog 3 (V.int .i64):=lI Tryz.underlying3 (dK .i64) (fun _=>rfl) (fun _=>rfl)
def aM (x:Tq2):V:= .agg [.int .i64 x.1,.int .i64 x.2]
def cC (x:List UInt8):V:= .str x
theorem wS :aBm Tryz.prog 145 aM:=jP (default:Tq2) (fun _=>⟨_,rfl,rfl⟩) Tryz.underlying145 (fun a b=>(show eqV Tryz.prog 10000 145 (aM a) (aM b)=some ((a.1==b.1)&&((a.2==b.2)&&true))from by kernel_rfl).trans (congrArg some (by rw[Bool.eq_iff_iff];simp[Prod.ext_iff]))) (fun _=>rfl)
def dU (x:Int):V:= .int .i64 x
theorem kE111 :aBm Tryz.prog 3 (V.int .i64):=lI Tryz.underlying3 (dK .i64) (fun _=>rfl) (fun _=>rfl)
def bW (x:Tq0):List V:=[.int .i64 x.1,.int .i64 x.2.1,.str x.2.2]
def bN (x:Tq0):V:= .agg [.int .i64 x.1,.int .i64 x.2.1,.str x.2.2]
def eD (x:Bool):V:= .bool x
theorem kE112 :aBm Tryz.prog 88 bN:=jP (default:Tq0) (fun _=>⟨_,rfl,rfl⟩) Tryz.underlying88 (fun a b=>(show eqV Tryz.prog 10000 88 (bN a) (bN b)=some ((a.1==b.1)&&((a.2.1==b.2.1)&&((a.2.2==b.2.2)&&true)))from by kernel_rfl).trans (congrArg some (by rw[Bool.eq_iff_iff];simp[Prod.ext_iff]))) (fun _=>rfl)
def bK (x:Tq2):V:= .agg [.int .i64 x.1,.int .i64 x.2]
def eA (x:Bool):V:= .bool x
theorem kE113 :aBm Tryz.prog 145 bK:=jP (default:Tq2) (fun _=>⟨_,rfl,rfl⟩) Tryz.underlying145 (fun a b=>(show eqV Tryz.prog 10000 145 (bK a) (bK b)=some ((a.1==b.1)&&((a.2==b.2)&&true))from by kernel_rfl).trans (congrArg some (by rw[Bool.eq_iff_iff];simp[Prod.ext_iff]))) (fun _=>rfl)
def cs0 :List UInt8:=[0,1,2,2,3,3,3,3,4,4,4,4,4,4,4,4,5,5,5,5,5,5,5,5,5,5,5,5,5,5,5,5,6,6,6,6,6,6,6,6,6,6,6,6,6,6,6,6,6,6,6,6,6,6,6,6,6,6,6,6,6,6,6,6,7,7,7,7,7,7,7,7,7,7,7,7,7,7,7,7,7,7,7,7,7,7,7,7,7,7,7,7,7,7,7,7,7,7,7,7,7,7,7,7,7,7,7,7,7,7,7,7,7,7,7,7,7,7,7,7,7,7,7,7,7,7,7,7,8,8,8,8,8,8,8,8,8,8,8,8,8,8,8,8,8,8,8,8,8,8,8,8,8,8,8,8,8,8,8,8,8,8,8,8,8,8,8,8,8,8,8,8,8,8,8,8,8,8,8,8,8,8,8,8,8,8,8,8,8,8,8,8,8,8,8,8,8,8,8,8,8,8,8,8,8,8,8,8,8,8,8,8,8,8,8,8,8,8,8,8,8,8,8,8,8,8,8,8,8,8,8,8,8,8,8,8,8,8,8,8,8,8,8,8,8,8,8,8,8,8,8,8,8,8,8,8]
def cs1 :List UInt8:=[102,105,110,105,115,104]
def cs2 :List UInt8:=[98,97,116,99,104]
def cH (x:Tq1):List V:=[.str x.1,.str x.2.1,.int .i64 x.2.2]
def cs3 :List UInt8:=[105,110,118,97,108,105,100]
def cs4 :List UInt8:=[115,116,97,108,101]
def cs5 :List UInt8:=[109,97,108,102,111,114,109,101,100]
def gR (x:Tq7):V:= .agg [.str x.1,.bool x.2.1,.bool x.2.2.1,.bool x.2.2.2]
def cs6 :List UInt8:=[100,101,108,101,116,101]
def cs7 :List UInt8:=[97,112,112,101,110,100]
def cs8 :List UInt8:=[99,111,117,110,116]
def bT :List (Int):=(((((([]++[(1:Int)])++[(2:Int)])++[(3:Int)])++[(4:Int)])++[(5:Int)])++[(6:Int)])
def bO :List Tq7:=(((((([]++[(([112,117,116]:List UInt8),true,false,true)])++[(([103,101,116]:List UInt8),true,false,false)])++[(cs6,true,false,false)])++[(cs7,true,false,true)])++[(([99,97,115]:List UInt8),true,true,true)])++[(cs8,false,false,false)])
def cs9 :List UInt8:=[99,111,117,110,116,32]
def pG :List UInt8:=[118,97,108,117,101,32]
def cO (x:Tq3):List V:=[.int .u8 x.1,.int .u8 x.2.1,.int .u8 x.2.2.1,.int .u8 x.2.2.2]
def cs11 :List UInt8:=[112,117,116,32,97,32,49]
def cs12 :List UInt8:=[103,101,116,32,97]
def cs13 :List UInt8:=[97,112,112,101,110,100,32,97,32,50]
abbrev bC (l:List (Y51)):V:=vL 28 aAx (default:Y51) l
abbrev aI (l:List (Y51)):Blk:=bL 51 28 aAx (default:Y51) l
abbrev aL :Y51:=default
abbrev kL (l:List (Int)):V:=vL 1 eI 0 l
abbrev aQ (l:List (Int)):Blk:=bL 3 1 eI 0 l
abbrev cS (l:List Ty0):V:=vL 1 eS [] l
abbrev aG (l:List Ty0):Blk:=bL 9 1 eS [] l
abbrev q1aSW (l:List (List UInt8×BitVec 16)):V:=vL 2 eSW (default:List UInt8×BitVec 16) l
abbrev q1aT73 (l:List Ty9):V:=vL 6 eT73 (default:List UInt8×Int×BitVec 16×List (BitVec 16)×List (BitVec 16)×Ty7) l
abbrev q1aSBLWWJ (l:List (List UInt8×Bool×Ty7)):V:=vL 3 lQ (default:List UInt8×Bool×Ty7) l
abbrev bI :Int×Int:=default
abbrev aT (l:List Tq0):V:=vL 3 bW (default:Tq0) l
abbrev bD (l:List Tq0):Blk:=bL 160 3 bW (default:Tq0) l
abbrev aJ (l:List Tq0):Blk:=bL 88 3 bW (default:Tq0) l
abbrev bH (l:List Tq0):Blk:=bL 98 3 bW (default:Tq0) l
abbrev bB :Int×Int×List UInt8:=default
abbrev aV (l:List Tq1):V:=vL 3 cH (default:Tq1) l
abbrev aP (l:List Tq1):Blk:=bL 202 3 cH (default:Tq1) l
abbrev aN :List UInt8×List UInt8×Int:=default
abbrev aW :List UInt8×Bool×Bool×Bool:=default
abbrev bE (l:List Tq3):V:=vL 4 cO (default:Tq3) l
abbrev kK (i:Int):BitVec 16:=BitVec.ofInt 16 i
theorem aU {Q:Exit→S→Prop} {id:Nat} {draw:Bool} {y:Code} (W:List Nat) (calls:List (Nat×CC)) {l:List Oper} {s:S} (s':S) {φ:Prop} (hφ:φ) (hQ:AWp Tryz.prog y Q s') (h:Abs.regC Tryz.prog W draw calls (s'.t.map (·.1)) (s'.h.map (·.1)) l s=some (s',φ):=by kernel_rfl):AWp Tryz.prog (.seq (.region id l.toArray draw) y) Q s:=AWp.sq W calls _ _ s' φ jE h hφ hQ
theorem aZ {Q:Exit→S→Prop} {id:Nat} {draw:Bool} (W:List Nat) (calls:List (Nat×CC)) {l:List Oper} {s:S} (s':S) {φ:Prop} (hφ:φ) (hQ:Q .normal s') (h:Abs.regC Tryz.prog W draw calls (s'.t.map (·.1)) (s'.h.map (·.1)) l s=some (s',φ):=by kernel_rfl):AWp Tryz.prog (.region id l.toArray draw) Q s:=AWp.regC W calls _ _ s' φ jE h hφ hQ
theorem bJ {Q:Exit→S→Prop} {id:Nat} {draw:Bool} {y:Code} (W:List Nat) (calls:List (Nat×CC)) {l:List Oper} {s:S} (kt kh:List Nat) {φ:Prop} (hφ:φ) (hQ:AWp Tryz.prog y Q (rS (Abs.regC Tryz.prog W draw calls kt kh l s))) (h:(Abs.regC Tryz.prog W draw calls kt kh l s).map (·.2)=some φ:=by kernel_rfl):AWp Tryz.prog (.seq (.region id l.toArray draw) y) Q s:=AWp.sq W calls _ _ _ φ jE (rS_eq h) hφ hQ
theorem cA {Q:Exit→S→Prop} {id:Nat} {draw:Bool} (W:List Nat) (calls:List (Nat×CC)) {l:List Oper} {s:S} (kt kh:List Nat) {φ:Prop} (hφ:φ) (hQ:Q .normal (rS (Abs.regC Tryz.prog W draw calls kt kh l s))) (h:(Abs.regC Tryz.prog W draw calls kt kh l s).map (·.2)=some φ:=by kernel_rfl):AWp Tryz.prog (.region id l.toArray draw) Q s:=AWp.regC W calls _ _ _ φ jE (rS_eq h) hφ hQ
abbrev f57z0 (x3:Int):=(decide (x3≥(0:Int)))
abbrev qpt (p:Y51):List V:=[.i p.1,.i p.2.1,.i p.2.2.1,.i p.2.2.2.1,.i p.2.2.2.2.1,.str p.2.2.2.2.2.1,.str p.2.2.2.2.2.2,.opq,.opq,.opq,.opq,.opq,.opq,.opq,.opq,.opq,.opq,.opq,.opq,.opq,.opq,.opq,.opq,.opq,.opq,.opq,.opq,.opq]
abbrev qpc (a b c d e:Int) (s t:List UInt8):List V:=[.i a,.i b,.i c,.i d,.i e,.str s,.str t,.opq,.opq,.opq,.opq,.opq,.opq,.opq,.opq,.opq,.opq,.opq,.opq,.opq,.opq,.opq,.opq,.opq,.opq,.opq,.opq,.opq]
abbrev qmp (n:Nat) (a:List Tq5) (b:List Tq4) (c:List Ty1) (d:List Tq2) (e:List Ty1) (f:List (Tq0×Bool)) (g:List (Tq2×Bool)):List (Nat×Blk):=[(n,bP (V.int .i64) 0 dP [] a),(n+1,bP (V.int .i64) 0 dV false b),(n+2,bP aM bI cC [] c),(n+3,bP (V.int .i64) 0 dU 0 d),(n+4,bP aM bI cC [] e),(n+5,bP bN bB eD false f),(n+6,bP bK bI eA false g)]
def f57 (x1 x2 x3 x4 x5:Int) (x6 x7:List UInt8):Option Bool:=
 some ((decide (x3≥(0:Int)))&&(decide (x3<(6:Int))))
theorem uX (x1 x2 x3 x4 x5:Int) (x6 x7:List UInt8) (r:Bool) (h:f57 x1 x2 x3 x4 x5 x6 x7=some r):aH Tryz.prog 57 [] [] [] [.agg [.int .i64 x1,.int .i64 x2,.int .i64 x3,.int .i64 x4,.int .i64 x5,.str x6,.str x7,.opq,.opq,.opq,.opq,.opq,.opq,.opq,.opq,.opq,.opq,.opq,.opq,.opq,.opq,.opq,.opq,.opq,.opq,.opq,.opq,.opq]] (.bool r) []:=by
 unfold f57 at h;refine aH.body 0 _ _ Tryz.func57 rfl Tryz.ntmps57 rfl rfl ?_;refine bJ [] [] [1] [1] trivial ?_;refine AWp.seq ?_;have ob0:=idA (((f57z0 x3)==true)=true);have ob1:=idA (((f57z0 x3)==true)=true);have ob2:=bqA (f57z0 x3) true;refine aZ [] [] ⟨11,[(2,.bool ((f57z0 x3)&&(decide (x3<(6:Int)))))],[],[],0⟩ (an3 (an1 ob0) (an1 ob1) ob2) ?_;refine tN ?_;have hret:=Option.some.inj h;subst hret;refine AWp.ret ?_;exact bR _ rfl ⟨rfl,rfl⟩ rfl
abbrev f50z0 (x1 x2 x3 x4 x5:Int) (x6 x7:List UInt8):List V:=[.int .i64 x1,.int .i64 x2,.int .i64 x3,.int .i64 x4,.int .i64 x5,.str x6,.str x7,.opq,.opq,.opq,.opq,.opq,.opq,.opq,.opq,.opq,.opq,.opq,.opq,.opq,.opq,.opq,.opq,.opq,.opq,.opq,.opq,.opq]
abbrev f50z1 (x2 x3:Int):=((x2==(4:Int))&&(decide (x3≥(0:Int))))
def f50 (x1 x2 x3 x4 x5:Int) (x6 x7:List UInt8):Option Tq4:=
 if(((x2==(4:Int))&&(decide (x3≥(0:Int))))&&(decide (x3<(12:Int))))then(
 some (x3,true)
 )else(
 gW ((x2==(3:Int))==true) (f57 x1 x2 x3 x4 x5 x6 x7) fun(r8:Bool)=>
 if((x2==(3:Int))&&r8)then(
 chk (-9223372036854775808≤((12:Int)+x3)∧((12:Int)+x3)≤9223372036854775807)<|
 some (((12:Int)+x3),true)
 )else(
 some ((0:Int),false)
 )
 )
theorem aAc (x1 x2 x3 x4 x5:Int) (x6 x7:List UInt8) (r:Tq4) (h:f50 x1 x2 x3 x4 x5 x6 x7=some r):aH Tryz.prog 50 [] [] [] [.agg [.int .i64 x1,.int .i64 x2,.int .i64 x3,.int .i64 x4,.int .i64 x5,.str x6,.str x7,.opq,.opq,.opq,.opq,.opq,.opq,.opq,.opq,.opq,.opq,.opq,.opq,.opq,.opq,.opq,.opq,.opq,.opq,.opq,.opq,.opq]] (.tup [.int .i64 r.1,.bool r.2]) []:=by
 unfold f50 at h;refine aH.body 0 _ _ Tryz.func50 rfl Tryz.ntmps50 rfl rfl ?_;refine bJ [] [] [1] [1] trivial ?_;refine AWp.seq (AWp.block (AWp.seq ?_));have ob0:=idA (((x2==(4:Int))==true)=true);have ob1:=idA (((x2==(4:Int))==true)=true);have ob2:=bqA (x2==(4:Int)) true;have ob3:=idA (((f50z1 x2 x3)==true)=true);have ob4:=idA (((f50z1 x2 x3)==true)=true);have ob5:=bqA (f50z1 x2 x3) true;refine cA [] [] [1,4] [1] (an6 (an1 ob0) (an1 ob1) ob2 (an1 ob3) (an1 ob4) ob5) ?_;refine tN ?_;refine AWp.cond (b:=((f50z1 x2 x3)&&(decide (x3<(12:Int))))) (by kernel_rfl) (fun hc1=> ?_) (fun hc1=> ?_)
 ·
  replace h:=aE hc1 h;refine aU [] [] ⟨31,[(2,.i x3),(3,.bool true)],[],[],0⟩ trivial ?_;have hret:=Option.some.inj h;subst hret;refine AWp.ret (kR (tR ?_));exact bR _ rfl ⟨rfl,rfl⟩ rfl
 ·
  replace h:=aF hc1 h;refine AWp.seq ?_;obtain⟨r8,hr8,h⟩:=cG h;have ob6:=idA (((x2==(3:Int))==true)=true);have ob7:=bqA (x2==(3:Int)) true;refine aZ [] [(5,⟨[.agg (f50z0 x1 x2 x3 x4 x5 x6 x7)],[],[],[],.bool r8,[],[],[]⟩)] ⟨31,[(1,.ptr 1 0),(20,.bool ((x2==(3:Int))&&r8))],[(1,.cells 51 (f50z0 x1 x2 x3 x4 x5 x6 x7))],[],0⟩ (an2 (And.intro (cpC fun hc=>(uX _ _ _ _ _ _ _ _ (hr8 hc))) (an1 ob6)) ob7) ?_;refine tN ?_;refine AWp.cond (b:=((x2==(3:Int))&&r8)) (by kernel_rfl) (fun hc2=> ?_) (fun hc2=> ?_)
  ·
   replace h:=aE hc2 h;refine AWp.seq ?_;obtain⟨ob8,h⟩:=aB h;refine aZ [] [] ⟨31,[(2,.i ((12:Int)+x3)),(3,.bool true)],[],[],0⟩ (an1 ob8) ?_;refine tN ?_;have hret:=Option.some.inj h;subst hret;refine AWp.ret (kR (tR ?_));exact bR _ rfl ⟨rfl,rfl⟩ rfl
  ·
   replace h:=aF hc2 h;refine AWp.skip (kN (tN ?_));refine aU [] [] ⟨31,[(2,.i (0:Int)),(3,.bool false)],[],[],0⟩ trivial ?_;have hret:=Option.some.inj h;subst hret;refine AWp.ret ?_;exact bR _ rfl ⟨rfl,rfl⟩ rfl
def f101 (x1:Int):Option Bool:=
 some (x1 !=x1)
theorem f101_ok (x1:Int) (r:Bool) (h:f101 x1=some r):aH Tryz.prog 101 [] [] [] [.int .i64 x1] (.bool r) []:=by
 unfold f101 at h;refine aH.body 0 _ _ Tryz.func101 rfl Tryz.ntmps101 rfl rfl ?_;refine bJ [] [] [0] [] trivial ?_;refine aU [] [] ⟨6,[(2,.bool (x1 !=x1))],[],[],0⟩ trivial ?_;have hret:=Option.some.inj h;subst hret;refine AWp.ret ?_;exact bR _ rfl ⟨rfl,rfl⟩ rfl
def f71 (x1 x2:Int):Option Int:=
 (f101 x1).bind fun(r3:Bool)=>
 (f101 x2).bind fun(r4:Bool)=>
 if r3 then(
 if r4 then(
 some (0:Int)
 )else(
 some (-1:Int)
 )
 )else(
 if r4 then(
 some (1:Int)
 )else(
 if(decide (x1<x2))then(
 some (-1:Int)
 )else(
 if(decide (x1>x2))then(
 some (1:Int)
 )else(
 some (0:Int)
 )
 )
 )
 )
theorem f71_ok (x1 x2 r:Int) (h:f71 x1 x2=some r):aH Tryz.prog 71 [] [] [] [.int .i64 x1,.int .i64 x2] (.int .i64 r) []:=by
 unfold f71 at h;refine aH.body 0 _ _ Tryz.func71 rfl Tryz.ntmps71 rfl rfl ?_;refine bJ [] [] [0,1] [] trivial ?_;refine AWp.seq ?_;obtain⟨r3,hr3,h⟩:=bind_ok h;refine cA [] [(1,⟨[.i x1],[],[],[],.bool r3,[],[],[]⟩)] [0,1,5] [] (an1 (cpT (f101_ok _ _ hr3))) ?_;refine tN (AWp.seq ?_);obtain⟨r4,hr4,h⟩:=bind_ok h;refine cA [] [(1,⟨[.i x2],[],[],[],.bool r4,[],[],[]⟩)] [0,1,5,6] [] (an1 (cpT (f101_ok _ _ hr4))) ?_;refine tN (AWp.seq ?_);refine bJ [] [] [0,1,6,11] [] trivial ?_;refine AWp.cond (b:=r3) (by kernel_rfl) (fun hc1=> ?_) (fun hc1=> ?_)
 ·
  replace h:=aE hc1 h;refine AWp.seq ?_;refine bJ [] [] [12] [] trivial ?_;refine AWp.cond (b:=r4) (by kernel_rfl) (fun hc2=> ?_) (fun hc2=> ?_)
  ·
   replace h:=aE hc2 h;refine aU [] [] ⟨20,[(4,.i (0:Int))],[],[],0⟩ trivial ?_;have hret:=Option.some.inj h;subst hret;refine AWp.ret (tR (tR ?_));exact bR _ rfl ⟨rfl,rfl⟩ rfl
  ·
   replace h:=aF hc2 h;refine AWp.skip (tN ?_);refine aU [] [] ⟨20,[(4,.i (-1:Int))],[],[],0⟩ trivial ?_;have hret:=Option.some.inj h;subst hret;refine AWp.ret (tR ?_);exact bR _ rfl ⟨rfl,rfl⟩ rfl
 ·
  replace h:=aF hc1 h;refine AWp.skip (tN (AWp.seq ?_));refine bJ [] [] [0,1,13] [] trivial ?_;refine AWp.cond (b:=r4) (by kernel_rfl) (fun hc3=> ?_) (fun hc3=> ?_)
  ·
   replace h:=aE hc3 h;refine aU [] [] ⟨20,[(4,.i (1:Int))],[],[],0⟩ trivial ?_;have hret:=Option.some.inj h;subst hret;refine AWp.ret (tR ?_);exact bR _ rfl ⟨rfl,rfl⟩ rfl
  ·
   replace h:=aF hc3 h;refine AWp.skip (tN (AWp.seq ?_));refine bJ [] [] [0,1,16] [] trivial ?_;refine AWp.cond (b:=(decide (x1<x2))) (by kernel_rfl) (fun hc4=> ?_) (fun hc4=> ?_)
   ·
    replace h:=aE hc4 h;refine aU [] [] ⟨20,[(4,.i (-1:Int))],[],[],0⟩ trivial ?_;have hret:=Option.some.inj h;subst hret;refine AWp.ret (tR ?_);exact bR _ rfl ⟨rfl,rfl⟩ rfl
   ·
    replace h:=aF hc4 h;refine AWp.skip (tN (AWp.seq ?_));refine bJ [] [] [19] [] trivial ?_;refine AWp.cond (b:=(decide (x1>x2))) (by kernel_rfl) (fun hc5=> ?_) (fun hc5=> ?_)
    ·
     replace h:=aE hc5 h;refine aU [] [] ⟨20,[(4,.i (1:Int))],[],[],0⟩ trivial ?_;have hret:=Option.some.inj h;subst hret;refine AWp.ret (tR ?_);exact bR _ rfl ⟨rfl,rfl⟩ rfl
    ·
     replace h:=aF hc5 h;refine AWp.skip (tN ?_);refine aU [] [] ⟨20,[(4,.i (0:Int))],[],[],0⟩ trivial ?_;have hret:=Option.some.inj h;subst hret;refine AWp.ret ?_;exact bR _ rfl ⟨rfl,rfl⟩ rfl
def uY (x1 x2:List Int) (K1:Unit→Option Int):Nat→Nat→Option Int
 |0,_=>none
 |k+1,n3=>
  if(decide ((n3:Int)<(((x1).length:Nat):Int)))then(
  chk ((n3:Int)<(((x1).length:Nat):Int))<|
  if(decide ((n3:Int)≥(((x2).length:Nat):Int)))then(
  some (1:Int)
  )else(
  chk ((n3:Int)<(((x2).length:Nat):Int))<|
  (f71 (x1.getD n3 0) (x2.getD n3 0)).bind fun(r4:Int)=>
  if(r4 !=(0:Int))then(
  some r4
  )else(
  chk (((n3:Int)+(1:Int))≤9223372036854775807)<|
  (uY x1 x2 K1 k) (n3+1)
  )
  )
  )else(
  K1 ()
  )
def f51 (x1 x2:List Int):Option Int:=
 jn (fun(_:Unit)=>
 if(decide ((((x1).length:Nat):Int)<(((x2).length:Nat):Int)))then(
 some (-1:Int)
 )else(
 some (0:Int)
 )
 ) fun(K1:Unit→Option Int)=>
 uY x1 x2 K1 bG 0
theorem f51_ok (x1 x2:List Int) (r:Int) (h:f51 x1 x2=some r):aH Tryz.prog 51 [] [] [] [vL 1 eI 0 x1,vL 1 eI 0 x2] (.int .i64 r) []:=by
 unfold f51 at h;refine aH.body 0 _ _ Tryz.func51 rfl Tryz.ntmps51 rfl rfl ?_;refine aU [] [] ⟨36,[(0,kL x1),(1,kL x2)],[],[],0⟩ trivial ?_;obtain⟨K1,hK1,h⟩:=aS h;refine AWp.join (fun(x:Unit)=>match x with|()=>⟨36,[(0,kL x1),(1,kL x2)],[],[],0⟩) (fun x=>K1 x=some r) ?_ ?_
 ·
  refine aU [] [] ⟨36,[(0,kL x1),(1,kL x2),(9,kL x1),(10,.i (lZ x1)),(11,.i (0:Int))],[],[],0⟩ trivial ?_;refine AWp.block ?_;refine AWp.loopL (α:=Nat×Nat) (fun x=>match x with|(_,n3)=>⟨36,[(0,kL x1),(1,kL x2),(9,kL x1),(10,.i (lZ x1)),(11,.i (n3:Int))],[],[],0⟩) (fun x=>uY x1 x2 K1 x.1 x.2=some r) (fun x=>x.1) (bG,0) (LR (s':=⟨36,[(0,kL x1),(1,kL x2),(9,kL x1),(10,.i (lZ x1)),(11,.i (0:Int))],[],[],0⟩)) h ?_
  rintro⟨k0,n3⟩ h
  cases k0 with
  |zero=>exact nomatch (show none=some r from h)
  |succ k0=>
  obtain⟨C0,hC0⟩:∃C,C=uY x1 x2 K1 k0:=⟨_,rfl⟩;replace h:=(uY.eq_2 ..).symm.trans h
  try rw[←hC0]at h
  refine aU [] [] ⟨36,[(0,kL x1),(1,kL x2),(9,kL x1),(10,.i (lZ x1)),(11,.i (n3:Int)),(12,.bool (decide ((n3:Int)<(lZ x1))))],[],[],0⟩ trivial ?_;refine AWp.seq ?_;refine AWp.cond (b:=(decide ((n3:Int)<(lZ x1)))) (by kernel_rfl) (fun hc1=> ?_) (fun hc1=> ?_)
  ·
   replace h:=aE hc1 h;refine AWp.skip (tN (AWp.seq (AWp.block (AWp.seq ?_))));obtain⟨ob0p,h⟩:=aB h;have ob0:0≤(n3:Int)∧(n3:Int)<(((x1).length:Nat):Int):=⟨by omega,ob0p⟩;refine cA [] [] [0,1,5,6,9,10,11] [] (an1 ob0) ?_;refine tN (AWp.seq ?_);refine bJ [] [] [0,1,5,6,9,10,11,19] [] trivial ?_;refine AWp.cond (b:=(decide ((n3:Int)≥(lZ x2)))) (by kernel_rfl) (fun hc2=> ?_) (fun hc2=> ?_)
   ·
    replace h:=aE hc2 h;refine aU [] [] ⟨36,[(4,.i (1:Int))],[],[],0⟩ trivial ?_;have hret:=Option.some.inj h;subst hret;refine AWp.ret (tR (kR (tR (tR (kR (aY ?_))))));exact bR _ rfl ⟨rfl,rfl⟩ rfl
   ·
    replace h:=aF hc2 h;refine AWp.skip (tN (AWp.seq ?_));obtain⟨ob1p,h⟩:=aB h;have ob1:0≤(n3:Int)∧(n3:Int)<(((x2).length:Nat):Int):=⟨by omega,ob1p⟩;refine cA [] [] [0,1,6,7,9,10,11] [] (an1 ob1) ?_;refine tN (AWp.seq ?_);obtain⟨r4,hr4,h⟩:=bind_ok h;refine cA [] [(2,⟨[.i (x1.getD n3 0),.i (x2.getD n3 0)],[],[],[],.i r4,[],[],[]⟩)] [0,1,8,9,10,11] [] (an1 (cpT (f71_ok _ _ _ hr4))) ?_;refine tN ?_;refine aU [] [] ⟨36,[(0,kL x1),(1,kL x2),(8,.i r4),(9,kL x1),(10,.i (lZ x1)),(11,.i (n3:Int)),(28,.bool (r4 !=(0:Int)))],[],[],0⟩ trivial ?_;refine AWp.cond (b:=(r4 !=(0:Int))) (by kernel_rfl) (fun hc3=> ?_) (fun hc3=> ?_)
    ·
     replace h:=aE hc3 h;refine aU [] [] ⟨36,[(4,.i r4)],[],[],0⟩ trivial ?_;have hret:=Option.some.inj h;subst hret;refine AWp.ret (kR (tR (tR (kR (aY ?_)))));exact bR _ rfl ⟨rfl,rfl⟩ rfl
    ·
     replace h:=aF hc3 h;refine AWp.skip (kN (tN ?_));obtain⟨ob2p,h⟩:=aB h;have ob2: -9223372036854775808≤((n3:Int)+(1:Int))∧((n3:Int)+(1:Int))≤9223372036854775807:=⟨by omega,ob2p⟩;refine aZ [] [] ⟨36,[(0,kL x1),(1,kL x2),(9,kL x1),(10,.i (lZ x1)),(11,.i (((n3+1):Nat):Int))],[],[],0⟩ (an1 ob2) ?_;rw[hC0]at h;exact lN (_,(n3+1)) LR h (Nat.lt_succ_self _)
  ·
   replace h:=aF hc1 h;refine AWp.exit (tE (tE (kS ?_)));exact jN () LR h
 ·
  rintro⟨⟩ h;replace h:=(congrFun hK1 _).symm.trans h;refine AWp.seq ?_;refine bJ [] [] [35] [] trivial ?_;refine AWp.cond (b:=(decide ((lZ x1)<(lZ x2)))) (by kernel_rfl) (fun hc4=> ?_) (fun hc4=> ?_)
  ·
   replace h:=aE hc4 h;refine aU [] [] ⟨36,[(4,.i (-1:Int))],[],[],0⟩ trivial ?_;have hret:=Option.some.inj h;subst hret;refine AWp.ret (tR ?_);exact bR _ rfl ⟨rfl,rfl⟩ rfl
  ·
   replace h:=aF hc4 h;refine AWp.skip (tN ?_);refine aU [] [] ⟨36,[(4,.i (0:Int))],[],[],0⟩ trivial ?_;have hret:=Option.some.inj h;subst hret;refine AWp.ret ?_;exact bR _ rfl ⟨rfl,rfl⟩ rfl
def vE (x1:List Y51) (n2:Nat) (K2:Tq6→Option Tq3) (r6:Tq4):Nat→(Nat×Int×Int×Int)→Option Tq3
 |0,_=>none
 |k+1,(n11,i12,i13,i14)=>
  if(decide ((n11:Int)<(((x1).length:Nat):Int)))then(
  jn (fun((i17,i18,i19):Tq6)=>
  chk (((n11:Int)+(1:Int))≤9223372036854775807)<|
  (vE x1 n2 K2 r6 k) ((n11+1),i17,i18,i19)
  ) fun(K3:Tq6→Option Tq3)=>
  chk ((n11:Int)<(((x1).length:Nat):Int))<|
  (f50 ((x1.getD n11 (default:Y51)).1) ((x1.getD n11 (default:Y51)).2.1) ((x1.getD n11 (default:Y51)).2.2.1) ((x1.getD n11 (default:Y51)).2.2.2.1) ((x1.getD n11 (default:Y51)).2.2.2.2.1) ((x1.getD n11 (default:Y51)).2.2.2.2.2.1) ((x1.getD n11 (default:Y51)).2.2.2.2.2.2)).bind fun(r15:Tq4)=>
  if((((!r15.2)||(decide (r15.1<r6.1)))||((x1.getD n2 (default:Y51)).2.2.2.1 !=(x1.getD n11 (default:Y51)).2.2.2.1))||(((x1.getD n2 (default:Y51)).2.2.2.2.2.1)==((x1.getD n11 (default:Y51)).2.2.2.2.2.1)))then(
  K3 (i12,i13,i14)
  )else(
  if(decide (i13<(0:Int)))=true then(
  K3 ((x1.getD n2 (default:Y51)).2.2.2.1,r6.1,r15.1)
  )else(
  (f51 [(x1.getD n2 (default:Y51)).2.2.2.1,r6.1,r15.1] [i12,i13,i14]).bind fun(r20:Int)=>
  if(decide (r20<(0:Int)))then(
  K3 ((x1.getD n2 (default:Y51)).2.2.2.1,r6.1,r15.1)
  )else(
  K3 (i12,i13,i14)
  )
  )
  )
  )else(
  K2 (i12,i13,i14)
  )
def vF (x1:List Y51) (K1:Tq6→Option Tq3):Nat→(Nat×Int×Int×Int)→Option Tq3
 |0,_=>none
 |k+1,(n2,i3,i4,i5)=>
  if(decide ((n2:Int)<(((x1).length:Nat):Int)))then(
  jn (fun((i7,i9,i10):Tq6)=>
  chk (((n2:Int)+(1:Int))≤9223372036854775807)<|
  (vF x1 K1 k) ((n2+1),i7,i9,i10)
  ) fun(K2:Tq6→Option Tq3)=>
  chk ((n2:Int)<(((x1).length:Nat):Int))<|
  (f50 ((x1.getD n2 (default:Y51)).1) ((x1.getD n2 (default:Y51)).2.1) ((x1.getD n2 (default:Y51)).2.2.1) ((x1.getD n2 (default:Y51)).2.2.2.1) ((x1.getD n2 (default:Y51)).2.2.2.2.1) ((x1.getD n2 (default:Y51)).2.2.2.2.2.1) ((x1.getD n2 (default:Y51)).2.2.2.2.2.2)).bind fun(r6:Tq4)=>
  if(!r6.2)then(
  K2 (i3,i4,i5)
  )else(
  vE x1 n2 K2 r6 bG (0,i3,i4,i5)
  )
  )else(
  K1 (i3,i4,i5)
  )
abbrev gY :List V:=[.int .i64 (0:Int),.int .i64 (0:Int),.int .i64 (0:Int)]
abbrev mY (r15 r6:Tq4):=((!r15.2)||(decide (r15.1<r6.1)))
abbrev xO (i12 i13 i14:Int):List V:=[.int .i64 i12,.int .i64 i13,.int .i64 i14]
abbrev f22z3 :aK:=[(2,.cells 60 (gY)),(4,.cells 60 [.int .i64 (0:Int),.int .i64 (-1:Int),.int .i64 (0:Int)])]
abbrev f22z4 (i3 i4 i5:Int):List V:=[.int .i64 i3,.int .i64 i4,.int .i64 i5]
abbrev f22z5 (i7 i9 i10:Int):aK:=[(2,.cells 60 (gY)),(4,.cells 60 [.int .i64 i7,.int .i64 i9,.int .i64 i10])]
abbrev f22z6 (i3 i4 i5:Int):aK:=[(2,.cells 60 (gY)),(4,.cells 60 (f22z4 i3 i4 i5))]
def f22 (x1:List Y51):Option Tq3:=
 jn (fun((i21,i22,i23):Tq6)=>
 if(decide (i22<(0:Int)))then(
 some ((0:Int),(0:Int),(0:Int),(13:Int))
 )else(
 some (i21,i22,i23,(0:Int))
 )
 ) fun(K1:Tq6→Option Tq3)=>
 vF x1 K1 bG (0,(0:Int),(-1:Int),(0:Int))
theorem f22_ok (x1:List Y51) (r:Tq3) (h:f22 x1=some r):aH Tryz.prog 22 [] [] [] [vL 28 aAx (default:Y51) x1] (.tup [.agg [.int .i64 r.1,.int .i64 r.2.1,.int .i64 r.2.2.1],.int .i64 r.2.2.2]) []:=by
 unfold f22 at h;refine aH.bodyD [2] 0 _ _ Tryz.func22 rfl Tryz.ntmps22 rfl rfl ?_;refine bJ [] [] [0,2] [2] trivial ?_;refine aU [] [] ⟨94,[(0,bC x1),(2,.ptr 2 0),(4,.ptr 4 0)],(f22z3),[],0⟩ (an1 trivial) ?_;obtain⟨K1,hK1,h⟩:=aS h;refine AWp.join (fun(x:Tq6)=>match x with|(i21,i22,i23)=>⟨94,[(2,.ptr 2 0),(4,.ptr 4 0)],[(2,.cells 60 (gY)),(4,.cells 60 [.i i21,.i i22,.i i23])],[],0⟩) (fun x=>K1 x=some r) ?_ ?_
 ·
  refine aU [] [] ⟨94,[(0,bC x1),(2,.ptr 2 0),(4,.ptr 4 0),(15,bC x1),(16,.i (lZ x1)),(17,.i (0:Int))],(f22z3),[],0⟩ trivial ?_;refine AWp.block ?_;refine AWp.loopL (α:=Nat×(Nat×Int×Int×Int)) (fun x=>match x with|(_,n2,i3,i4,i5)=>⟨94,[(0,bC x1),(2,.ptr 2 0),(4,.ptr 4 0),(15,bC x1),(16,.i (lZ x1)),(17,.i (n2:Int))],(f22z6 i3 i4 i5),[],0⟩) (fun x=>vF x1 K1 x.1 x.2=some r) (fun x=>x.1) (bG,0,(0:Int),(-1:Int),(0:Int)) (LR (s':=⟨94,[(0,bC x1),(2,.ptr 2 0),(4,.ptr 4 0),(15,bC x1),(16,.i (lZ x1)),(17,.i (0:Int))],(f22z3),[],0⟩)) h ?_
  rintro⟨k0,n2,i3,i4,i5⟩ h
  cases k0 with
  |zero=>exact nomatch (show none=some r from h)
  |succ k0=>
  obtain⟨C0,hC0⟩:∃C,C=vF x1 K1 k0:=⟨_,rfl⟩;replace h:=(vF.eq_2 ..).symm.trans h
  try rw[←hC0]at h
  refine aU [] [] ⟨94,[(0,bC x1),(2,.ptr 2 0),(4,.ptr 4 0),(15,bC x1),(16,.i (lZ x1)),(17,.i (n2:Int)),(18,.bool (decide ((n2:Int)<(lZ x1))))],(f22z6 i3 i4 i5),[],0⟩ trivial ?_;refine AWp.seq ?_;refine AWp.cond (b:=(decide ((n2:Int)<(lZ x1)))) (by kernel_rfl) (fun hc1=> ?_) (fun hc1=> ?_)
  ·
   replace h:=aE hc1 h;refine AWp.skip (tN ?_);obtain⟨K2,hK2,h⟩:=aS h;refine AWp.join (fun(x:Tq6)=>match x with|(i7,i9,i10)=>⟨94,[(0,bC x1),(2,.ptr 2 0),(4,.ptr 4 0),(15,bC x1),(16,.i (lZ x1)),(17,.i (n2:Int))],(f22z5 i7 i9 i10),[],0⟩) (fun x=>K2 x=some r) ?_ ?_
   ·
    refine AWp.block (AWp.seq ?_);obtain⟨ob0p,h⟩:=aB h;have ob0:0≤(n2:Int)∧(n2:Int)<(((x1).length:Nat):Int):=⟨by omega,ob0p⟩;refine cA [] [] [0,2,4,6,15,16,17] [2,4,6] (an2 ob0 trivial) ?_;refine tN (AWp.seq ?_);obtain⟨r6,hr6,h⟩:=bind_ok h;refine cA [] [(1,⟨[.agg (qpt (x1.getD n2 aL))],[],[],[],.tup [.i r6.1,.bool r6.2],[],[],[]⟩)] [0,2,4,6,7,8,15,16,17] [2,4,6] (an1 (cpT (aAc _ _ _ _ _ _ _ _ hr6))) ?_;refine tN (AWp.seq ?_);refine aU [] [] ⟨94,[(0,bC x1),(2,.ptr 2 0),(4,.ptr 4 0),(6,.ptr 6 0),(7,.i r6.1),(15,bC x1),(16,.i (lZ x1)),(17,.i (n2:Int)),(27,.bool (!r6.2))],[(2,.cells 60 (gY)),(4,.cells 60 (f22z4 i3 i4 i5)),(6,.cells 51 (qpt (x1.getD n2 aL)))],[],0⟩ trivial ?_;refine AWp.cond (b:=(!r6.2)) (by kernel_rfl) (fun hc2=> ?_) (fun hc2=> ?_)
    ·
     replace h:=aE hc2 h;refine AWp.exit (tE (kS ?_));exact jN (i3,i4,i5) LR h
    ·
     replace h:=aF hc2 h;refine AWp.skip (tN ?_);refine aU [] [] ⟨94,[(0,bC x1),(2,.ptr 2 0),(4,.ptr 4 0),(6,.ptr 6 0),(7,.i r6.1),(15,bC x1),(16,.i (lZ x1)),(17,.i (n2:Int)),(28,bC x1),(29,.i (lZ x1)),(30,.i (0:Int))],[(2,.cells 60 (gY)),(4,.cells 60 (f22z4 i3 i4 i5)),(6,.cells 51 (qpt (x1.getD n2 aL)))],[],0⟩ trivial ?_;refine AWp.block ?_;refine AWp.loopL (α:=Nat×(Nat×Int×Int×Int)) (fun x=>match x with|(_,n11,i12,i13,i14)=>⟨94,[(0,bC x1),(2,.ptr 2 0),(4,.ptr 4 0),(6,.ptr 6 0),(7,.i r6.1),(15,bC x1),(16,.i (lZ x1)),(17,.i (n2:Int)),(28,bC x1),(29,.i (lZ x1)),(30,.i (n11:Int))],[(2,.cells 60 (gY)),(4,.cells 60 (xO i12 i13 i14)),(6,.cells 51 (qpt (x1.getD n2 aL)))],[],0⟩) (fun x=>vE x1 n2 K2 r6 x.1 x.2=some r) (fun x=>x.1) (bG,0,i3,i4,i5) (LR (s':=⟨94,[(0,bC x1),(2,.ptr 2 0),(4,.ptr 4 0),(6,.ptr 6 0),(7,.i r6.1),(15,bC x1),(16,.i (lZ x1)),(17,.i (n2:Int)),(28,bC x1),(29,.i (lZ x1)),(30,.i (0:Int))],[(2,.cells 60 (gY)),(4,.cells 60 (f22z4 i3 i4 i5)),(6,.cells 51 (qpt (x1.getD n2 aL)))],[],0⟩)) h ?_
     rintro⟨k1,n11,i12,i13,i14⟩ h
     cases k1 with
     |zero=>exact nomatch (show none=some r from h)
     |succ k1=>
     obtain⟨C1,hC1⟩:∃C,C=vE x1 n2 K2 r6 k1:=⟨_,rfl⟩;replace h:=(vE.eq_2 ..).symm.trans h
     try rw[←hC1]at h
     refine aU [] [] ⟨94,[(0,bC x1),(2,.ptr 2 0),(4,.ptr 4 0),(6,.ptr 6 0),(7,.i r6.1),(15,bC x1),(16,.i (lZ x1)),(17,.i (n2:Int)),(28,bC x1),(29,.i (lZ x1)),(30,.i (n11:Int)),(31,.bool (decide ((n11:Int)<(lZ x1))))],[(2,.cells 60 (gY)),(4,.cells 60 (xO i12 i13 i14)),(6,.cells 51 (qpt (x1.getD n2 aL)))],[],0⟩ trivial ?_;refine AWp.seq ?_;refine AWp.cond (b:=(decide ((n11:Int)<(lZ x1)))) (by kernel_rfl) (fun hc3=> ?_) (fun hc3=> ?_)
     ·
      replace h:=aE hc3 h;refine AWp.skip (tN ?_);obtain⟨K3,hK3,h⟩:=aS h;refine AWp.join (fun(x:Tq6)=>match x with|(i17,i18,i19)=>⟨94,[(0,bC x1),(2,.ptr 2 0),(4,.ptr 4 0),(6,.ptr 6 0),(7,.i r6.1),(15,bC x1),(16,.i (lZ x1)),(17,.i (n2:Int)),(28,bC x1),(29,.i (lZ x1)),(30,.i (n11:Int))],[(2,.cells 60 (gY)),(4,.cells 60 [.i i17,.i i18,.i i19]),(6,.cells 51 (qpt (x1.getD n2 aL)))],[],0⟩) (fun x=>K3 x=some r) ?_ ?_
      ·
       refine AWp.block (AWp.seq ?_);obtain⟨ob1p,h⟩:=aB h;have ob1:0≤(n11:Int)∧(n11:Int)<(((x1).length:Nat):Int):=⟨by omega,ob1p⟩;refine cA [] [] [0,2,4,6,7,10,15,16,17,28,29,30] [2,4,6,10] (an2 ob1 trivial) ?_;refine tN (AWp.seq ?_);obtain⟨r15,hr15,h⟩:=bind_ok h;refine cA [] [(1,⟨[.agg (qpt (x1.getD n11 aL))],[],[],[],.tup [.i r15.1,.bool r15.2],[],[],[]⟩)] [0,2,4,6,7,10,11,12,15,16,17,28,29,30] [2,4,6,10] (an1 (cpT (aAc _ _ _ _ _ _ _ _ hr15))) ?_;refine tN (AWp.seq (AWp.seq ?_));have ob2:=idA (((!r15.2)==false)=true);have ob3:=idA (((!r15.2)==false)=true);have ob4:=bqA (!r15.2) false;have ob5:=idA (((mY r15 r6)==false)=true);have ob6:=idA (((mY r15 r6)==false)=true);have ob7:=idA (((mY r15 r6)==false)=true);have ob8:=idA (((mY r15 r6)==false)=true);have ob9:=bqA (mY r15 r6) false;have ob10:=idA ((((mY r15 r6)||((x1.getD n2 aL).2.2.2.1 !=(x1.getD n11 aL).2.2.2.1))==false)=true);have ob11:=idA ((((mY r15 r6)||((x1.getD n2 aL).2.2.2.1 !=(x1.getD n11 aL).2.2.2.1))==false)=true);have ob12:=idA ((((mY r15 r6)||((x1.getD n2 aL).2.2.2.1 !=(x1.getD n11 aL).2.2.2.1))==false)=true);have ob13:=idA ((((mY r15 r6)||((x1.getD n2 aL).2.2.2.1 !=(x1.getD n11 aL).2.2.2.1))==false)=true);have ob14:=bqA ((mY r15 r6)||((x1.getD n2 aL).2.2.2.1 !=(x1.getD n11 aL).2.2.2.1)) false;refine aZ [] [] ⟨94,[(0,bC x1),(2,.ptr 2 0),(4,.ptr 4 0),(6,.ptr 6 0),(7,.i r6.1),(11,.i r15.1),(15,bC x1),(16,.i (lZ x1)),(17,.i (n2:Int)),(28,bC x1),(29,.i (lZ x1)),(30,.i (n11:Int)),(59,.bool (((mY r15 r6)||((x1.getD n2 aL).2.2.2.1 !=(x1.getD n11 aL).2.2.2.1))||(((x1.getD n2 aL).2.2.2.2.2.1)==((x1.getD n11 aL).2.2.2.2.2.1))))],[(2,.cells 60 (gY)),(4,.cells 60 (xO i12 i13 i14)),(6,.cells 51 (qpt (x1.getD n2 aL)))],[],0⟩ (ac6 (an2 ob2 ob3) ob4 (an1 ob5) (an1 ob6) (an2 ob7 ob8) ob9 (an4 (an1 ob10) (an1 ob11) (an2 ob12 ob13) ob14)) ?_;refine tN ?_;refine AWp.cond (b:=(((mY r15 r6)||((x1.getD n2 aL).2.2.2.1 !=(x1.getD n11 aL).2.2.2.1))||(((x1.getD n2 aL).2.2.2.2.2.1)==((x1.getD n11 aL).2.2.2.2.2.1)))) (by kernel_rfl) (fun hc4=> ?_) (fun hc4=> ?_)
       ·
        replace h:=aE hc4 h;refine AWp.exit (tE (kS ?_));exact jN (i12,i13,i14) LR h
       ·
        replace h:=aF hc4 h;refine AWp.skip (tN ?_);refine aU [] [] ⟨94,[(0,bC x1),(2,.ptr 2 0),(4,.ptr 4 0),(6,.ptr 6 0),(7,.i r6.1),(13,.ptr 13 0),(15,bC x1),(16,.i (lZ x1)),(17,.i (n2:Int)),(28,bC x1),(29,.i (lZ x1)),(30,.i (n11:Int))],[(2,.cells 60 (gY)),(4,.cells 60 (xO i12 i13 i14)),(6,.cells 51 (qpt (x1.getD n2 aL))),(13,.cells 60 [.i (x1.getD n2 aL).2.2.2.1,.i r6.1,.i r15.1])],[],0⟩ (an1 trivial) ?_;refine AWp.seq ?_;by_cases hg13_3:(decide (i13<(0:Int)))=true
        ·
         replace h:=uB hg13_3 h;have ob15:=idA (false=true);have ob16:=idA (false=true);have ob17:=idA (false=true);have ob18:=idA (false=true);have ob19:=idA (false=true);have ob20:=idA (false=true);have ob21:=idA (false=true);have ob22:=idA (false=true);have ob23:true=true→true=false→false=true:=by first|decide|omega|simp|(intro h;cases h)
         refine aZ [] [(3,⟨[],[],[],[],(.bool true),[],[0],[]⟩),(18,⟨[],[],[],[],.any,[],[],[]⟩)] ⟨94,[(0,bC x1),(2,.ptr 2 0),(4,.ptr 4 0),(6,.ptr 6 0),(7,.i r6.1),(13,.ptr 13 0),(15,bC x1),(16,.i (lZ x1)),(17,.i (n2:Int)),(28,bC x1),(29,.i (lZ x1)),(30,.i (n11:Int)),(85,.bool true)],[(2,.cells 60 (gY)),(4,.cells 60 (xO i12 i13 i14)),(6,.cells 51 (qpt (x1.getD n2 aL))),(13,.cells 60 [.i (x1.getD n2 aL).2.2.2.1,.i r6.1,.i r15.1])],[],0⟩ (ac6 (show((.bool (decide (i13<(0:Int)))):V)=(.bool true)from(congrArg (fun x=>((.bool x):V)) hg13_3)) (an1 ob15) (an1 ob16) (an1 ob17) (an1 ob18) (an1 ob19) (an3 (an1 ob20) (And.intro (show(pD Tryz.prog false 51 [] [] [] [] [] [.bool false,.bool false] [] (.any) [])from⟨nofun,nofun,.inl rfl⟩) (an2 ob21 ob22)) ob23)) ?_;refine tN ?_;refine AWp.cond (b:=true) (by kernel_rfl) (fun hc=> ?_) (fun hc=> ?_)
         ·
          clear hc;refine aZ [] [] ⟨94,[(0,bC x1),(2,.ptr 2 0),(4,.ptr 4 0),(6,.ptr 6 0),(7,.i r6.1),(15,bC x1),(16,.i (lZ x1)),(17,.i (n2:Int)),(28,bC x1),(29,.i (lZ x1)),(30,.i (n11:Int))],[(2,.cells 60 (gY)),(4,.cells 60 [.i (x1.getD n2 aL).2.2.2.1,.i r6.1,.i r15.1]),(6,.cells 51 (qpt (x1.getD n2 aL)))],[],0⟩ (an1 trivial) ?_;refine kN ?_;have eq29:(x1.getD n2 aL).2.2.2.1=((x1.getD n2 aL).2.2.2.1):=by first|omega|(simp only[List.length_append,List.length_cons,List.length_nil,List.length_take,List.length_drop]at *;omega)|(simp;done)|(simp_all;done)|(simp_all;omega)|rfl
          exact jN ((x1.getD n2 aL).2.2.2.1,r6.1,r15.1) (Le.mk rfl rfl ⟨.refl _,.refl _,.refl _,.refl _,.refl _,.refl _,.refl _,.refl _,.refl _,.refl _,.refl _,trivial⟩ ⟨⟨_,rfl,.refl _⟩,⟨_,rfl,(.cellsL ⟨(.int eq29),.refl _,.refl _,trivial⟩)⟩,⟨_,rfl,.refl _⟩,trivial⟩) h
         ·
          cases hc
        ·
         replace h:=uC hg13_3 h;obtain⟨r20,hr20,h⟩:=bind_ok h;have ob15:=idA (true=true);have ob16:=idA (true=true);have ob17:=idA (true=true);have ob18:=idA (true=true);have ob19:=idA (true=true);have ob20:=idA (true=true);have ob21:=idA (true=true);have ob22:=idA (true=true);have ob23:=idA (true=true);have ob24:=idA (true=true);have ob25:=idA (true=true);have ob26:=idA (true=true);have ob27:=idA (true=true);have ob28:true=true→false=false→true=true:=by first|decide|omega|simp|(intro h;cases h)
         refine aZ [] [(3,⟨[],[],[],[],(.bool false),[],[0],[]⟩),(18,⟨[kL [(x1.getD n2 aL).2.2.2.1,r6.1,r15.1],kL [i12,i13,i14]],[],[],[],.i r20,[],[75,82],[]⟩)] ⟨94,[(0,bC x1),(2,.ptr 2 0),(4,.ptr 4 0),(6,.ptr 6 0),(7,.i r6.1),(13,.ptr 13 0),(15,bC x1),(16,.i (lZ x1)),(17,.i (n2:Int)),(28,bC x1),(29,.i (lZ x1)),(30,.i (n11:Int)),(85,.bool (decide (r20<(0:Int))))],[(2,.cells 60 (gY)),(4,.cells 60 (xO i12 i13 i14)),(6,.cells 51 (qpt (x1.getD n2 aL))),(13,.cells 60 [.i (x1.getD n2 aL).2.2.2.1,.i r6.1,.i r15.1])],[],0⟩ (ac6 (show((.bool (decide (i13<(0:Int)))):V)=(.bool false)from(congrArg (fun x=>((.bool x):V)) (Bool.eq_false_iff.2 hg13_3))) (an1 ob15) (an1 ob16) (an1 ob17) (an3 ob18 ob19 ob20) (an1 ob21) (an6 (an1 ob22) (an1 ob23) (an3 ob24 ob25 ob26) (cpL (c:=true) [(75,.rows 3 1 3 (dH 1 [.i (x1.getD n2 aL).2.2.2.1,.i r6.1,.i r15.1])),(82,.rows 3 1 3 (dH 1 (xO i12 i13 i14)))] [75,82] [.own 75,.own 82] (fun _=>(f51_ok _ _ _ hr20)) (fun _=>⟨(VLe.of (RL.lst (enc:=eI) [(x1.getD n2 aL).2.2.2.1,r6.1,r15.1] rfl rfl (fun _=>rfl))),(VLe.of (RL.lst (enc:=eI) [i12,i13,i14] rfl rfl (fun _=>rfl))),trivial⟩) (.inr ⟨rfl,trivial⟩)) (an1 ob27) ob28)) ?_;refine tN ?_;refine AWp.cond (b:=(decide (r20<(0:Int)))) (by kernel_rfl) (fun hc6=> ?_) (fun hc6=> ?_)
         ·
          replace h:=aE hc6 h;refine aZ [] [] ⟨94,[(0,bC x1),(2,.ptr 2 0),(4,.ptr 4 0),(6,.ptr 6 0),(7,.i r6.1),(15,bC x1),(16,.i (lZ x1)),(17,.i (n2:Int)),(28,bC x1),(29,.i (lZ x1)),(30,.i (n11:Int))],[(2,.cells 60 (gY)),(4,.cells 60 [.i (x1.getD n2 aL).2.2.2.1,.i r6.1,.i r15.1]),(6,.cells 51 (qpt (x1.getD n2 aL)))],[],0⟩ (an1 trivial) ?_;refine kN ?_;have eq30:(x1.getD n2 aL).2.2.2.1=((x1.getD n2 aL).2.2.2.1):=by first|omega|(simp only[List.length_append,List.length_cons,List.length_nil,List.length_take,List.length_drop]at *;omega)|(simp;done)|(simp_all;done)|(simp_all;omega)|rfl
          exact jN ((x1.getD n2 aL).2.2.2.1,r6.1,r15.1) (Le.mk rfl rfl ⟨.refl _,.refl _,.refl _,.refl _,.refl _,.refl _,.refl _,.refl _,.refl _,.refl _,.refl _,trivial⟩ ⟨⟨_,rfl,.refl _⟩,⟨_,rfl,(.cellsL ⟨(.int eq30),.refl _,.refl _,trivial⟩)⟩,⟨_,rfl,.refl _⟩,trivial⟩) h
         ·
          replace h:=aF hc6 h;refine AWp.skip (kN ?_);exact jN (i12,i13,i14) LR h
      ·
       rintro⟨i17,i18,i19⟩ h;replace h:=(congrFun hK3 _).symm.trans h;obtain⟨ob31p,h⟩:=aB h;have ob31: -9223372036854775808≤((n11:Int)+(1:Int))∧((n11:Int)+(1:Int))≤9223372036854775807:=⟨by omega,ob31p⟩;refine aZ [] [] ⟨94,[(0,bC x1),(2,.ptr 2 0),(4,.ptr 4 0),(6,.ptr 6 0),(7,.i r6.1),(15,bC x1),(16,.i (lZ x1)),(17,.i (n2:Int)),(28,bC x1),(29,.i (lZ x1)),(30,.i (((n11+1):Nat):Int))],[(2,.cells 60 (gY)),(4,.cells 60 [.i i17,.i i18,.i i19]),(6,.cells 51 (qpt (x1.getD n2 aL)))],[],0⟩ (an1 ob31) ?_;rw[hC1]at h;exact lN (_,(n11+1),i17,i18,i19) LR h (Nat.lt_succ_self _)
     ·
      replace h:=aF hc3 h;refine AWp.exit (tE (tE (kS (kN ?_))));exact jN (i12,i13,i14) LR h
   ·
    rintro⟨i7,i9,i10⟩ h;replace h:=(congrFun hK2 _).symm.trans h;obtain⟨ob32p,h⟩:=aB h;have ob32: -9223372036854775808≤((n2:Int)+(1:Int))∧((n2:Int)+(1:Int))≤9223372036854775807:=⟨by omega,ob32p⟩;refine aZ [] [] ⟨94,[(0,bC x1),(2,.ptr 2 0),(4,.ptr 4 0),(15,bC x1),(16,.i (lZ x1)),(17,.i (((n2+1):Nat):Int))],(f22z5 i7 i9 i10),[],0⟩ (an1 ob32) ?_;rw[hC0]at h;exact lN (_,(n2+1),i7,i9,i10) LR h (Nat.lt_succ_self _)
  ·
   replace h:=aF hc1 h;refine AWp.exit (tE (tE (kS ?_)));exact jN (i3,i4,i5) LR h
 ·
  rintro⟨i21,i22,i23⟩ h;replace h:=(congrFun hK1 _).symm.trans h;refine AWp.seq ?_;refine bJ [] [] [2,4,91] [2,4] trivial ?_;refine AWp.cond (b:=(decide (i22<(0:Int)))) (by kernel_rfl) (fun hc7=> ?_) (fun hc7=> ?_)
  ·
   replace h:=aE hc7 h;refine aU [] [] ⟨94,[(2,.ptr 2 0),(3,.i (13:Int))],[(2,.cells 60 (gY))],[],0⟩ (an1 trivial) ?_;have hret:=Option.some.inj h;subst hret;refine AWp.ret (tR ?_);exact bR _ rfl ⟨rfl,rfl⟩ rfl
  ·
   replace h:=aF hc7 h;refine AWp.skip (tN ?_);refine aU [] [] ⟨94,[(2,.ptr 2 0),(3,.i (0:Int))],[(2,.cells 60 [.i i21,.i i22,.i i23])],[],0⟩ (an1 trivial) ?_;have hret:=Option.some.inj h;subst hret;refine AWp.ret ?_;exact bR _ rfl ⟨rfl,rfl⟩ rfl
def f44  :Option Ty3:=
 some ([],[],[],[],[],[],[])
theorem f44_ok (r:(List Tq5)×(List Tq4)×Ty8×(List Tq2)×Ty8×Ty5×Ty6) (h:f44=some r):aH Tryz.prog 44 [] [] [] [] (.agg [.own 3000,.own 3001,.own 3002,.own 3003,.own 3004,.own 3005,.own 3006]) [(3000,bP (V.int .i64) 0 dP [] r.1),(3001,bP (V.int .i64) 0 dV false r.2.1),(3002,bP aM (default:Tq2) cC [] r.2.2.1),(3003,bP (V.int .i64) 0 dU 0 r.2.2.2.1),(3004,bP aM (default:Tq2) cC [] r.2.2.2.2.1),(3005,bP bN (default:Tq0) eD false r.2.2.2.2.2.1),(3006,bP bK (default:Tq2) eA false r.2.2.2.2.2.2)]:=by
 unfold f44 at h;refine aH.bodyD [0] 0 _ _ Tryz.func44 rfl Tryz.ntmps44 rfl rfl ?_;refine bJ [] [] [0] [0] trivial ?_;refine aU [] [(0,⟨[],[],[],[(1,bP (V.int .i64) 0 dP [] [])],.own 1,[1],[],[]⟩),(1,⟨[],[],[],[(2,bP (V.int .i64) 0 dV false [])],.own 2,[2],[],[]⟩),(2,⟨[],[],[],[(3,bP aM bI cC [] [])],.own 3,[3],[],[]⟩),(3,⟨[],[],[],[(4,bP (V.int .i64) 0 dU 0 [])],.own 4,[4],[],[]⟩),(4,⟨[],[],[],[(5,bP aM bI cC [] [])],.own 5,[5],[],[]⟩),(5,⟨[],[],[],[(6,bP bN bB eD false [])],.own 6,[6],[],[]⟩),(6,⟨[],[],[],[(7,bP bK bI eA false [])],.own 7,[7],[],[]⟩)] ⟨9,[(0,.ptr 0 0)],((0,.cells 115 [.own 1,.own 2,.own 3,.own 4,.own 5,.own 6,.own 7])::qmp 1 ([]) ([]) ([]) ([]) ([]) ([]) ([])),[],0⟩ (ac6 (And.intro (eF (P:=Tryz.prog) (V.int .i64) 0 dP [] 108 1 108) (eJ.same [])) (And.intro (eF (P:=Tryz.prog) (V.int .i64) 0 dV false 109 2 109) (eJ.same [])) (And.intro (eF (P:=Tryz.prog) aM bI cC [] 110 3 110) (eJ.same [])) (And.intro (eF (P:=Tryz.prog) (V.int .i64) 0 dU 0 111 4 111) (eJ.same [])) (And.intro (eF (P:=Tryz.prog) aM bI cC [] 110 5 110) (eJ.same [])) (And.intro (eF (P:=Tryz.prog) bN bB eD false 112 6 112) (eJ.same [])) (an2 (And.intro (eF (P:=Tryz.prog) bK bI eA false 113 7 113) (eJ.same [])) trivial)) ?_;refine AWp.le (Le.trans (Le.ren (bA 1 3000) (aD 1 3000) rfl) (LR (s':=⟨9,[(0,.ptr 0 0)],[(0,.cells 115 [.own 3000,.own 2,.own 3,.own 4,.own 5,.own 6,.own 7]),(3000,bP (V.int .i64) 0 dP [] []),(2,bP (V.int .i64) 0 dV false []),(3,bP aM bI cC [] []),(4,bP (V.int .i64) 0 dU 0 []),(5,bP aM bI cC [] []),(6,bP bN bB eD false []),(7,bP bK bI eA false [])],[],0⟩))) ?_;refine AWp.le (Le.trans (Le.ren (bA 2 3001) (aD 2 3001) rfl) (LR (s':=⟨9,[(0,.ptr 0 0)],[(0,.cells 115 [.own 3000,.own 3001,.own 3,.own 4,.own 5,.own 6,.own 7]),(3000,bP (V.int .i64) 0 dP [] []),(3001,bP (V.int .i64) 0 dV false []),(3,bP aM bI cC [] []),(4,bP (V.int .i64) 0 dU 0 []),(5,bP aM bI cC [] []),(6,bP bN bB eD false []),(7,bP bK bI eA false [])],[],0⟩))) ?_;refine AWp.le (Le.trans (Le.ren (bA 3 3002) (aD 3 3002) rfl) (LR (s':=⟨9,[(0,.ptr 0 0)],[(0,.cells 115 [.own 3000,.own 3001,.own 3002,.own 4,.own 5,.own 6,.own 7]),(3000,bP (V.int .i64) 0 dP [] []),(3001,bP (V.int .i64) 0 dV false []),(3002,bP aM bI cC [] []),(4,bP (V.int .i64) 0 dU 0 []),(5,bP aM bI cC [] []),(6,bP bN bB eD false []),(7,bP bK bI eA false [])],[],0⟩))) ?_;refine AWp.le (Le.trans (Le.ren (bA 4 3003) (aD 4 3003) rfl) (LR (s':=⟨9,[(0,.ptr 0 0)],[(0,.cells 115 [.own 3000,.own 3001,.own 3002,.own 3003,.own 5,.own 6,.own 7]),(3000,bP (V.int .i64) 0 dP [] []),(3001,bP (V.int .i64) 0 dV false []),(3002,bP aM bI cC [] []),(3003,bP (V.int .i64) 0 dU 0 []),(5,bP aM bI cC [] []),(6,bP bN bB eD false []),(7,bP bK bI eA false [])],[],0⟩))) ?_;refine AWp.le (Le.trans (Le.ren (bA 5 3004) (aD 5 3004) rfl) (LR (s':=⟨9,[(0,.ptr 0 0)],[(0,.cells 115 [.own 3000,.own 3001,.own 3002,.own 3003,.own 3004,.own 6,.own 7]),(3000,bP (V.int .i64) 0 dP [] []),(3001,bP (V.int .i64) 0 dV false []),(3002,bP aM bI cC [] []),(3003,bP (V.int .i64) 0 dU 0 []),(3004,bP aM bI cC [] []),(6,bP bN bB eD false []),(7,bP bK bI eA false [])],[],0⟩))) ?_;refine AWp.le (Le.trans (Le.ren (bA 6 3005) (aD 6 3005) rfl) (LR (s':=⟨9,[(0,.ptr 0 0)],[(0,.cells 115 [.own 3000,.own 3001,.own 3002,.own 3003,.own 3004,.own 3005,.own 7]),(3000,bP (V.int .i64) 0 dP [] []),(3001,bP (V.int .i64) 0 dV false []),(3002,bP aM bI cC [] []),(3003,bP (V.int .i64) 0 dU 0 []),(3004,bP aM bI cC [] []),(3005,bP bN bB eD false []),(7,bP bK bI eA false [])],[],0⟩))) ?_;refine AWp.le (Le.trans (Le.ren (bA 7 3006) (aD 7 3006) rfl) (LR (s':=⟨9,[(0,.ptr 0 0)],((0,.cells 115 [.own 3000,.own 3001,.own 3002,.own 3003,.own 3004,.own 3005,.own 3006])::qmp 3000 ([]) ([]) ([]) ([]) ([]) ([]) ([])),[],0⟩))) ?_;have hret:=Option.some.inj h;subst hret;refine AWp.le (LR (s':=⟨9,[(0,.ptr 0 0)],[(3000,bP (V.int .i64) 0 dP [] []),(3001,bP (V.int .i64) 0 dV false []),(3002,bP aM bI cC [] []),(3003,bP (V.int .i64) 0 dU 0 []),(3004,bP aM bI cC [] []),(3005,bP bN bB eD false []),(3006,bP bK bI eA false []),(0,.cells 115 [.own 3000,.own 3001,.own 3002,.own 3003,.own 3004,.own 3005,.own 3006])],[],0⟩)) ?_;refine AWp.ret ?_;exact bR _ rfl ⟨rfl,rfl⟩ rfl
def f192 (x1:Int):Option Int:=
 chk (0≤x1∧x1<((cs0.length:Nat):Int))<|
 chk ((((cs0.getD ((x1).toNat) 0).toNat:Nat):Int)≤9223372036854775807)<|
 some (((cs0.getD ((x1).toNat) 0).toNat:Nat):Int)
theorem f192_ok (x1 r:Int) (h:f192 x1=some r):aH Tryz.prog 192 [] [] [] [.int .u8 x1] (.int .i64 r) []:=by
 unfold f192 at h;refine aH.body 0 _ _ Tryz.func192 rfl Tryz.ntmps192 rfl rfl ?_;refine bJ [] [] [0] [] trivial ?_;refine AWp.seq ?_;obtain⟨ob0,ob1p,h⟩:=ck2 h;have ob1: -9223372036854775808≤(((cs0.getD ((x1).toNat) 0).toNat:Nat):Int)∧(((cs0.getD ((x1).toNat) 0).toNat:Nat):Int)≤9223372036854775807:=⟨by omega,ob1p⟩;refine aZ [] [] ⟨6,[(2,.i (((cs0.getD ((x1).toNat) 0).toNat:Nat):Int))],[],[],0⟩ (an2 ob0 ob1) ?_;refine tN ?_;have hret:=Option.some.inj h;subst hret;refine AWp.ret ?_;exact bR _ rfl ⟨rfl,rfl⟩ rfl
def dX (x1:List UInt8) (K1:Unit→Option Tq6):Nat→(Int×Nat)→Option Tq6
 |0,_=>none
 |k+1,(i2,n3)=>
  if(decide ((n3:Int)<(min ((x1.length:Nat):Int) (10:Int))))then(
  chk ((n3:Int)<((x1.length:Nat):Int))<|
  if(decide ((((x1.getD n3 0).toNat:Nat):Int)≥(128:Int)))then(
  chk (0≤(dI .and .u8 (((x1.getD n3 0).toNat:Nat):Int) (127:Int))∧(dI .and .u8 (((x1.getD n3 0).toNat:Nat):Int) (127:Int))≤18446744073709551615)<|
  chk (-9223372036854775808≤((7:Int) *(n3:Int))∧((7:Int) *(n3:Int))≤9223372036854775807)<|
  chk (((n3:Int)+(1:Int))≤9223372036854775807)<|
  (dX x1 K1 k) ((dI .or .u64 i2 (IntKind.wrap .u64 ((dI .and .u8 (((x1.getD n3 0).toNat:Nat):Int) (127:Int)) *2^(min (7 *n3) (IntKind.bits .u64))))),(n3+1))
  )else(
  (f192 (((x1.getD n3 0).toNat:Nat):Int)).bind fun(r4:Int)=>
  chk (-9223372036854775808≤((7:Int) *(n3:Int))∧((7:Int) *(n3:Int))≤9223372036854775807)<|
  chk (-9223372036854775808≤(r4+(((7 *n3):Nat):Int))∧(r4+(((7 *n3):Nat):Int))≤9223372036854775807)<|
  if(decide ((r4+(((7 *n3):Nat):Int))>(64:Int)))then(
  some ((0:Int),(0:Int),(7:Int))
  )else(
  if(((((x1.getD n3 0).toNat:Nat):Int)==(0:Int))&&(decide ((n3:Int)>(0:Int))))then(
  some ((0:Int),(0:Int),(2:Int))
  )else(
  chk ((((x1.getD n3 0).toNat:Nat):Int)≤18446744073709551615)<|
  chk (-9223372036854775808≤((7:Int) *(n3:Int))∧((7:Int) *(n3:Int))≤9223372036854775807)<|
  chk ((7 *n3)≤IntKind.bits .u64∧0≤((((x1.getD n3 0).toNat:Nat):Int) *2^(7 *n3))∧((((x1.getD n3 0).toNat:Nat):Int) *2^(7 *n3))≤18446744073709551615)<|
  chk (((n3:Int)+(1:Int))≤9223372036854775807)<|
  some ((dI .or .u64 i2 ((((x1.getD n3 0).toNat:Nat):Int) *2^(7 *n3))),(((n3+1):Nat):Int),(0:Int))
  )
  )
  )
  )else(
  K1 ()
  )
theorem aBa (x1:List UInt8) (K1:Unit→Option Tq6) (k:Nat) (i2:Int) (n3:Nat):dX x1 K1 (k+1) (i2,n3)=
  if(decide ((n3:Int)<(min ((x1.length:Nat):Int) (10:Int))))then(
  chk ((n3:Int)<((x1.length:Nat):Int))<|
  if(decide ((((x1.getD n3 0).toNat:Nat):Int)≥(128:Int)))then(
  chk (0≤(dI .and .u8 (((x1.getD n3 0).toNat:Nat):Int) (127:Int))∧(dI .and .u8 (((x1.getD n3 0).toNat:Nat):Int) (127:Int))≤18446744073709551615)<|
  chk (-9223372036854775808≤((7:Int) *(n3:Int))∧((7:Int) *(n3:Int))≤9223372036854775807)<|
  chk (((n3:Int)+(1:Int))≤9223372036854775807)<|
  (dX x1 K1 k) ((dI .or .u64 i2 (IntKind.wrap .u64 ((dI .and .u8 (((x1.getD n3 0).toNat:Nat):Int) (127:Int)) *2^(min (7 *n3) (IntKind.bits .u64))))),(n3+1))
  )else(
  (f192 (((x1.getD n3 0).toNat:Nat):Int)).bind fun(r4:Int)=>
  chk (-9223372036854775808≤((7:Int) *(n3:Int))∧((7:Int) *(n3:Int))≤9223372036854775807)<|
  chk (-9223372036854775808≤(r4+(((7 *n3):Nat):Int))∧(r4+(((7 *n3):Nat):Int))≤9223372036854775807)<|
  if(decide ((r4+(((7 *n3):Nat):Int))>(64:Int)))then(
  some ((0:Int),(0:Int),(7:Int))
  )else(
  if(((((x1.getD n3 0).toNat:Nat):Int)==(0:Int))&&(decide ((n3:Int)>(0:Int))))then(
  some ((0:Int),(0:Int),(2:Int))
  )else(
  chk ((((x1.getD n3 0).toNat:Nat):Int)≤18446744073709551615)<|
  chk (-9223372036854775808≤((7:Int) *(n3:Int))∧((7:Int) *(n3:Int))≤9223372036854775807)<|
  chk ((7 *n3)≤IntKind.bits .u64∧0≤((((x1.getD n3 0).toNat:Nat):Int) *2^(7 *n3))∧((((x1.getD n3 0).toNat:Nat):Int) *2^(7 *n3))≤18446744073709551615)<|
  chk (((n3:Int)+(1:Int))≤9223372036854775807)<|
  some ((dI .or .u64 i2 ((((x1.getD n3 0).toNat:Nat):Int) *2^(7 *n3))),(((n3+1):Nat):Int),(0:Int))
  )
  )
  )
  )else(
  K1 ()
  ):=rfl
abbrev f156z0 :List (Nat×V):=[(2,.int .u64 (0:Int)),(3,.int .i64 (0:Int)),(4,.int .i64 (7:Int))]
def f156 (x1:List UInt8):Option Tq6:=
 jn (fun(_:Unit)=>
 if(decide (((x1.length:Nat):Int)<(10:Int)))then(
 some ((0:Int),(0:Int),(9:Int))
 )else(
 some ((0:Int),(0:Int),(7:Int))
 )
 ) fun(K1:Unit→Option Tq6)=>
 dX x1 K1 bG ((0:Int),0)
theorem f156_ok (x1:List UInt8) (r:Tq6) (h:f156 x1=some r):aH Tryz.prog 156 [] [] [] [.str x1] (.tup [.int .u64 r.1,.int .i64 r.2.1,.int .i64 r.2.2]) []:=by
 unfold f156 at h;refine aH.body 0 _ _ Tryz.func156 rfl Tryz.ntmps156 rfl rfl ?_;refine bJ [25] [] [0] [] trivial ?_;refine aU [25] [] ⟨52,[(0,.str x1),(5,.int .u64 (0:Int))],[],[],0⟩ trivial ?_;obtain⟨K1,hK1,h⟩:=aS h;refine AWp.join (fun(x:Unit)=>match x with|()=>⟨52,[(0,.str x1)],[],[],0⟩) (fun x=>K1 x=some r) ?_ ?_
 ·
  refine aU [25] [] ⟨52,[(0,.str x1),(5,.int .u64 (0:Int)),(10,.i (min (lZ x1) (10:Int))),(11,.i (0:Int))],[],[],0⟩ trivial ?_;refine AWp.block ?_;refine AWp.loopL (α:=Nat×(Int×Nat)) (fun x=>match x with|(_,i2,n3)=>⟨52,[(0,.str x1),(5,.int .u64 i2),(10,.i (min (lZ x1) (10:Int))),(11,.i (n3:Int))],[],[],0⟩) (fun x=>dX x1 K1 x.1 x.2=some r) (fun x=>x.1) (bG,(0:Int),0) (LR (s':=⟨52,[(0,.str x1),(5,.int .u64 (0:Int)),(10,.i (min (lZ x1) (10:Int))),(11,.i (0:Int))],[],[],0⟩)) h ?_
  rintro⟨k0,i2,n3⟩ h
  cases k0 with
  |zero=>exact nomatch (show none=some r from h)
  |succ k0=>
  obtain⟨C0,hC0⟩:∃C,C=dX x1 K1 k0:=⟨_,rfl⟩;replace h:=(aBa ..).symm.trans h
  try rw[←hC0]at h
  refine aU [25] [] ⟨52,[(0,.str x1),(5,.int .u64 i2),(10,.i (min (lZ x1) (10:Int))),(11,.i (n3:Int)),(12,.bool (decide ((n3:Int)<(min (lZ x1) (10:Int)))))],[],[],0⟩ trivial ?_;refine AWp.seq ?_;refine AWp.cond (b:=(decide ((n3:Int)<(min (lZ x1) (10:Int))))) (by kernel_rfl) (fun hc1=> ?_) (fun hc1=> ?_)
  ·
   replace h:=aE hc1 h;refine AWp.skip (tN (AWp.seq (AWp.block ?_)));refine bJ [25] [] [0,5,6,10,11] [] trivial ?_;refine AWp.seq ?_;obtain⟨ob0p,h⟩:=aB h;have ob0:0≤(n3:Int)∧(n3:Int)<((x1.length:Nat):Int):=⟨by omega,ob0p⟩;refine cA [25] [] [0,5,6,7,10,11] [] (an1 ob0) ?_;refine tN (AWp.seq ?_);refine bJ [25] [] [0,5,6,7,10,11,18] [] trivial ?_;refine AWp.cond (b:=(decide ((((x1.getD n3 0).toNat:Nat):Int)≥(128:Int)))) (by kernel_rfl) (fun hc2=> ?_) (fun hc2=> ?_)
   ·
    replace h:=aE hc2 h;refine AWp.seq ?_;obtain⟨ob1,ob2,h⟩:=ck2 h;have ob3:0≤(((7 *n3):Nat):Int):=by omega
    refine aZ [25] [] ⟨52,[(0,.str x1),(5,.int .u64 (dI .or .u64 i2 (IntKind.wrap .u64 ((dI .and .u8 (((x1.getD n3 0).toNat:Nat):Int) (127:Int)) *2^(min (7 *n3) (IntKind.bits .u64)))))),(10,.i (min (lZ x1) (10:Int))),(11,.i (n3:Int))],[],[],0⟩ (an3 ob1 ob2 ob3) ?_;refine tN (AWp.exit (tE (kS (tN ?_))));obtain⟨ob4p,h⟩:=aB h;have ob4: -9223372036854775808≤((n3:Int)+(1:Int))∧((n3:Int)+(1:Int))≤9223372036854775807:=⟨by omega,ob4p⟩;refine aZ [25] [] ⟨52,[(0,.str x1),(5,.int .u64 (dI .or .u64 i2 (IntKind.wrap .u64 ((dI .and .u8 (((x1.getD n3 0).toNat:Nat):Int) (127:Int)) *2^(min (7 *n3) (IntKind.bits .u64)))))),(10,.i (min (lZ x1) (10:Int))),(11,.i (((n3+1):Nat):Int))],[],[],0⟩ (an1 ob4) ?_;rw[hC0]at h;exact lN (_,(dI .or .u64 i2 (IntKind.wrap .u64 ((dI .and .u8 (((x1.getD n3 0).toNat:Nat):Int) (127:Int)) *2^(min (7 *n3) (IntKind.bits .u64))))),(n3+1)) LR h (Nat.lt_succ_self _)
   ·
    replace h:=aF hc2 h;refine AWp.skip (tN (AWp.seq (AWp.seq ?_)));obtain⟨r4,hr4,h⟩:=bind_ok h;obtain⟨ob5,ob6,h⟩:=ck2 h;refine cA [25] [(1,⟨[.int .u8 (((x1.getD n3 0).toNat:Nat):Int)],[],[],[],.i r4,[],[],[]⟩)] [5,6,7,32] [] (an3 (cpT (f192_ok _ _ hr4)) ob5 ob6) ?_;refine tN ?_;refine AWp.cond (b:=(decide ((r4+(((7 *n3):Nat):Int))>(64:Int)))) (by kernel_rfl) (fun hc3=> ?_) (fun hc3=> ?_)
    ·
     replace h:=aE hc3 h;refine aU [25] [] ⟨52,(f156z0),[],[],0⟩ trivial ?_;have hret:=Option.some.inj h;subst hret;refine AWp.ret (tR (kR (tR (tR (kR (aY ?_))))));exact bR _ rfl ⟨rfl,rfl⟩ rfl
    ·
     replace h:=aF hc3 h;refine AWp.skip (tN (AWp.seq (AWp.seq ?_)));have ob7:=idA ((((((x1.getD n3 0).toNat:Nat):Int)==(0:Int))==true)=true);have ob8:=bqA ((((x1.getD n3 0).toNat:Nat):Int)==(0:Int)) true;refine cA [25] [] [5,6,7,38] [] (an2 (an1 ob7) ob8) ?_;refine tN ?_;refine AWp.cond (b:=(((((x1.getD n3 0).toNat:Nat):Int)==(0:Int))&&(decide ((n3:Int)>(0:Int))))) (by kernel_rfl) (fun hc4=> ?_) (fun hc4=> ?_)
     ·
      replace h:=aE hc4 h;refine aU [25] [] ⟨52,[(2,.int .u64 (0:Int)),(3,.i (0:Int)),(4,.i (2:Int))],[],[],0⟩ trivial ?_;have hret:=Option.some.inj h;subst hret;refine AWp.ret (tR (kR (tR (tR (kR (aY ?_))))));exact bR _ rfl ⟨rfl,rfl⟩ rfl
     ·
      replace h:=aF hc4 h;refine AWp.skip (tN (AWp.seq ?_));obtain⟨ob9p,h⟩:=aB h;have ob9:0≤(((x1.getD n3 0).toNat:Nat):Int)∧(((x1.getD n3 0).toNat:Nat):Int)≤18446744073709551615:=⟨by omega,ob9p⟩;obtain⟨ob10,ob11p,h⟩:=ck2 h;have ob11:0≤(((7 *n3):Nat):Int)∧(7 *n3)≤IntKind.bits .u64∧0≤((((x1.getD n3 0).toNat:Nat):Int) *2^(7 *n3))∧((((x1.getD n3 0).toNat:Nat):Int) *2^(7 *n3))≤18446744073709551615:=⟨by omega,ob11p.1,ob11p.2.1,ob11p.2.2⟩;obtain⟨ob12p,h⟩:=aB h;have ob12: -9223372036854775808≤((n3:Int)+(1:Int))∧((n3:Int)+(1:Int))≤9223372036854775807:=⟨by omega,ob12p⟩;refine aZ [25] [] ⟨52,[(2,.int .u64 (dI .or .u64 i2 ((((x1.getD n3 0).toNat:Nat):Int) *2^(7 *n3)))),(3,.i (((n3+1):Nat):Int)),(4,.i (0:Int))],[],[],0⟩ (an4 ob9 ob10 ob11 ob12) ?_;refine tN ?_;have hret:=Option.some.inj h;subst hret;refine AWp.ret (kR (tR (tR (kR (aY ?_)))));exact bR _ rfl ⟨rfl,rfl⟩ rfl
  ·
   replace h:=aF hc1 h;refine AWp.exit (tE (tE (kS ?_)));exact jN () LR h
 ·
  rintro⟨⟩ h;replace h:=(congrFun hK1 _).symm.trans h;refine AWp.seq ?_;refine bJ [25] [] [51] [] trivial ?_;refine AWp.cond (b:=(decide ((lZ x1)<(10:Int)))) (by kernel_rfl) (fun hc5=> ?_) (fun hc5=> ?_)
  ·
   replace h:=aE hc5 h;refine aU [25] [] ⟨52,[(2,.int .u64 (0:Int)),(3,.i (0:Int)),(4,.i (9:Int))],[],[],0⟩ trivial ?_;have hret:=Option.some.inj h;subst hret;refine AWp.ret (tR ?_);exact bR _ rfl ⟨rfl,rfl⟩ rfl
  ·
   replace h:=aF hc5 h;refine AWp.skip (tN ?_);refine aU [25] [] ⟨52,(f156z0),[],[],0⟩ trivial ?_;have hret:=Option.some.inj h;subst hret;refine AWp.ret ?_;exact bR _ rfl ⟨rfl,rfl⟩ rfl
def f126 (x1:List UInt8):Option (List UInt8×Int×Int):=
 (f156 x1).bind fun(r2:Tq6)=>
 if(r2.2.2 !=(0:Int))then(
 some ([],(0:Int),r2.2.2)
 )else(
 chk (-9223372036854775808≤(((x1.length:Nat):Int)-r2.2.1)∧(((x1.length:Nat):Int)-r2.2.1)≤9223372036854775807)<|
 chk (0≤(((x1.length:Nat):Int)-r2.2.1)∧(((x1.length:Nat):Int)-r2.2.1)≤18446744073709551615)<|
 if(decide (r2.1>(((x1.length:Nat):Int)-r2.2.1)))then(
 some ([],(0:Int),(9:Int))
 )else(
 chk (-9223372036854775808≤r2.1∧r2.1≤9223372036854775807)<|
 chk (-9223372036854775808≤(r2.2.1+r2.1)∧(r2.2.1+r2.1)≤9223372036854775807)<|
 chk (0≤r2.2.1∧r2.2.1≤(r2.2.1+r2.1)∧(r2.2.1+r2.1)≤((x1.length:Nat):Int))<|
 some (((x1.take (((r2.2.1+r2.1)).toNat)).drop ((r2.2.1).toNat)),(r2.2.1+r2.1),(0:Int))
 )
 )
theorem f126_ok (x1:List UInt8) (r:List UInt8×Int×Int) (h:f126 x1=some r):aH Tryz.prog 126 [] [] [] [.str x1] (.tup [.str r.1,.int .i64 r.2.1,.int .i64 r.2.2]) []:=by
 unfold f126 at h;refine aH.body 0 _ _ Tryz.func126 rfl Tryz.ntmps126 rfl rfl ?_;refine bJ [] [] [0] [] trivial ?_;refine AWp.seq ?_;obtain⟨r2,hr2,h⟩:=bind_ok h;refine cA [] [(1,⟨[.str x1],[],[],[],.tup [.int .u64 r2.1,.i r2.2.1,.i r2.2.2],[],[],[]⟩)] [0,5,6,7] [] (an1 (cpT (f156_ok _ _ hr2))) ?_;refine tN (AWp.seq ?_);refine bJ [] [] [0,5,6,7,16] [] trivial ?_;refine AWp.cond (b:=(r2.2.2 !=(0:Int))) (by kernel_rfl) (fun hc1=> ?_) (fun hc1=> ?_)
 ·
  replace h:=aE hc1 h;refine aU [] [] ⟨34,[(2,.str []),(3,.i (0:Int)),(4,.i r2.2.2)],[],[],0⟩ trivial ?_;have hret:=Option.some.inj h;subst hret;refine AWp.ret (tR ?_);exact bR _ rfl ⟨rfl,rfl⟩ rfl
 ·
  replace h:=aF hc1 h;refine AWp.skip (tN (AWp.seq (AWp.seq ?_)));obtain⟨ob0,ob1,h⟩:=ck2 h;refine cA [] [] [0,5,6,24] [] (an2 ob0 ob1) ?_;refine tN ?_;refine AWp.cond (b:=(decide (r2.1>((lZ x1)-r2.2.1)))) (by kernel_rfl) (fun hc2=> ?_) (fun hc2=> ?_)
  ·
   replace h:=aE hc2 h;refine aU [] [] ⟨34,[(2,.str []),(3,.i (0:Int)),(4,.i (9:Int))],[],[],0⟩ trivial ?_;have hret:=Option.some.inj h;subst hret;refine AWp.ret (tR ?_);exact bR _ rfl ⟨rfl,rfl⟩ rfl
  ·
   replace h:=aF hc2 h;refine AWp.skip (tN (AWp.seq ?_));obtain⟨ob2,ob3,h⟩:=ck2 h;refine cA [] [] [0,6,8] [] (an2 ob2 ob3) ?_;refine tN (AWp.seq ?_);obtain⟨ob4,h⟩:=aB h;refine aZ [] [] ⟨34,[(2,.str ((x1.take (((r2.2.1+r2.1)).toNat)).drop ((r2.2.1).toNat))),(3,.i (r2.2.1+r2.1)),(4,.i (0:Int))],[],[],0⟩ (an1 ob4) ?_;refine tN ?_;have hret:=Option.some.inj h;subst hret;refine AWp.ret ?_;exact bR _ rfl ⟨rfl,rfl⟩ rfl
def eH (x1:List UInt8) (r2:Tq6) (K1:(Int×List Ty0)→Option (Int×Int×List Ty0)):Nat→(Int×Nat×List Ty0)→Option (Int×Int×List Ty0)
 |0,_=>none
 |k+1,(i3,n4,l5)=>
  if(decide ((n4:Int)<r2.1))then(
  (f126 (x1.drop ((i3).toNat))).bind fun(r6:List UInt8×Int×Int)=>
  chk (0≤i3∧i3≤((x1.length:Nat):Int))<|
  if(r6.2.2 !=(0:Int))then(
  some ((0:Int),r6.2.2,[])
  )else(
  chk (((l5).length+1) *16≤140737488355328)<|
  chk (-9223372036854775808≤(i3+r6.2.1)∧(i3+r6.2.1)≤9223372036854775807)<|
  chk (((n4:Int)+(1:Int))≤18446744073709551615)<|
  (eH x1 r2 K1 k) ((i3+r6.2.1),(n4+1),(l5++[r6.1]))
  )
  )else(
  K1 (i3,l5)
  )
def f125 (x1:List UInt8):Option (Int×Int×List Ty0):=
 (f156 x1).bind fun(r2:Tq6)=>
 if(r2.2.2 !=(0:Int))then(
 some ((0:Int),r2.2.2,[])
 )else(
 jn (fun((i7,l8):Int×List Ty0)=>
 some (i7,(0:Int),l8)
 ) fun(K1:(Int×List Ty0)→Option (Int×Int×List Ty0))=>
 eH x1 r2 K1 bG (r2.2.1,0,[])
 )
theorem f125_ok (x1:List UInt8) (r:Int×Int×List Ty0) (h:f125 x1=some r):aH Tryz.prog 125 [] [] [] [.str x1,.fn (.func 126) []] (.tup [.own 3000,.int .i64 r.1,.int .i64 r.2.1]) [(3000,bL 9 1 eS [] r.2.2)]:=by
 unfold f125 at h;refine aH.body 0 _ _ Tryz.func125 rfl Tryz.ntmps125 rfl rfl ?_;refine bJ [] [] [0,1] [] trivial ?_;refine AWp.seq ?_;obtain⟨r2,hr2,h⟩:=bind_ok h;refine cA [] [(1,⟨[.str x1],[],[],[],.tup [.int .u64 r2.1,.i r2.2.1,.i r2.2.2],[],[],[]⟩)] [0,1,7,8,9] [] (an1 (cpT (f156_ok _ _ hr2))) ?_;refine tN (AWp.seq ?_);refine bJ [] [] [0,1,7,8,9,21] [] trivial ?_;refine AWp.cond (b:=(r2.2.2 !=(0:Int))) (by kernel_rfl) (fun hc1=> ?_) (fun hc1=> ?_)
 ·
  replace h:=aE hc1 h;refine aU [] [] ⟨48,[(4,.nils),(5,.i (0:Int)),(6,.i r2.2.2)],[],[],0⟩ trivial ?_;refine AWp.le (Le.trans (Le.nilOwn 4 3000 9 1 (cD eS [] []) rfl rfl (Nat.le_of_ble_eq_true rfl)) (LR (s':=⟨48,[(4,.own 3000),(5,.i (0:Int)),(6,.i r2.2.2)],[(3000,aG [])],[],0⟩))) ?_;have hret:=Option.some.inj h;subst hret;refine AWp.le (LR (s':=⟨48,[(4,.own 3000),(5,.i (0:Int)),(6,.i r2.2.2)],[(3000,aG [])],[],0⟩)) ?_;refine AWp.ret (tR ?_);exact bR _ rfl ⟨rfl,rfl⟩ rfl
 ·
  replace h:=aF hc1 h;refine AWp.skip (tN ?_);refine aU [] [] ⟨48,[(0,.str x1),(1,.fn (.func 126) []),(7,.int .u64 r2.1),(8,.i r2.2.1),(10,.nils)],[],[],0⟩ trivial ?_;obtain⟨K1,hK1,h⟩:=aS h;refine AWp.join (fun(x:Int×List Ty0)=>match x with|(i7,l8)=>⟨48,[(8,.i i7),(10,.own 5010)],[(5010,aG l8)],[],0⟩) (fun x=>K1 x=some r) ?_ ?_
  ·
   refine aU [] [] ⟨48,[(0,.str x1),(1,.fn (.func 126) []),(8,.i r2.2.1),(10,.nils),(23,.int .u64 r2.1),(24,.int .u64 (0:Int))],[],[],0⟩ trivial ?_;refine AWp.block ?_;refine AWp.loopL (α:=Nat×(Int×Nat×List Ty0)) (fun x=>match x with|(_,i3,n4,l5)=>⟨48,[(0,.str x1),(1,.fn (.func 126) []),(8,.i i3),(10,.own 5010),(23,.int .u64 r2.1),(24,.int .u64 (n4:Int))],[(5010,aG l5)],[],0⟩) (fun x=>eH x1 r2 K1 x.1 x.2=some r) (fun x=>x.1) (bG,r2.2.1,0,[]) (Le.trans (Le.trans (Le.nilOwn 10 5010 9 1 (cD eS [] []) rfl rfl (Nat.le_of_ble_eq_true rfl)) (LR (s':=⟨48,[(0,.str x1),(1,.fn (.func 126) []),(8,.i r2.2.1),(10,.own 5010),(23,.int .u64 r2.1),(24,.int .u64 (0:Int))],[(5010,aG [])],[],0⟩))) (LR (s':=⟨48,[(0,.str x1),(1,.fn (.func 126) []),(8,.i r2.2.1),(10,.own 5010),(23,.int .u64 r2.1),(24,.int .u64 (0:Int))],[(5010,aG [])],[],0⟩))) h ?_
   rintro⟨k0,i3,n4,l5⟩ h
   cases k0 with
   |zero=>exact nomatch (show none=some r from h)
   |succ k0=>
   obtain⟨C0,hC0⟩:∃C,C=eH x1 r2 K1 k0:=⟨_,rfl⟩;replace h:=(eH.eq_2 ..).symm.trans h
   try rw[←hC0]at h
   refine aU [] [] ⟨48,[(0,.str x1),(1,.fn (.func 126) []),(8,.i i3),(10,.own 5010),(23,.int .u64 r2.1),(24,.int .u64 (n4:Int)),(25,.bool (decide ((n4:Int)<r2.1)))],[(5010,aG l5)],[],0⟩ trivial ?_;refine AWp.seq ?_;refine AWp.cond (b:=(decide ((n4:Int)<r2.1))) (by kernel_rfl) (fun hc2=> ?_) (fun hc2=> ?_)
   ·
    replace h:=aE hc2 h;refine AWp.skip (tN (AWp.seq (AWp.block (AWp.seq ?_))));obtain⟨r6,hr6,h⟩:=bind_ok h;obtain⟨ob0,h⟩:=aB h;refine cA [] [(4,⟨[.str (x1.drop ((i3).toNat))],[],[],[],.tup [.str r6.1,.i r6.2.1,.i r6.2.2],[],[],[]⟩)] [0,1,8,10,11,12,13,23,24] [5010] (an2 ob0 (cpT (f126_ok _ _ hr6))) ?_;refine tN (AWp.seq ?_);refine bJ [] [] [0,1,8,10,11,12,13,23,24,36] [5010] trivial ?_;refine AWp.cond (b:=(r6.2.2 !=(0:Int))) (by kernel_rfl) (fun hc3=> ?_) (fun hc3=> ?_)
    ·
     replace h:=aE hc3 h;refine aU [] [] ⟨48,[(4,.nils),(5,.i (0:Int)),(6,.i r6.2.2)],[],[],0⟩ trivial ?_;refine AWp.le (Le.trans (Le.nilOwn 4 3000 9 1 (cD eS [] []) rfl rfl (Nat.le_of_ble_eq_true rfl)) (LR (s':=⟨48,[(4,.own 3000),(5,.i (0:Int)),(6,.i r6.2.2)],[(3000,aG [])],[],0⟩))) ?_;have hret:=Option.some.inj h;subst hret;refine AWp.le (LR (s':=⟨48,[(4,.own 3000),(5,.i (0:Int)),(6,.i r6.2.2)],[(3000,aG [])],[],0⟩)) ?_;refine AWp.ret (tR (kR (tR (tR (kR (aY ?_))))));exact bR _ rfl ⟨rfl,rfl⟩ rfl
    ·
     replace h:=aF hc3 h;refine AWp.skip (tN (AWp.seq ?_));obtain⟨ob1,h⟩:=aB h;refine aZ [] [] ⟨48,[(0,.str x1),(1,.fn (.func 126) []),(8,.i i3),(10,.own 5010),(12,.i r6.2.1),(23,.int .u64 r2.1),(24,.int .u64 (n4:Int))],[(5010,.rows 9 1 ((l5).length+1) (gF (l5).length (cD eS [] l5) (dH 1 [.str r6.1])))],[],0⟩ (an1 ob1) ?_;refine tN ?_;refine AWp.le (Le.mk (s':=⟨48,[(0,.str x1),(1,.fn (.func 126) []),(8,.i i3),(10,.own 5010),(12,.i r6.2.1),(23,.int .u64 r2.1),(24,.int .u64 (n4:Int))],[(5010,aG (l5++[r6.1]))],[],0⟩) rfl rfl ⟨.refl _,.refl _,.refl _,.refl _,.refl _,.refl _,.refl _,trivial⟩ ⟨⟨_,rfl,(BLe.of (RL.app (RL.self _) (RL.lst (enc:=eS) [r6.1] rfl rfl (fun _=>rfl))))⟩,trivial⟩) ?_;obtain⟨ob2,h⟩:=aB h;refine aZ [] [] ⟨48,[(0,.str x1),(1,.fn (.func 126) []),(8,.i (i3+r6.2.1)),(10,.own 5010),(23,.int .u64 r2.1),(24,.int .u64 (n4:Int))],[(5010,aG (l5++[r6.1]))],[],0⟩ (an1 ob2) ?_;refine kN (tN ?_);obtain⟨ob3p,h⟩:=aB h;have ob3:0≤((n4:Int)+(1:Int))∧((n4:Int)+(1:Int))≤18446744073709551615:=⟨by omega,ob3p⟩;refine aZ [] [] ⟨48,[(0,.str x1),(1,.fn (.func 126) []),(8,.i (i3+r6.2.1)),(10,.own 5010),(23,.int .u64 r2.1),(24,.int .u64 (((n4+1):Nat):Int))],[(5010,aG (l5++[r6.1]))],[],0⟩ (an1 ob3) ?_;rw[hC0]at h;exact lN (_,(i3+r6.2.1),(n4+1),(l5++[r6.1])) LR h (Nat.lt_succ_self _)
   ·
    replace h:=aF hc2 h;refine AWp.exit (tE (tE (kS ?_)));exact jN (i3,l5) LR h
  ·
   rintro⟨i7,l8⟩ h;replace h:=(congrFun hK1 _).symm.trans h;refine aU [] [] ⟨48,[(4,.own 5010),(5,.i i7),(6,.i (0:Int))],[(5010,aG l8)],[],0⟩ trivial ?_;refine AWp.le (Le.trans (Le.ren (bA 5010 3000) (aD 5010 3000) rfl) (LR (s':=⟨48,[(4,.own 3000),(5,.i i7),(6,.i (0:Int))],[(3000,aG l8)],[],0⟩))) ?_;have hret:=Option.some.inj h;subst hret;refine AWp.le (LR (s':=⟨48,[(4,.own 3000),(5,.i i7),(6,.i (0:Int))],[(3000,aG l8)],[],0⟩)) ?_;refine AWp.ret ?_;exact bR _ rfl ⟨rfl,rfl⟩ rfl
def f96 (x1:List UInt8):Option (Int×Int×List Ty0):=
 (f125 x1).bind fun(r2:Int×Int×List Ty0)=>
 some (r2.1,r2.2.1,r2.2.2)
theorem f96_ok (x1:List UInt8) (r:Int×Int×List Ty0) (h:f96 x1=some r):aH Tryz.prog 96 [] [] [] [.str x1] (.tup [.own 3000,.int .i64 r.1,.int .i64 r.2.1]) [(3000,bL 9 1 eS [] r.2.2)]:=by
 unfold f96 at h;refine aH.body 0 _ _ Tryz.func96 rfl Tryz.ntmps96 rfl rfl ?_;refine bJ [] [] [0] [] trivial ?_;refine AWp.seq ?_;obtain⟨r2,hr2,h⟩:=bind_ok h;refine aZ [] [(1,⟨[.str x1,.fn (.func 126) []],[],[],[(6001,aG r2.2.2)],.tup [.own 6001,.i r2.1,.i r2.2.1],[6001],[],[]⟩)] ⟨10,[(2,.own 6001),(3,.i r2.1),(4,.i r2.2.1)],[(6001,aG r2.2.2)],[],0⟩ (an1 (cpT (aH.ren (bA 3000 6001) (aD 3000 6001) rfl (f125_ok _ _ hr2)))) ?_;refine tN ?_;refine AWp.le (Le.trans (Le.ren (bA 6001 3000) (aD 6001 3000) rfl) (LR (s':=⟨10,[(2,.own 3000),(3,.i r2.1),(4,.i r2.2.1)],[(3000,aG r2.2.2)],[],0⟩))) ?_;have hret:=Option.some.inj h;subst hret;refine AWp.le (LR (s':=⟨10,[(2,.own 3000),(3,.i r2.1),(4,.i r2.2.1)],[(3000,aG r2.2.2)],[],0⟩)) ?_;refine AWp.ret ?_;exact bR _ rfl ⟨rfl,rfl⟩ rfl
def f97 (x1:List UInt8):Option Tq4:=yF x1
theorem f97_ok (x1:List UInt8) (r:Tq4) (h:f97 x1=some r):aH Tryz.prog 97 [(2,bF),(3,bF)] [] [] [.str x1] (.tup [.int .i64 r.1,.ifc r.2]) []:=
 atoi_spec Tryz.lays172 rfl rfl rfl x1 r h
def f197 (x1 x2:Int) (x3:List UInt8) (x4 x5:Int) (x6:List UInt8):Option Bool:=
 some ((x1==x4)&&(x2==x5))
theorem f197_ok (x1 x2:Int) (x3:List UInt8) (x4 x5:Int) (x6:List UInt8) (r:Bool) (h:f197 x1 x2 x3 x4 x5 x6=some r):aH Tryz.prog 197 [] [] [] [.agg [.int .i64 x1,.int .i64 x2,.str x3],.agg [.int .i64 x4,.int .i64 x5,.str x6]] (.bool r) []:=by
 unfold f197 at h;refine aH.body 0 _ _ Tryz.func197 rfl Tryz.ntmps197 rfl rfl ?_;refine bJ [] [] [2,3] [2,3] trivial ?_;refine AWp.seq ?_;have ob0:=idA (((x1==x4)==true)=true);have ob1:=idA (((x1==x4)==true)=true);have ob2:=idA (((x1==x4)==true)=true);have ob3:=idA (((x1==x4)==true)=true);have ob4:=bqA (x1==x4) true;refine aZ [] [] ⟨17,[(4,.bool ((x1==x4)&&(x2==x5)))],[],[],0⟩ (an4 (an1 ob0) (an1 ob1) (an2 ob2 ob3) ob4) ?_;refine tN ?_;have hret:=Option.some.inj h;subst hret;refine AWp.ret ?_;exact bR _ rfl ⟨rfl,rfl⟩ rfl
def f196 (x1 x2:Int) (x3:List UInt8) (x4 x5:Int) (x6:List UInt8):Option (Bool×Int×Int×List UInt8):=
 (f197 x1 x2 x3 x4 x5 x6).bind fun(r7:Bool)=>
 some (r7,x4,x5,x6)
theorem f196_ok (x1 x2:Int) (x3:List UInt8) (x4 x5:Int) (x6:List UInt8) (r:Bool×Int×Int×List UInt8) (h:f196 x1 x2 x3 x4 x5 x6=some r):aH Tryz.prog 196 [] [2000] [(2000,.cells 88 [.int .i64 x4,.int .i64 x5,.str x6])] [.agg [.int .i64 x1,.int .i64 x2,.str x3],.ptr 2000 0] (.bool r.1) [(2000,.cells 88 [.int .i64 r.2.1,.int .i64 r.2.2.1,.str r.2.2.2])]:=by
 unfold f196 at h;refine aH.body 0 _ _ Tryz.func196 rfl Tryz.ntmps196 rfl rfl ?_;refine bJ [] [] [1,2] [2,2000] trivial ?_;refine AWp.seq ?_;obtain⟨r7,hr7,h⟩:=bind_ok h;refine aZ [] [(2,⟨[.agg [.i x1,.i x2,.str x3],.agg [.i x4,.i x5,.str x6]],[],[],[],.bool r7,[],[],[]⟩)] ⟨7,[(3,.bool r7)],[(2000,.cells 88 [.i x4,.i x5,.str x6])],[2000],0⟩ (an1 (cpT (f197_ok _ _ _ _ _ _ _ hr7))) ?_;refine tN ?_;have hret:=Option.some.inj h;subst hret;refine AWp.ret ?_;exact bR _ rfl ⟨rfl,rfl⟩ rfl
def fJ (x1:List Tq0) (K1:Tq0→Option (Int×Int×Int×List UInt8)):Nat→(Nat×Int×Int×List UInt8)→Option (Int×Int×Int×List UInt8)
 |0,_=>none
 |k+1,(n5,i6,i7,s8)=>
  if(decide ((n5:Int)<(((x1).length:Nat):Int)))then(
  (f196 ((x1.getD n5 (default:Tq0)).1) ((x1.getD n5 (default:Tq0)).2.1) ((x1.getD n5 (default:Tq0)).2.2) i6 i7 s8).bind fun(r9:Bool×Int×Int×List UInt8)=>
  chk ((n5:Int)<(((x1).length:Nat):Int))<|
  if r9.1 then(
  some ((n5:Int),r9.2.1,r9.2.2.1,r9.2.2.2)
  )else(
  chk (((n5:Int)+(1:Int))≤9223372036854775807)<|
  (fJ x1 K1 k) ((n5+1),r9.2.1,r9.2.2.1,r9.2.2.2)
  )
  )else(
  K1 (i6,i7,s8)
  )
abbrev aAu (r9:Bool×Int×Int×List UInt8):aK:=[(2000,.cells 88 [.int .i64 r9.2.1,.int .i64 r9.2.2.1,.str r9.2.2.2])]
def f100 (x1:List Tq0) (x2 x3:Int) (x4:List UInt8):Option (Int×Int×Int×List UInt8):=
 jn (fun((i10,i11,s12):Tq0)=>
 some ((-1:Int),i10,i11,s12)
 ) fun(K1:Tq0→Option (Int×Int×Int×List UInt8))=>
 fJ x1 K1 bG (0,x2,x3,x4)
theorem f100_ok (x1:List Tq0) (x2 x3:Int) (x4:List UInt8) (r:Int×Int×Int×List UInt8) (h:f100 x1 x2 x3 x4=some r):aH Tryz.prog 100 [] [2000] [(2000,.cells 88 [.int .i64 x2,.int .i64 x3,.str x4])] [vL 3 bW (default:Tq0) x1,.fn (.func 196) [.ptr 2000 0]] (.int .i64 r.1) [(2000,.cells 88 [.int .i64 r.2.1,.int .i64 r.2.2.1,.str r.2.2.2])]:=by
 unfold f100 at h;refine aH.body 0 _ _ Tryz.func100 rfl Tryz.ntmps100 rfl rfl ?_;refine aU [] [] ⟨19,[(0,aT x1),(1,.fn (.func 196) [.ptr 2000 0])],[(2000,.cells 88 [.i x2,.i x3,.str x4])],[2000],0⟩ trivial ?_;obtain⟨K1,hK1,h⟩:=aS h;refine AWp.join (fun(x:Tq0)=>match x with|(i10,i11,s12)=>⟨19,[],[(2000,.cells 88 [.i i10,.i i11,.str s12])],[2000],0⟩) (fun x=>K1 x=some r) ?_ ?_
 ·
  refine aU [] [] ⟨19,[(0,aT x1),(1,.fn (.func 196) [.ptr 2000 0]),(7,.i (lZ x1)),(8,.i (0:Int))],[(2000,.cells 88 [.i x2,.i x3,.str x4])],[2000],0⟩ trivial ?_;refine AWp.block ?_;refine AWp.loopL (α:=Nat×(Nat×Int×Int×List UInt8)) (fun x=>match x with|(_,n5,i6,i7,s8)=>⟨19,[(0,aT x1),(1,.fn (.func 196) [.ptr 2000 0]),(7,.i (lZ x1)),(8,.i (n5:Int))],[(2000,.cells 88 [.i i6,.i i7,.str s8])],[2000],0⟩) (fun x=>fJ x1 K1 x.1 x.2=some r) (fun x=>x.1) (bG,0,x2,x3,x4) (LR (s':=⟨19,[(0,aT x1),(1,.fn (.func 196) [.ptr 2000 0]),(7,.i (lZ x1)),(8,.i (0:Int))],[(2000,.cells 88 [.i x2,.i x3,.str x4])],[2000],0⟩)) h ?_
  rintro⟨k0,n5,i6,i7,s8⟩ h
  cases k0 with
  |zero=>exact nomatch (show none=some r from h)
  |succ k0=>
  obtain⟨C0,hC0⟩:∃C,C=fJ x1 K1 k0:=⟨_,rfl⟩;replace h:=(fJ.eq_2 ..).symm.trans h
  try rw[←hC0]at h
  refine aU [] [] ⟨19,[(0,aT x1),(1,.fn (.func 196) [.ptr 2000 0]),(7,.i (lZ x1)),(8,.i (n5:Int)),(9,.bool (decide ((n5:Int)<(lZ x1))))],[(2000,.cells 88 [.i i6,.i i7,.str s8])],[2000],0⟩ trivial ?_;refine AWp.seq ?_;refine AWp.cond (b:=(decide ((n5:Int)<(lZ x1)))) (by kernel_rfl) (fun hc1=> ?_) (fun hc1=> ?_)
  ·
   replace h:=aE hc1 h;refine AWp.skip (tN (AWp.seq (AWp.block ?_)));refine bJ [] [] [0,1,5,7,8] [2000] trivial ?_;refine AWp.seq ?_;obtain⟨r9,hr9,h⟩:=bind_ok h;obtain⟨ob0p,h⟩:=aB h;have ob0:0≤(n5:Int)∧(n5:Int)<(((x1).length:Nat):Int):=⟨by omega,ob0p⟩;refine aZ [] [(5,⟨[.agg [.i (x1.getD n5 bB).1,.i (x1.getD n5 bB).2.1,.str (x1.getD n5 bB).2.2],.ptr 2000 0],[2000],[2000],(aAu r9),.bool r9.1,[],[],[]⟩)] ⟨19,[(0,aT x1),(1,.fn (.func 196) [.ptr 2000 0]),(5,.i (n5:Int)),(7,.i (lZ x1)),(8,.i (n5:Int)),(16,.bool r9.1)],(aAu r9),[2000],0⟩ (an2 ob0 (cpT (f196_ok _ _ _ _ _ _ _ hr9))) ?_;refine tN ?_;refine AWp.cond (b:=r9.1) (by kernel_rfl) (fun hc2=> ?_) (fun hc2=> ?_)
   ·
    replace h:=aE hc2 h;refine aU [] [] ⟨19,[(4,.i (n5:Int))],(aAu r9),[2000],0⟩ trivial ?_;have hret:=Option.some.inj h;subst hret;refine AWp.ret (kR (tR (tR (kR (aY ?_)))));exact bR _ rfl ⟨rfl,rfl⟩ rfl
   ·
    replace h:=aF hc2 h;refine AWp.skip (kN (tN ?_));obtain⟨ob1p,h⟩:=aB h;have ob1: -9223372036854775808≤((n5:Int)+(1:Int))∧((n5:Int)+(1:Int))≤9223372036854775807:=⟨by omega,ob1p⟩;refine aZ [] [] ⟨19,[(0,aT x1),(1,.fn (.func 196) [.ptr 2000 0]),(7,.i (lZ x1)),(8,.i (((n5+1):Nat):Int))],(aAu r9),[2000],0⟩ (an1 ob1) ?_;rw[hC0]at h;exact lN (_,(n5+1),r9.2.1,r9.2.2.1,r9.2.2.2) LR h (Nat.lt_succ_self _)
  ·
   replace h:=aF hc1 h;refine AWp.exit (tE (tE (kS ?_)));exact jN (i6,i7,s8) LR h
 ·
  rintro⟨i10,i11,s12⟩ h;replace h:=(congrFun hK1 _).symm.trans h;refine aU [] [] ⟨19,[(4,.i (-1:Int))],[(2000,.cells 88 [.i i10,.i i11,.str s12])],[2000],0⟩ trivial ?_;have hret:=Option.some.inj h;subst hret;refine AWp.ret ?_;exact bR _ rfl ⟨rfl,rfl⟩ rfl
abbrev f69z0 (r5:Int×Int×Int×List UInt8):aK:=[(2000,.cells 88 [.int .i64 r5.2.1,.int .i64 r5.2.2.1,.str r5.2.2.2])]
def f69 (x1:List Tq0) (x2 x3:Int) (x4:List UInt8):Option (Bool×Int×Int×List UInt8):=
 (f100 x1 x2 x3 x4).bind fun(r5:Int×Int×Int×List UInt8)=>
 some ((decide (r5.1≥(0:Int))),r5.2.1,r5.2.2.1,r5.2.2.2)
theorem f69_ok (x1:List Tq0) (x2 x3:Int) (x4:List UInt8) (r:Bool×Int×Int×List UInt8) (h:f69 x1 x2 x3 x4=some r):aH Tryz.prog 69 [] [2000] [(2000,.cells 88 [.int .i64 x2,.int .i64 x3,.str x4])] [vL 3 bW (default:Tq0) x1,.fn (.func 196) [.ptr 2000 0]] (.bool r.1) [(2000,.cells 88 [.int .i64 r.2.1,.int .i64 r.2.2.1,.str r.2.2.2])]:=by
 unfold f69 at h;refine aH.body 0 _ _ Tryz.func69 rfl Tryz.ntmps69 rfl rfl ?_;refine bJ [] [] [0,1] [2000] trivial ?_;refine AWp.seq ?_;obtain⟨r5,hr5,h⟩:=bind_ok h;refine aZ [] [(2,⟨[aT x1,.fn (.func 196) [.ptr 2000 0]],[2000],[2000],(f69z0 r5),.i r5.1,[],[],[]⟩)] ⟨9,[(4,.bool (decide (r5.1≥(0:Int))))],(f69z0 r5),[2000],0⟩ (an1 (cpT (f100_ok _ _ _ _ _ hr5))) ?_;refine tN ?_;have hret:=Option.some.inj h;subst hret;refine AWp.ret ?_;exact bR _ rfl ⟨rfl,rfl⟩ rfl
def f162 (x1:List Tq0) (x2 x3:Int) (x4:List UInt8):Option Bool:=
 (f69 x1 x2 x3 x4).bind fun(r5:Bool×Int×Int×List UInt8)=>
 some r5.1
theorem f162_ok (x1:List Tq0) (x2 x3:Int) (x4:List UInt8) (r:Bool) (h:f162 x1 x2 x3 x4=some r):aH Tryz.prog 162 [] [] [] [vL 3 bW (default:Tq0) x1,.agg [.int .i64 x2,.int .i64 x3,.str x4]] (.bool r) []:=by
 unfold f162 at h;refine aH.body 0 _ _ Tryz.func162 rfl Tryz.ntmps162 rfl rfl ?_;refine bJ [] [] [0,3] [3] trivial ?_;refine AWp.seq ?_;obtain⟨r5,hr5,h⟩:=bind_ok h;refine aZ [] [(2,⟨[aT x1,.fn (.func 196) [.ptr 3 0]],[3],[3],[(3,.cells 88 [.i r5.2.1,.i r5.2.2.1,.str r5.2.2.2])],.bool r5.1,[],[],[]⟩)] ⟨8,[(4,.bool r5.1)],[],[],0⟩ (an1 (cpT (aH.ren (bA 2000 3) (aD 2000 3) rfl (f69_ok _ _ _ _ _ hr5)))) ?_;refine tN ?_;have hret:=Option.some.inj h;subst hret;refine AWp.ret ?_;exact bR _ rfl ⟨rfl,rfl⟩ rfl
def gN (x1:List Tq0) (K1:Unit→Option Int):Nat→Nat→Option Int
 |0,_=>none
 |k+1,n2=>
  if(decide ((n2:Int)<(((x1).length:Nat):Int)))then(
  chk ((n2:Int)<(((x1).length:Nat):Int))<|
  if((((decide ((x1.getD n2 (default:Tq0)).1<(0:Int)))||(decide ((x1.getD n2 (default:Tq0)).1≥(6:Int))))||(decide ((x1.getD n2 (default:Tq0)).2.1<(1:Int))))||(decide ((x1.getD n2 (default:Tq0)).2.1>(1000000:Int))))then(
  some (7:Int)
  )else(
  if(((x1.getD n2 (default:Tq0)).2.2)==[])then(
  some (9:Int)
  )else(
  if(decide (((((x1.getD n2 (default:Tq0)).2.2).length:Nat):Int)>(200:Int)))then(
  some (3:Int)
  )else(
  (f162 (x1.take n2) ((x1.getD n2 (default:Tq0)).1) ((x1.getD n2 (default:Tq0)).2.1) ((x1.getD n2 (default:Tq0)).2.2)).bind fun(r3:Bool)=>
  chk ((n2:Int)≤(((x1).length:Nat):Int))<|
  if r3 then(
  some (5:Int)
  )else(
  chk (((n2:Int)+(1:Int))≤9223372036854775807)<|
  (gN x1 K1 k) (n2+1)
  )
  )
  )
  )
  )else(
  K1 ()
  )
theorem aBc (x1:List Tq0) (K1:Unit→Option Int) (k n2:Nat):gN x1 K1 (k+1) n2=
  if(decide ((n2:Int)<(((x1).length:Nat):Int)))then(
  chk ((n2:Int)<(((x1).length:Nat):Int))<|
  if((((decide ((x1.getD n2 (default:Tq0)).1<(0:Int)))||(decide ((x1.getD n2 (default:Tq0)).1≥(6:Int))))||(decide ((x1.getD n2 (default:Tq0)).2.1<(1:Int))))||(decide ((x1.getD n2 (default:Tq0)).2.1>(1000000:Int))))then(
  some (7:Int)
  )else(
  if(((x1.getD n2 (default:Tq0)).2.2)==[])then(
  some (9:Int)
  )else(
  if(decide (((((x1.getD n2 (default:Tq0)).2.2).length:Nat):Int)>(200:Int)))then(
  some (3:Int)
  )else(
  (f162 (x1.take n2) ((x1.getD n2 (default:Tq0)).1) ((x1.getD n2 (default:Tq0)).2.1) ((x1.getD n2 (default:Tq0)).2.2)).bind fun(r3:Bool)=>
  chk ((n2:Int)≤(((x1).length:Nat):Int))<|
  if r3 then(
  some (5:Int)
  )else(
  chk (((n2:Int)+(1:Int))≤9223372036854775807)<|
  (gN x1 K1 k) (n2+1)
  )
  )
  )
  )
  )else(
  K1 ()
  ):=rfl
abbrev iQ (x1:List Tq0) (n2:Nat):=(x1.getD n2 (default:Tq0))
abbrev aAl (x1:List Tq0) (n2:Nat):=((decide ((iQ x1 n2).1<(0:Int)))||(decide ((iQ x1 n2).1≥(6:Int))))
abbrev f129z2 (x1:List Tq0) (n2:Nat):List V:=[.int .i64 (iQ x1 n2).1,.int .i64 (iQ x1 n2).2.1,.str (iQ x1 n2).2.2]
abbrev aAk (x1:List Tq0) (n2:Nat):=((aAl x1 n2)||(decide ((iQ x1 n2).2.1<(1:Int))))
abbrev f129z4 (x1:List Tq0) (n2:Nat):=((decide ((iQ x1 n2).1<(0:Int)))==false)
def f129 (x1:List Tq0):Option Int:=
 jn (fun(_:Unit)=>
 some (0:Int)
 ) fun(K1:Unit→Option Int)=>
 gN x1 K1 bG 0
theorem f129_ok (x1:List Tq0) (r:Int) (h:f129 x1=some r):aH Tryz.prog 129 [] [] [] [vL 3 bW (default:Tq0) x1] (.int .i64 r) []:=by
 unfold f129 at h;refine aH.body 0 _ _ Tryz.func129 rfl Tryz.ntmps129 rfl rfl ?_;refine aU [] [] ⟨47,[(0,aT x1)],[],[],0⟩ trivial ?_;obtain⟨K1,hK1,h⟩:=aS h;refine AWp.join (fun(x:Unit)=>match x with|()=>⟨47,[],[],[],0⟩) (fun x=>K1 x=some r) ?_ ?_
 ·
  refine aU [] [] ⟨47,[(0,aT x1),(5,aT x1),(6,.i (lZ x1)),(7,.i (0:Int))],[],[],0⟩ trivial ?_;refine AWp.block ?_;refine AWp.loopL (α:=Nat×Nat) (fun x=>match x with|(_,n2)=>⟨47,[(0,aT x1),(5,aT x1),(6,.i (lZ x1)),(7,.i (n2:Int))],[],[],0⟩) (fun x=>gN x1 K1 x.1 x.2=some r) (fun x=>x.1) (bG,0) (LR (s':=⟨47,[(0,aT x1),(5,aT x1),(6,.i (lZ x1)),(7,.i (0:Int))],[],[],0⟩)) h ?_
  rintro⟨k0,n2⟩ h
  cases k0 with
  |zero=>exact nomatch (show none=some r from h)
  |succ k0=>
  obtain⟨C0,hC0⟩:∃C,C=gN x1 K1 k0:=⟨_,rfl⟩;replace h:=(aBc ..).symm.trans h
  try rw[←hC0]at h
  refine aU [] [] ⟨47,[(0,aT x1),(5,aT x1),(6,.i (lZ x1)),(7,.i (n2:Int)),(8,.bool (decide ((n2:Int)<(lZ x1))))],[],[],0⟩ trivial ?_;refine AWp.seq ?_;refine AWp.cond (b:=(decide ((n2:Int)<(lZ x1)))) (by kernel_rfl) (fun hc1=> ?_) (fun hc1=> ?_)
  ·
   replace h:=aE hc1 h;refine AWp.skip (tN (AWp.seq (AWp.block (AWp.seq ?_))));obtain⟨ob0p,h⟩:=aB h;have ob0:0≤(n2:Int)∧(n2:Int)<(((x1).length:Nat):Int):=⟨by omega,ob0p⟩;refine cA [] [] [0,3,4,5,6,7] [4] (an2 ob0 trivial) ?_;refine tN (AWp.block (AWp.seq ?_));have ob1:=idA ((f129z4 x1 n2)=true);have ob2:=idA ((f129z4 x1 n2)=true);have ob3:true=true→(decide ((iQ x1 n2).1<(0:Int)))=false→(f129z4 x1 n2)=true:=fun _ h=>beq_iff_eq.2 h;have ob4:=idA (((aAl x1 n2)==false)=true);have ob5:=idA (((aAl x1 n2)==false)=true);have ob6:=bqA (aAl x1 n2) false;have ob7:=idA (((aAk x1 n2)==false)=true);have ob8:=idA (((aAk x1 n2)==false)=true);have ob9:=bqA (aAk x1 n2) false;refine cA [] [] [0,3,4,5,6,7,12] [4] (ac6 (an1 ob1) (an1 ob2) ob3 (an1 ob4) (an1 ob5) ob6 (an3 (an1 ob7) (an1 ob8) ob9)) ?_;refine tN ?_;refine AWp.cond (b:=((aAk x1 n2)||(decide ((iQ x1 n2).2.1>(1000000:Int))))) (by kernel_rfl) (fun hc2=> ?_) (fun hc2=> ?_)
   ·
    replace h:=aE hc2 h;refine aU [] [] ⟨47,[(2,.i (7:Int))],[],[],0⟩ trivial ?_;have hret:=Option.some.inj h;subst hret;refine AWp.ret (kR (kR (tR (tR (kR (aY ?_))))));exact bR _ rfl ⟨rfl,rfl⟩ rfl
   ·
    replace h:=aF hc2 h;refine bJ [] [] [0,3,4,5,6,7,31] [4] trivial ?_;refine AWp.cond (b:=(((iQ x1 n2).2.2)==[])) (by kernel_rfl) (fun hc3=> ?_) (fun hc3=> ?_)
    ·
     replace h:=aE hc3 h;refine aU [] [] ⟨47,[(2,.i (9:Int))],[],[],0⟩ trivial ?_;have hret:=Option.some.inj h;subst hret;refine AWp.ret (kR (kR (tR (tR (kR (aY ?_))))));exact bR _ rfl ⟨rfl,rfl⟩ rfl
    ·
     replace h:=aF hc3 h;refine bJ [] [] [0,3,4,5,6,7,35] [4] trivial ?_;refine AWp.cond (b:=(decide (((((iQ x1 n2).2.2).length:Nat):Int)>(200:Int)))) (by kernel_rfl) (fun hc4=> ?_) (fun hc4=> ?_)
     ·
      replace h:=aE hc4 h;refine aU [] [] ⟨47,[(2,.i (3:Int))],[],[],0⟩ trivial ?_;have hret:=Option.some.inj h;subst hret;refine AWp.ret (kR (kR (tR (tR (kR (aY ?_))))));exact bR _ rfl ⟨rfl,rfl⟩ rfl
     ·
      replace h:=aF hc4 h;refine AWp.seq ?_;obtain⟨r3,hr3,h⟩:=bind_ok h;obtain⟨ob10p,h⟩:=aB h;have ob10:0≤(n2:Int)∧(n2:Int)≤(((x1).length:Nat):Int):=⟨by omega,ob10p⟩;refine aZ [] [(4,⟨[aT (x1.take n2),.agg (f129z2 x1 n2)],[],[],[],.bool r3,[],[],[]⟩)] ⟨47,[(0,aT x1),(5,aT x1),(6,.i (lZ x1)),(7,.i (n2:Int)),(40,.bool r3)],[],[],0⟩ (an2 ob10 (cpL (c:=true) [] [] [.arr 3 n2 (cD bW bB x1),.agg (f129z2 x1 n2)] (fun _=>(f162_ok _ _ _ _ _ hr3)) (fun _=>⟨(VLe.takeL (by first|omega|(simp only[List.length_append,List.length_cons,List.length_nil,List.length_take,List.length_drop]at *;omega)|(simp;done)|(simp_all;done)|(simp_all;omega)|rfl)),.refl _,trivial⟩) (.inl rfl))) ?_;refine tN ?_;refine AWp.cond (b:=r3) (by kernel_rfl) (fun hc5=> ?_) (fun hc5=> ?_)
      ·
       replace h:=aE hc5 h;refine aU [] [] ⟨47,[(2,.i (5:Int))],[],[],0⟩ trivial ?_;have hret:=Option.some.inj h;subst hret;refine AWp.ret (kR (kR (tR (tR (kR (aY ?_))))));exact bR _ rfl ⟨rfl,rfl⟩ rfl
      ·
       replace h:=aF hc5 h;refine AWp.skip (kN (kN (tN ?_)));obtain⟨ob11p,h⟩:=aB h;have ob11: -9223372036854775808≤((n2:Int)+(1:Int))∧((n2:Int)+(1:Int))≤9223372036854775807:=⟨by omega,ob11p⟩;refine aZ [] [] ⟨47,[(0,aT x1),(5,aT x1),(6,.i (lZ x1)),(7,.i (((n2+1):Nat):Int))],[],[],0⟩ (an1 ob11) ?_;rw[hC0]at h;exact lN (_,(n2+1)) LR h (Nat.lt_succ_self _)
  ·
   replace h:=aF hc1 h;refine AWp.exit (tE (tE (kS ?_)));exact jN () LR h
 ·
  rintro⟨⟩ h;replace h:=(congrFun hK1 _).symm.trans h;refine aU [] [] ⟨47,[(2,.i (0:Int))],[],[],0⟩ trivial ?_;have hret:=Option.some.inj h;subst hret;refine AWp.ret ?_;exact bR _ rfl ⟨rfl,rfl⟩ rfl
abbrev f98z0 (x1 x2:Int) (x3:List Tq0):aK:=[(1,.cells 100 [.int .i64 x1,.int .i64 x2,vL 3 bW (default:Tq0) x3])]
abbrev f98z1 (x2:Int):=((decide (x2<(0:Int)))||(decide (x2≥(6:Int))))
abbrev f98z2 :List (Nat×V):=[(2,.int .i64 (1:Int))]
abbrev f98z3 (x2:Int):=((x2 !=(0:Int))==false)
abbrev f98z4 (x2:Int):=((decide (x2<(0:Int)))==false)
def f98 (x1 x2:Int) (x3:List Tq0):Option Int:=
 if(x1==(1:Int))then(
 if(x2 !=(0:Int))then(
 some (1:Int)
 )else(
 if(decide ((((x3).length:Nat):Int)>(8:Int)))then(
 some (3:Int)
 )else(
 (f129 x3).bind fun(r4:Int)=>
 some r4
 )
 )
 )else(
 if(x1==(2:Int))then(
 if(((decide (x2<(0:Int)))||(decide (x2≥(6:Int))))||(decide ((((x3).length:Nat):Int)>(0:Int))))then(
 some (1:Int)
 )else(
 some (0:Int)
 )
 )else(
 if(x1==(3:Int))then(
 if((x2 !=(0:Int))||(decide ((((x3).length:Nat):Int)>(0:Int))))then(
 some (1:Int)
 )else(
 some (0:Int)
 )
 )else(
 some (1:Int)
 )
 )
 )
theorem f98_ok (x1 x2:Int) (x3:List Tq0) (r:Int) (h:f98 x1 x2 x3=some r):aH Tryz.prog 98 [] [] [] [.agg [.int .i64 x1,.int .i64 x2,vL 3 bW (default:Tq0) x3]] (.int .i64 r) []:=by
 unfold f98 at h;refine aH.body 0 _ _ Tryz.func98 rfl Tryz.ntmps98 rfl rfl ?_;refine bJ [] [] [1] [1] trivial ?_;refine AWp.seq ?_;refine bJ [] [] [1,4] [1] trivial ?_;refine AWp.block ?_;refine bJ [] [] [1,4,5] [1] trivial ?_;refine AWp.cond (b:=(x1==(1:Int))) (by kernel_rfl) (fun hc1=> ?_) (fun hc1=> ?_)
 ·
  replace h:=aE hc1 h;refine AWp.seq ?_;refine bJ [] [] [1,9] [1] trivial ?_;refine AWp.cond (b:=(x2 !=(0:Int))) (by kernel_rfl) (fun hc2=> ?_) (fun hc2=> ?_)
  ·
   replace h:=aE hc2 h;refine aU [] [] ⟨44,(f98z2),[],[],0⟩ trivial ?_;have hret:=Option.some.inj h;subst hret;refine AWp.ret (tR (kR (tR ?_)));exact bR _ rfl ⟨rfl,rfl⟩ rfl
  ·
   replace h:=aF hc2 h;refine AWp.skip (tN (AWp.seq ?_));refine bJ [] [] [1,13] [1] trivial ?_;refine AWp.cond (b:=(decide ((lZ x3)>(8:Int)))) (by kernel_rfl) (fun hc3=> ?_) (fun hc3=> ?_)
   ·
    replace h:=aE hc3 h;refine aU [] [] ⟨44,[(2,.i (3:Int))],[],[],0⟩ trivial ?_;have hret:=Option.some.inj h;subst hret;refine AWp.ret (tR (kR (tR ?_)));exact bR _ rfl ⟨rfl,rfl⟩ rfl
   ·
    replace h:=aF hc3 h;refine AWp.skip (tN (AWp.seq ?_));obtain⟨r4,hr4,h⟩:=bind_ok h;refine aZ [] [(2,⟨[aT x3],[],[],[],.i r4,[],[],[]⟩)] ⟨44,[(2,.i r4)],[],[],0⟩ (an1 (cpT (f129_ok _ _ hr4))) ?_;refine tN ?_;have hret:=Option.some.inj h;subst hret;refine AWp.ret (kR (tR ?_));exact bR _ rfl ⟨rfl,rfl⟩ rfl
 ·
  replace h:=aF hc1 h;refine bJ [] [] [1,4,17] [1] trivial ?_;refine AWp.cond (b:=(x1==(2:Int))) (by kernel_rfl) (fun hc4=> ?_) (fun hc4=> ?_)
  ·
   replace h:=aE hc4 h;refine AWp.seq (AWp.seq ?_);have ob0:=idA ((f98z4 x2)=true);have ob1:=idA ((f98z4 x2)=true);have ob2:true=true→(decide (x2<(0:Int)))=false→(f98z4 x2)=true:=fun _ h=>beq_iff_eq.2 h;have ob3:=idA (((f98z1 x2)==false)=true);have ob4:=idA (((f98z1 x2)==false)=true);have ob5:=idA (((f98z1 x2)==false)=true);have ob6:=bqA (f98z1 x2) false;refine cA [] [] [32] [] (ac6 (an1 ob0) (an1 ob1) ob2 (an1 ob3) (an1 ob4) (an1 ob5) (an1 ob6)) ?_;refine tN ?_;refine AWp.cond (b:=((f98z1 x2)||(decide ((lZ x3)>(0:Int))))) (by kernel_rfl) (fun hc5=> ?_) (fun hc5=> ?_)
   ·
    replace h:=aE hc5 h;refine aU [] [] ⟨44,(f98z2),[],[],0⟩ trivial ?_;have hret:=Option.some.inj h;subst hret;refine AWp.ret (tR (kR (tR ?_)));exact bR _ rfl ⟨rfl,rfl⟩ rfl
   ·
    replace h:=aF hc5 h;refine AWp.skip (tN ?_);refine aU [] [] ⟨44,[(2,.i (0:Int))],[],[],0⟩ trivial ?_;have hret:=Option.some.inj h;subst hret;refine AWp.ret (kR (tR ?_));exact bR _ rfl ⟨rfl,rfl⟩ rfl
  ·
   replace h:=aF hc4 h;refine aU [] [] ⟨44,[(1,.ptr 1 0),(33,.bool (x1==(3:Int)))],(f98z0 x1 x2 x3),[],0⟩ trivial ?_;refine AWp.cond (b:=(x1==(3:Int))) (by kernel_rfl) (fun hc6=> ?_) (fun hc6=> ?_)
   ·
    replace h:=aE hc6 h;refine AWp.seq (AWp.seq ?_);have ob7:=idA ((f98z3 x2)=true);have ob8:=idA ((f98z3 x2)=true);have ob9:=idA ((f98z3 x2)=true);have ob10:true=true→(x2 !=(0:Int))=false→(f98z3 x2)=true:=fun _ h=>beq_iff_eq.2 h;refine cA [] [] [43] [] (an4 (an1 ob7) (an1 ob8) (an1 ob9) ob10) ?_;refine tN ?_;refine AWp.cond (b:=((x2 !=(0:Int))||(decide ((lZ x3)>(0:Int))))) (by kernel_rfl) (fun hc7=> ?_) (fun hc7=> ?_)
    ·
     replace h:=aE hc7 h;refine aU [] [] ⟨44,(f98z2),[],[],0⟩ trivial ?_;have hret:=Option.some.inj h;subst hret;refine AWp.ret (tR (kR (tR ?_)));exact bR _ rfl ⟨rfl,rfl⟩ rfl
    ·
     replace h:=aF hc7 h;refine AWp.skip (tN ?_);refine aU [] [] ⟨44,[(2,.i (0:Int))],[],[],0⟩ trivial ?_;have hret:=Option.some.inj h;subst hret;refine AWp.ret (kR (tR ?_));exact bR _ rfl ⟨rfl,rfl⟩ rfl
   ·
    replace h:=aF hc6 h;refine AWp.skip (kN (tN ?_));refine aU [] [] ⟨44,(f98z2),[],[],0⟩ trivial ?_;have hret:=Option.some.inj h;subst hret;refine AWp.ret ?_;exact bR _ rfl ⟨rfl,rfl⟩ rfl
def f58 (x1:Int):Option Ty0:=itoaO x1
theorem qR (x1:Int) (r:List UInt8) (h:f58 x1=some r):aH Tryz.prog 58 [(1,.tab .u64 Lib.pow10Tab)] [] [] [.int .i64 x1] (.str r) []:=
 itoa_spec (by kernel_rfl) (fun n w h0 h1 ht=>Any.strconv_Itoa Tryz.lays171 n h0 h1 w ht) x1 r h
def f130 (x1:List Ty0):Option Ty0:=zC x1
theorem xV (x1:List Ty0) (r:List UInt8) (h:f130 x1=some r):aH Tryz.prog 130 [] [] [] [vL 1 eS [] x1] (.str r) []:=aAR x1 r h
def mI (x3:List Tq0) (K1:(List Ty0)→Option Ty0):Nat→(Nat×List Ty0)→Option Ty0
 |0,_=>none
 |k+1,(n7,l8)=>
  if(decide ((n7:Int)<(((x3).length:Nat):Int)))then(
  chk ((n7:Int)<(((x3).length:Nat):Int))<|
  (f58 ((x3.getD n7 (default:Tq0)).1)).bind fun(r9:List UInt8)=>
  (f58 ((x3.getD n7 (default:Tq0)).2.1)).bind fun(r10:List UInt8)=>
  chk (((l8).length+3) *16≤140737488355328)<|
  chk (((n7:Int)+(1:Int))≤9223372036854775807)<|
  (mI x3 K1 k) ((n7+1),(l8++[r9,r10,(x3.getD n7 (default:Tq0)).2.2]))
  )else(
  K1 l8
  )
abbrev f99z0 (x3:List Tq0) (n7:Nat):List (Nat×V):=[(3,.own 19),(21,vL 3 bW (default:Tq0) x3),(22,.int .i64 (((x3).length:Nat):Int)),(23,.int .i64 (n7:Int)),(1000001,.tab .u64 Lib.pow10Tab)]
abbrev xB (x3:List Tq0) (n7:Nat):=(x3.getD n7 (default:Tq0))
abbrev f99z2 (x1 x2:Int) (x3:List Tq0):List V:=[.int .i64 x1,.int .i64 x2,vL 3 bW (default:Tq0) x3]
def f99 (x1 x2:Int) (x3:List Tq0):Option Ty0:=
 if(x1==(2:Int))then(
 (f58 x2).bind fun(r4:List UInt8)=>
 (f130 ([([106,111,105,110]:List UInt8),r4])).bind fun(r5:List UInt8)=>
 some r5
 )else(
 if(x1==(3:Int))then(
 (f130 [cs1]).bind fun(r6:List UInt8)=>
 some r6
 )else(
 jn (fun(l11:List Ty0)=>
 (f130 l11).bind fun(r12:List UInt8)=>
 some r12
 ) fun(K1:(List Ty0)→Option Ty0)=>
 mI x3 K1 bG (0,[cs2])
 )
 )
theorem f99_ok (x1 x2:Int) (x3:List Tq0) (r:List UInt8) (h:f99 x1 x2 x3=some r):aH Tryz.prog 99 [(1,.tab .u64 Lib.pow10Tab)] [] [] [.agg [.int .i64 x1,.int .i64 x2,vL 3 bW (default:Tq0) x3]] (.str r) []:=by
 unfold f99 at h;refine aH.body 0 _ _ Tryz.func99 rfl Tryz.ntmps99 rfl rfl ?_;refine bJ [] [] [1,1000001] [1] trivial ?_;refine AWp.seq ?_;refine bJ [] [] [1,7,1000001] [1] trivial ?_;refine AWp.block ?_;refine bJ [] [] [1,7,8,1000001] [1] trivial ?_;refine AWp.cond (b:=(x1==(2:Int))) (by kernel_rfl) (fun hc1=> ?_) (fun hc1=> ?_)
 ·
  replace h:=aE hc1 h;refine AWp.seq ?_;obtain⟨r4,hr4,h⟩:=bind_ok h;obtain⟨r5,hr5,h⟩:=bind_ok h;refine aZ [] [(2,⟨[.i x2],[],[],[],.str r4,[],[],[1]⟩),(4,⟨[cS [([106,111,105,110]:List UInt8),r4]],[],[],[],.str r5,[],[13],[]⟩)] ⟨41,[(2,.str r5)],[],[],0⟩ (an2 (cpT (qR _ _ hr4)) (cpL (c:=true) [(13,.rows 9 1 2 (dH 1 [.str ([106,111,105,110]:List UInt8),.str r4]))] [13] [.own 13] (fun _=>(xV _ _ hr5)) (fun _=>⟨(VLe.of (RL.lst (enc:=eS) [([106,111,105,110]:List UInt8),r4] rfl rfl (fun _=>rfl))),trivial⟩) (.inr ⟨rfl,trivial⟩))) ?_;refine tN ?_;have hret:=Option.some.inj h;subst hret;refine AWp.ret (kR (tR ?_));exact bR _ rfl ⟨rfl,rfl⟩ rfl
 ·
  replace h:=aF hc1 h;refine aU [] [] ⟨41,[(1,.ptr 1 0),(15,.bool (x1==(3:Int))),(1000001,.tab .u64 Lib.pow10Tab)],[(1,.cells 100 (f99z2 x1 x2 x3))],[],0⟩ trivial ?_;refine AWp.cond (b:=(x1==(3:Int))) (by kernel_rfl) (fun hc2=> ?_) (fun hc2=> ?_)
  ·
   replace h:=aE hc2 h;refine AWp.seq ?_;obtain⟨r6,hr6,h⟩:=bind_ok h;refine aZ [] [(1,⟨[cS [cs1]],[],[],[],.str r6,[],[17],[]⟩)] ⟨41,[(2,.str r6)],[],[],0⟩ (an1 (cpL (c:=true) [(17,.rows 9 1 1 (dH 1 [.str cs1]))] [17] [.own 17] (fun _=>(xV _ _ hr6)) (fun _=>⟨(VLe.of (RL.lst (enc:=eS) [cs1] rfl rfl (fun _=>rfl))),trivial⟩) (.inr ⟨rfl,trivial⟩))) ?_;refine tN ?_;have hret:=Option.some.inj h;subst hret;refine AWp.ret (kR (tR ?_));exact bR _ rfl ⟨rfl,rfl⟩ rfl
  ·
   replace h:=aF hc2 h;refine AWp.skip (kN (tN ?_));refine aU [] [] ⟨41,[(1,.ptr 1 0),(3,.own 19),(1000001,.tab .u64 Lib.pow10Tab)],[(1,.cells 100 (f99z2 x1 x2 x3)),(19,.rows 9 1 1 (dH 1 [.str cs2]))],[],0⟩ trivial ?_;refine AWp.le (Le.mk (s':=⟨41,[(1,.ptr 1 0),(3,.own 19),(1000001,.tab .u64 Lib.pow10Tab)],[(1,.cells 100 (f99z2 x1 x2 x3)),(19,aG [cs2])],[],0⟩) rfl rfl ⟨.refl _,.refl _,.refl _,trivial⟩ ⟨⟨_,rfl,.refl _⟩,⟨_,rfl,(BLe.of (RL.lst (enc:=eS) [cs2] rfl rfl (fun _=>rfl)))⟩,trivial⟩) ?_;obtain⟨K1,hK1,h⟩:=aS h;refine AWp.join (α:=List Ty0) (fun(l11:List Ty0)=>⟨41,[(3,.own 19),(1000001,.tab .u64 Lib.pow10Tab)],[(19,aG l11)],[],0⟩) (fun x=>K1 x=some r) ?_ ?_
   ·
    refine aU [] [] ⟨41,[(3,.own 19),(21,aT x3),(22,.i (lZ x3)),(23,.i (0:Int)),(1000001,.tab .u64 Lib.pow10Tab)],[(19,aG [cs2])],[],0⟩ trivial ?_;refine AWp.block ?_;refine AWp.loopL (α:=Nat×(Nat×List Ty0)) (fun x=>match x with|(_,n7,l8)=>⟨41,(f99z0 x3 n7),[(19,aG l8)],[],0⟩) (fun x=>mI x3 K1 x.1 x.2=some r) (fun x=>x.1) (bG,0,[cs2]) (LR (s':=⟨41,[(3,.own 19),(21,aT x3),(22,.i (lZ x3)),(23,.i (0:Int)),(1000001,.tab .u64 Lib.pow10Tab)],[(19,aG [cs2])],[],0⟩)) h ?_
    rintro⟨k0,n7,l8⟩ h
    cases k0 with
    |zero=>exact nomatch (show none=some r from h)
    |succ k0=>
    obtain⟨C0,hC0⟩:∃C,C=mI x3 K1 k0:=⟨_,rfl⟩;replace h:=(mI.eq_2 ..).symm.trans h
    try rw[←hC0]at h
    refine aU [] [] ⟨41,[(3,.own 19),(21,aT x3),(22,.i (lZ x3)),(23,.i (n7:Int)),(24,.bool (decide ((n7:Int)<(lZ x3)))),(1000001,.tab .u64 Lib.pow10Tab)],[(19,aG l8)],[],0⟩ trivial ?_;refine AWp.seq ?_;refine AWp.cond (b:=(decide ((n7:Int)<(lZ x3)))) (by kernel_rfl) (fun hc3=> ?_) (fun hc3=> ?_)
    ·
     replace h:=aE hc3 h;refine AWp.skip (tN (AWp.seq (AWp.block (AWp.seq ?_))));obtain⟨ob0p,h⟩:=aB h;have ob0:0≤(n7:Int)∧(n7:Int)<(((x3).length:Nat):Int):=⟨by omega,ob0p⟩;refine cA [] [] [3,5,21,22,23,1000001] [5,19] (an2 ob0 trivial) ?_;refine tN ?_;obtain⟨r9,hr9,h⟩:=bind_ok h;obtain⟨r10,hr10,h⟩:=bind_ok h;obtain⟨ob1,h⟩:=aB h;refine aZ [] [(3,⟨[.i (xB x3 n7).1],[],[],[],.str r9,[],[],[1]⟩),(6,⟨[.i (xB x3 n7).2.1],[],[],[],.str r10,[],[],[1]⟩)] ⟨41,(f99z0 x3 n7),[(19,.rows 9 1 ((l8).length+3) (gF (l8).length (cD eS [] l8) (dH 1 [.str r9,.str r10,.str (xB x3 n7).2.2])))],[],0⟩ (an3 (cpT (qR _ _ hr9)) (cpT (qR _ _ hr10)) ob1) ?_;refine kN (tN ?_);refine AWp.le (Le.mk (s':=⟨41,(f99z0 x3 n7),[(19,aG (l8++[r9,r10,(xB x3 n7).2.2]))],[],0⟩) rfl rfl ⟨.refl _,.refl _,.refl _,.refl _,.refl _,trivial⟩ ⟨⟨_,rfl,(BLe.of (RL.app (RL.self _) (RL.lst (enc:=eS) [r9,r10,(xB x3 n7).2.2] rfl rfl (fun _=>rfl))))⟩,trivial⟩) ?_;obtain⟨ob2p,h⟩:=aB h;have ob2: -9223372036854775808≤((n7:Int)+(1:Int))∧((n7:Int)+(1:Int))≤9223372036854775807:=⟨by omega,ob2p⟩;refine aZ [] [] ⟨41,[(3,.own 19),(21,aT x3),(22,.i (lZ x3)),(23,.i (((n7+1):Nat):Int)),(1000001,.tab .u64 Lib.pow10Tab)],[(19,aG (l8++[r9,r10,(xB x3 n7).2.2]))],[],0⟩ (an1 ob2) ?_;rw[hC0]at h;exact lN (_,(n7+1),(l8++[r9,r10,(xB x3 n7).2.2])) LR h (Nat.lt_succ_self _)
    ·
     replace h:=aF hc3 h;refine AWp.exit (tE (tE (kS ?_)));exact jN (l8) LR h
   ·
    rintro l11 h;replace h:=(congrFun hK1 _).symm.trans h;refine AWp.seq ?_;obtain⟨r12,hr12,h⟩:=bind_ok h;refine aZ [] [(1,⟨[cS l11],[],[],[],.str r12,[],[19],[]⟩)] ⟨41,[(2,.str r12)],[],[],0⟩ (an1 (cpL (c:=true) [(19,aG l11)] [19] [.own 19] (fun _=>(xV _ _ hr12)) (fun _=>⟨.refl _,trivial⟩) (.inr ⟨rfl,trivial⟩))) ?_;refine tN ?_;have hret:=Option.some.inj h;subst hret;refine AWp.ret ?_;exact bR _ rfl ⟨rfl,rfl⟩ rfl
def gT (K1:(Nat×Int×Ty2)→Option (Int×Int×Ty2×Int)):Nat→(List Ty0×Ty2)→Option (Int×Int×Ty2×Int)
 |0,_=>none
 |k+1,(l7,l8)=>
  if(decide ((((l7).length:Nat):Int)≥(3:Int)))then(
  (f97 (l7.getD 0 [])).bind fun(r9:Tq4)=>
  chk ((0:Int)<(((l7).length:Nat):Int))<|
  (f97 (l7.getD 1 [])).bind fun(r10:Tq4)=>
  chk ((1:Int)<(((l7).length:Nat):Int))<|
  chk ((2:Int)<(((l7).length:Nat):Int))<|
  chk (((l8).length+1) *32≤140737488355328)<|
  chk ((3:Int)≤(((l7).length:Nat):Int))<|
  (gT K1 k) ((l7.drop 3),(l8++[(r9.1,r10.1,(l7.getD 2 []))]))
  )else(
  K1 (1,(0:Int),l8)
  )
abbrev kU :List V:=[.int .i64 (0:Int),.int .i64 (0:Int),.nils]
abbrev f68z1 (x1:List UInt8):List (Nat×V):=[(0,.str x1),(2,.ptr 2 0),(7,.ptr 7 0),(1000001,.tab .u64 Lib.pow10Tab),(1000002,bF),(1000003,bF)]
abbrev f68z2 (l8:List Tq0):aK:=[(2,.cells 100 (kU)),(7,.cells 100 [.int .i64 (1:Int),.int .i64 (0:Int),.own 6202]),(6202,bL 88 3 bW (default:Tq0) l8)]
abbrev f68z3 :aK:=[(2,.cells 100 (kU)),(7,.cells 100 [.int .i64 (1:Int),.int .i64 (0:Int),.nils])]
abbrev f68z4 (l8:List Tq0) (r9 r10:Tq4) (l7:List Ty0):aK:=[(2,.cells 100 (kU)),(7,.cells 100 [.int .i64 (1:Int),.int .i64 (0:Int),.own 6202]),(6202,bL 88 3 bW (default:Tq0) (l8++[(r9.1,r10.1,(l7.getD 2 []))]))]
abbrev f68z5 (x1:List UInt8) (r2:Int×Int×List Ty0):List (Nat×V):=[(0,.str x1),(2,.ptr 2 0),(7,.ptr 7 0),(8,vL 1 eS [] (r2.2.2.drop 1)),(79,.bool ((r2.2.2.getD 0 [])==cs1)),(1000001,.tab .u64 Lib.pow10Tab),(1000002,bF),(1000003,bF)]
abbrev f68z6 :List (Nat×V):=[(2,.ptr 2 0),(3,.int .i64 (0:Int)),(1000001,.tab .u64 Lib.pow10Tab),(1000002,bF),(1000003,bF)]
abbrev f68z7 :=([106,111,105,110]:List UInt8)
abbrev f68z8 (x1:List UInt8) (l7:List Ty0):List (Nat×V):=[(0,.str x1),(2,.ptr 2 0),(7,.ptr 7 0),(8,vL 1 eS [] l7),(1000001,.tab .u64 Lib.pow10Tab),(1000002,bF),(1000003,bF)]
abbrev f68z9 (n4:Nat) (i5:Int):List V:=[.int .i64 (n4:Int),.int .i64 i5,.own 6202]
abbrev zU (n4:Nat) (i5:Int) (l6:List Tq0):List V:=[.int .i64 (n4:Int),.int .i64 i5,vL 3 bW (default:Tq0) l6]
abbrev f68z11 :List V:=[.int .i64 (1:Int),.int .i64 (0:Int),.own 6202]
abbrev zT (r11:Int):=((r11 !=(0:Int))==false)
def f68 (x1:List UInt8):Option (Int×Int×Ty2×Int):=
 (f96 x1).bind fun(r2:Int×Int×List Ty0)=>
 if((r2.2.1 !=(0:Int))||((((r2.2.2).length:Nat):Int)==(0:Int)))then(
 some ((0:Int),(0:Int),[],(2:Int))
 )else(
 chk ((1:Int)≤(((r2.2.2).length:Nat):Int))<|
 jn (fun((n4,i5,l6):Nat×Int×Ty2)=>
 (f98 (n4:Int) i5 l6).bind fun(r11:Int)=>
 gW ((r11 !=(0:Int))==false) (f99 (n4:Int) i5 l6) fun(r12:List UInt8)=>
 if((r11 !=(0:Int))||(!(r12==x1)))then(
 some ((0:Int),(0:Int),[],(2:Int))
 )else(
 some ((n4:Int),i5,l6,(0:Int))
 )
 ) fun(K1:(Nat×Int×Ty2)→Option (Int×Int×Ty2×Int))=>
 chk ((0:Int)<(((r2.2.2).length:Nat):Int))<|
 if(((r2.2.2.getD 0 [])==([106,111,105,110]:List UInt8))&&(((((r2.2.2.drop 1)).length:Nat):Int)==(1:Int)))then(
 (f97 ((r2.2.2.drop 1).getD 0 [])).bind fun(r3:Tq4)=>
 chk ((0:Int)<((((r2.2.2.drop 1)).length:Nat):Int))<|
 K1 (2,r3.1,[])
 )else(
 chk ((0:Int)<(((r2.2.2).length:Nat):Int))<|
 if((r2.2.2.getD 0 [])==cs1)then(
 K1 (3,(0:Int),[])
 )else(
 gT K1 bG ((r2.2.2.drop 1),[])
 )
 )
 )
theorem f68_ok (x1:List UInt8) (r:Int×Int×Ty2×Int) (h:f68 x1=some r):aH Tryz.prog 68 [(1,.tab .u64 Lib.pow10Tab),(2,bF),(3,bF)] [] [] [.str x1] (.tup [.agg [.int .i64 r.1,.int .i64 r.2.1,vL 3 bW (default:Tq0) r.2.2.1],.int .i64 r.2.2.2]) []:=by
 unfold f68 at h;refine aH.bodyD [2] 0 _ _ Tryz.func68 rfl Tryz.ntmps68 rfl rfl ?_;refine bJ [] [] [0,2,1000001,1000002,1000003] [2] trivial ?_;refine AWp.seq ?_;obtain⟨r2,hr2,h⟩:=bind_ok h;refine cA [] [(1,⟨[.str x1],[],[],[(6001,aG r2.2.2)],.tup [.own 6001,.i r2.1,.i r2.2.1],[6001],[],[]⟩)] [0,2,4,6,1000001,1000002,1000003] [2,6001] (an1 (cpT (aH.ren (bA 3000 6001) (aD 3000 6001) rfl (f96_ok _ _ hr2)))) ?_;refine tN (AWp.seq (AWp.seq ?_));have ob0:=idA (((r2.2.1 !=(0:Int))==false)=true);have ob1:=idA (((r2.2.1 !=(0:Int))==false)=true);have ob2:=bqA (r2.2.1 !=(0:Int)) false;refine cA [] [] [0,2,4,25,1000001,1000002,1000003] [2,6001] (an3 (an1 ob0) (an1 ob1) ob2) ?_;refine tN ?_;refine AWp.cond (b:=((r2.2.1 !=(0:Int))||((lZ r2.2.2)==(0:Int)))) (by kernel_rfl) (fun hc1=> ?_) (fun hc1=> ?_)
 ·
  replace h:=aE hc1 h;refine aU [] [] ⟨96,[(2,.ptr 2 0),(3,.i (2:Int)),(1000001,.tab .u64 Lib.pow10Tab),(1000002,bF),(1000003,bF)],[(2,.cells 100 (kU))],[],0⟩ (an1 trivial) ?_;have hret:=Option.some.inj h;subst hret;refine AWp.le (Le.mk (s':=⟨96,[(2,.ptr 2 0),(3,.i (2:Int))],[(2,.cells 100 [.i (0:Int),.i (0:Int),aT []])],[],0⟩) rfl rfl ⟨.refl _,.refl _,trivial⟩ ⟨⟨_,rfl,(.cellsL ⟨.refl _,.refl _,.nilL,trivial⟩)⟩,trivial⟩) ?_;refine AWp.ret (tR ?_);exact bR _ rfl ⟨rfl,rfl⟩ rfl
 ·
  replace h:=aF hc1 h;refine AWp.skip (tN ?_);refine aU [] [] ⟨96,[(0,.str x1),(2,.ptr 2 0),(4,.own 6001),(7,.ptr 7 0),(1000001,.tab .u64 Lib.pow10Tab),(1000002,bF),(1000003,bF)],[(2,.cells 100 (kU)),(7,.cells 100 [.i (1:Int),.i (0:Int),.nils]),(6001,aG r2.2.2)],[],0⟩ (an1 trivial) ?_;refine AWp.seq ?_;refine AWp.le (Le.trans (Le.freeze 6001 rfl rfl) (LR (s':=⟨96,[(0,.str x1),(2,.ptr 2 0),(4,cS r2.2.2),(7,.ptr 7 0),(1000001,.tab .u64 Lib.pow10Tab),(1000002,bF),(1000003,bF)],(f68z3),[],0⟩))) ?_;obtain⟨ob3p,h⟩:=aB h;have ob3:0≤(1:Int)∧(1:Int)≤(((r2.2.2).length:Nat):Int):=⟨by omega,ob3p⟩;refine aZ [] [] ⟨96,[(0,.str x1),(2,.ptr 2 0),(4,cS r2.2.2),(7,.ptr 7 0),(8,.arr 1 ((r2.2.2).length-1) (fun i j=>(cD eS [] r2.2.2) (i+1) j)),(1000001,.tab .u64 Lib.pow10Tab),(1000002,bF),(1000003,bF)],(f68z3),[],0⟩ (an1 ob3) ?_;refine tN ?_;refine AWp.le (Le.mk (s':=⟨96,[(0,.str x1),(2,.ptr 2 0),(4,cS r2.2.2),(7,.ptr 7 0),(8,cS (r2.2.2.drop 1)),(1000001,.tab .u64 Lib.pow10Tab),(1000002,bF),(1000003,bF)],(f68z3),[],0⟩) rfl rfl ⟨.refl _,.refl _,.refl _,.refl _,VLe.dropL,.refl _,.refl _,.refl _,trivial⟩ ⟨⟨_,rfl,.refl _⟩,⟨_,rfl,.refl _⟩,trivial⟩) ?_;obtain⟨K1,hK1,h⟩:=aS h;refine AWp.join (fun(x:Nat×Int×Ty2)=>match x with|(n4,i5,l6)=>⟨96,(f68z1 x1),[(2,.cells 100 (kU)),(7,.cells 100 (f68z9 n4 i5)),(6202,aJ l6)],[],0⟩) (fun x=>K1 x=some r) ?_ ?_
  ·
   refine AWp.block (AWp.seq ?_);obtain⟨ob4p,h⟩:=aB h;have ob4:0≤(0:Int)∧(0:Int)<(((r2.2.2).length:Nat):Int):=⟨by omega,ob4p⟩;have ob5:=idA ((((r2.2.2.getD 0 [])==(f68z7))==true)=true);have ob6:=idA ((((r2.2.2.getD 0 [])==(f68z7))==true)=true);have ob7:=bqA ((r2.2.2.getD 0 [])==(f68z7)) true;refine cA [] [] [0,2,4,7,8,60,1000001,1000002,1000003] [2,7] (an4 ob4 (an1 ob5) (an1 ob6) ob7) ?_;refine tN ?_;refine AWp.cond (b:=(((r2.2.2.getD 0 [])==(f68z7))&&(((((r2.2.2.drop 1)).length:Nat):Int)==(1:Int)))) (by kernel_rfl) (fun hc2=> ?_) (fun hc2=> ?_)
   ·
    replace h:=aE hc2 h;refine bJ [] [] [0,2,7,8,1000001,1000002,1000003] [2,7] (an1 trivial) ?_;obtain⟨r3,hr3,h⟩:=bind_ok h;obtain⟨ob8p,h⟩:=aB h;have ob8:0≤(0:Int)∧(0:Int)<((((r2.2.2.drop 1)).length:Nat):Int):=⟨by omega,ob8p⟩;refine aZ [] [(3,⟨[.str ((r2.2.2.drop 1).getD 0 [])],[],[],[],.tup [.i r3.1,.ifc r3.2],[],[],[2,3]⟩)] ⟨96,(f68z1 x1),[(2,.cells 100 (kU)),(7,.cells 100 [.i (2:Int),.i r3.1,.nils])],[],0⟩ (an3 ob8 (cpT (f97_ok _ _ hr3)) trivial) ?_;refine kN ?_;exact jN (2,r3.1,[]) (Le.trans (Le.trans (Le.nilOwnC 7 2 6202 88 3 (cD bW bB []) rfl rfl rfl) (LR (s':=⟨96,(f68z1 x1),[(2,.cells 100 (kU)),(7,.cells 100 [.i (2:Int),.i r3.1,.own 6202]),(6202,aJ [])],[],0⟩))) LR) h
   ·
    replace h:=aF hc2 h;refine AWp.seq ?_;obtain⟨ob9p,h⟩:=aB h;have ob9:0≤(0:Int)∧(0:Int)<(((r2.2.2).length:Nat):Int):=⟨by omega,ob9p⟩;refine aZ [] [] ⟨96,(f68z5 x1 r2),(f68z3),[],0⟩ (an1 ob9) ?_;refine tN ?_;refine AWp.cond (b:=((r2.2.2.getD 0 [])==cs1)) (by kernel_rfl) (fun hc3=> ?_) (fun hc3=> ?_)
    ·
     replace h:=aE hc3 h;refine aZ [] [] ⟨96,(f68z1 x1),[(2,.cells 100 (kU)),(7,.cells 100 [.i (3:Int),.i (0:Int),.nils])],[],0⟩ (an1 trivial) ?_;refine kN ?_;exact jN (3,(0:Int),[]) (Le.trans (Le.trans (Le.nilOwnC 7 2 6202 88 3 (cD bW bB []) rfl rfl rfl) (LR (s':=⟨96,(f68z1 x1),[(2,.cells 100 (kU)),(7,.cells 100 [.i (3:Int),.i (0:Int),.own 6202]),(6202,aJ [])],[],0⟩))) LR) h
    ·
     replace h:=aF hc3 h;refine AWp.block ?_;refine AWp.loopL (α:=Nat×(List Ty0×Ty2)) (fun x=>match x with|(_,l7,l8)=>⟨96,(f68z8 x1 l7),(f68z2 l8),[],0⟩) (fun x=>gT K1 x.1 x.2=some r) (fun x=>x.1) (bG,(r2.2.2.drop 1),[]) (Le.trans (Le.trans (Le.nilOwnC 7 2 6202 88 3 (cD bW bB []) rfl rfl rfl) (LR (s':=⟨96,(f68z5 x1 r2),[(2,.cells 100 (kU)),(7,.cells 100 (f68z11)),(6202,aJ [])],[],0⟩))) (LR (s':=⟨96,[(0,.str x1),(2,.ptr 2 0),(7,.ptr 7 0),(8,cS (r2.2.2.drop 1)),(1000001,.tab .u64 Lib.pow10Tab),(1000002,bF),(1000003,bF)],[(2,.cells 100 (kU)),(7,.cells 100 (f68z11)),(6202,aJ [])],[],0⟩))) h ?_
     rintro⟨k0,l7,l8⟩ h
     cases k0 with
     |zero=>exact nomatch (show none=some r from h)
     |succ k0=>
     obtain⟨C0,hC0⟩:∃C,C=gT K1 k0:=⟨_,rfl⟩;replace h:=(gT.eq_2 ..).symm.trans h
     try rw[←hC0]at h
     refine AWp.seq ?_;refine aU [] [] ⟨96,[(0,.str x1),(2,.ptr 2 0),(7,.ptr 7 0),(8,cS l7),(32,.bool (decide ((lZ l7)≥(3:Int)))),(1000001,.tab .u64 Lib.pow10Tab),(1000002,bF),(1000003,bF)],(f68z2 l8),[],0⟩ trivial ?_;refine AWp.cond (b:=(decide ((lZ l7)≥(3:Int)))) (by kernel_rfl) (fun hc4=> ?_) (fun hc4=> ?_)
     ·
      replace h:=aE hc4 h;refine AWp.skip (tN (AWp.seq (AWp.block (AWp.seq ?_))));obtain⟨r9,hr9,h⟩:=bind_ok h;obtain⟨ob10p,h⟩:=aB h;have ob10:0≤(0:Int)∧(0:Int)<(((l7).length:Nat):Int):=⟨by omega,ob10p⟩;refine cA [] [(3,⟨[.str (l7.getD 0 [])],[],[],[],.tup [.i r9.1,.ifc r9.2],[],[],[2,3]⟩)] [0,2,7,8,9,1000001,1000002,1000003] [2,7,6202] (an2 ob10 (cpT (f97_ok _ _ hr9))) ?_;refine tN (AWp.seq ?_);obtain⟨r10,hr10,h⟩:=bind_ok h;obtain⟨ob11p,h⟩:=aB h;have ob11:0≤(1:Int)∧(1:Int)<(((l7).length:Nat):Int):=⟨by omega,ob11p⟩;refine cA [] [(3,⟨[.str (l7.getD 1 [])],[],[],[],.tup [.i r10.1,.ifc r10.2],[],[],[2,3]⟩)] [0,2,7,8,9,11,1000001,1000002,1000003] [2,7,6202] (an2 ob11 (cpT (f97_ok _ _ hr10))) ?_;refine tN ?_;obtain⟨ob12p,h⟩:=aB h;have ob12:0≤(2:Int)∧(2:Int)<(((l7).length:Nat):Int):=⟨by omega,ob12p⟩;obtain⟨ob13,h⟩:=aB h;refine aZ [] [] ⟨96,(f68z8 x1 l7),[(2,.cells 100 (kU)),(7,.cells 100 (f68z11)),(6202,.rows 88 3 ((l8).length+1) (gF (l8).length (cD bW bB l8) (dH 3 [.i r9.1,.i r10.1,.str (l7.getD 2 [])])))],[],0⟩ (an3 ob12 ob13 trivial) ?_;refine kN (tN ?_);refine AWp.le (Le.mk (s':=⟨96,(f68z8 x1 l7),(f68z4 l8 r9 r10 l7),[],0⟩) rfl rfl ⟨.refl _,.refl _,.refl _,.refl _,.refl _,.refl _,.refl _,trivial⟩ ⟨⟨_,rfl,.refl _⟩,⟨_,rfl,.refl _⟩,⟨_,rfl,(BLe.of (RL.app (RL.self _) (RL.lst (enc:=bW) [(r9.1,r10.1,(l7.getD 2 []))] rfl rfl (fun _=>rfl))))⟩,trivial⟩) ?_;obtain⟨ob14p,h⟩:=aB h;have ob14:0≤(3:Int)∧(3:Int)≤(((l7).length:Nat):Int):=⟨by omega,ob14p⟩;refine aZ [] [] ⟨96,[(0,.str x1),(2,.ptr 2 0),(7,.ptr 7 0),(8,.arr 1 ((l7).length-3) (fun i j=>(cD eS [] l7) (i+3) j)),(1000001,.tab .u64 Lib.pow10Tab),(1000002,bF),(1000003,bF)],(f68z4 l8 r9 r10 l7),[],0⟩ (an1 ob14) ?_;rw[hC0]at h;exact lN (_,(l7.drop 3),(l8++[(r9.1,r10.1,(l7.getD 2 []))])) (Le.trans (Le.mk (s':=⟨96,[(0,.str x1),(2,.ptr 2 0),(7,.ptr 7 0),(8,cS (l7.drop 3)),(1000001,.tab .u64 Lib.pow10Tab),(1000002,bF),(1000003,bF)],(f68z4 l8 r9 r10 l7),[],0⟩) rfl rfl ⟨.refl _,.refl _,.refl _,VLe.dropL,.refl _,.refl _,.refl _,trivial⟩ ⟨⟨_,rfl,.refl _⟩,⟨_,rfl,.refl _⟩,⟨_,rfl,.refl _⟩,trivial⟩) LR) h (Nat.lt_succ_self _)
     ·
      replace h:=aF hc4 h;refine AWp.exit (tE (tE (kS (kN ?_))));exact jN (1,(0:Int),l8) LR h
  ·
   rintro⟨n4,i5,l6⟩ h;replace h:=(congrFun hK1 _).symm.trans h;refine AWp.seq (AWp.seq ?_);obtain⟨r11,hr11,h⟩:=bind_ok h;obtain⟨r12,hr12,h⟩:=cG h;have ob15:=idA ((zT r11)=true);have ob16:=idA ((zT r11)=true);have ob17:=idA ((zT r11)=true);have ob18:true=true→(r11 !=(0:Int))=false→(zT r11)=true:=fun _ h=>beq_iff_eq.2 h;refine cA [] [(1,⟨[.agg (zU n4 i5 l6)],[],[],[],.i r11,[],[6202],[]⟩),(5,⟨[.agg (zU n4 i5 l6)],[],[],[],.str r12,[],[6202],[1]⟩)] [2,7,93,1000001,1000002,1000003] [2,7,6202] (an4 (cpL (c:=true) [(6202,aJ l6)] [6202] [.agg (f68z9 n4 i5)] (fun _=>(f98_ok _ _ _ _ hr11)) (fun _=>⟨.refl _,trivial⟩) (.inr ⟨rfl,trivial⟩)) (And.intro (cpL [(6202,aJ l6)] [6202] [.agg (f68z9 n4 i5)] (fun hc=>(f99_ok _ _ _ _ (hr12 hc))) (fun _=>⟨.refl _,trivial⟩) (.inr ⟨rfl,trivial⟩)) (an1 ob15)) (an2 ob16 ob17) ob18) ?_;refine tN ?_;refine AWp.cond (b:=((r11 !=(0:Int))||(!(r12==x1)))) (by kernel_rfl) (fun hc5=> ?_) (fun hc5=> ?_)
   ·
    replace h:=aE hc5 h;refine aU [] [] ⟨96,[(2,.ptr 2 0),(3,.i (2:Int)),(1000001,.tab .u64 Lib.pow10Tab),(1000002,bF),(1000003,bF)],[(2,.cells 100 (kU))],[],0⟩ (an1 trivial) ?_;have hret:=Option.some.inj h;subst hret;refine AWp.le (Le.mk (s':=⟨96,[(2,.ptr 2 0),(3,.i (2:Int))],[(2,.cells 100 [.i (0:Int),.i (0:Int),aT []])],[],0⟩) rfl rfl ⟨.refl _,.refl _,trivial⟩ ⟨⟨_,rfl,(.cellsL ⟨.refl _,.refl _,.nilL,trivial⟩)⟩,trivial⟩) ?_;refine AWp.ret (tR ?_);exact bR _ rfl ⟨rfl,rfl⟩ rfl
   ·
    replace h:=aF hc5 h;refine AWp.skip (tN ?_);refine aU [] [] ⟨96,(f68z6),[(2,.cells 100 (f68z9 n4 i5)),(6202,aJ l6)],[],0⟩ (an1 trivial) ?_;refine AWp.le (Le.trans (Le.freeze 6202 rfl rfl) (LR (s':=⟨96,(f68z6),[(2,.cells 100 (zU n4 i5 l6))],[],0⟩))) ?_;have hret:=Option.some.inj h;subst hret;refine AWp.le (LR (s':=⟨96,[(2,.ptr 2 0),(3,.i (0:Int))],[(2,.cells 100 (zU n4 i5 l6))],[],0⟩)) ?_;refine AWp.ret ?_;exact bR _ rfl ⟨rfl,rfl⟩ rfl
def iR (x1:List Tq0) (x2 x3:Int) (x4:List UInt8) (K1:Unit→Option Int):Nat→Nat→Option Int
 |0,_=>none
 |k+1,n5=>
  if(decide ((n5:Int)<(((x1).length:Nat):Int)))then(
  chk ((n5:Int)<(((x1).length:Nat):Int))<|
  if((x2==(x1.getD n5 (default:Tq0)).1)&&((x3==(x1.getD n5 (default:Tq0)).2.1)&&((x4==((x1.getD n5 (default:Tq0)).2.2))&&true)))then(
  some (n5:Int)
  )else(
  chk (((n5:Int)+(1:Int))≤9223372036854775807)<|
  (iR x1 x2 x3 x4 K1 k) (n5+1)
  )
  )else(
  K1 ()
  )
abbrev oX (x2 x3:Int) (x4:List UInt8):aK:=[(3,.cells 88 [.int .i64 x2,.int .i64 x3,.str x4])]
abbrev qV (x1:List Tq0) (n5:Nat):=(x1.getD n5 (default:Tq0))
def f122 (x1:List Tq0) (x2 x3:Int) (x4:List UInt8):Option Int:=
 jn (fun(_:Unit)=>
 some (-1:Int)
 ) fun(K1:Unit→Option Int)=>
 iR x1 x2 x3 x4 K1 bG 0
theorem f122_ok (x1:List Tq0) (x2 x3:Int) (x4:List UInt8) (r:Int) (h:f122 x1 x2 x3 x4=some r):aH Tryz.prog 122 [] [] [] [vL 3 bW (default:Tq0) x1,.agg [.int .i64 x2,.int .i64 x3,.str x4]] (.int .i64 r) []:=by
 unfold f122 at h;refine aH.body 0 _ _ Tryz.func122 rfl Tryz.ntmps122 rfl rfl ?_;refine aU [] [] ⟨19,[(0,aT x1),(3,.ptr 3 0)],(oX x2 x3 x4),[],0⟩ trivial ?_;obtain⟨K1,hK1,h⟩:=aS h;refine AWp.join (fun(x:Unit)=>match x with|()=>⟨19,[],[],[],0⟩) (fun x=>K1 x=some r) ?_ ?_
 ·
  refine aU [] [] ⟨19,[(0,aT x1),(3,.ptr 3 0),(7,.i (lZ x1)),(8,.i (0:Int))],(oX x2 x3 x4),[],0⟩ trivial ?_;refine AWp.block ?_;refine AWp.loopL (α:=Nat×Nat) (fun x=>match x with|(_,n5)=>⟨19,[(0,aT x1),(3,.ptr 3 0),(7,.i (lZ x1)),(8,.i (n5:Int))],(oX x2 x3 x4),[],0⟩) (fun x=>iR x1 x2 x3 x4 K1 x.1 x.2=some r) (fun x=>x.1) (bG,0) (LR (s':=⟨19,[(0,aT x1),(3,.ptr 3 0),(7,.i (lZ x1)),(8,.i (0:Int))],(oX x2 x3 x4),[],0⟩)) h ?_
  rintro⟨k0,n5⟩ h
  cases k0 with
  |zero=>exact nomatch (show none=some r from h)
  |succ k0=>
  obtain⟨C0,hC0⟩:∃C,C=iR x1 x2 x3 x4 K1 k0:=⟨_,rfl⟩;replace h:=(iR.eq_2 ..).symm.trans h
  try rw[←hC0]at h
  refine aU [] [] ⟨19,[(0,aT x1),(3,.ptr 3 0),(7,.i (lZ x1)),(8,.i (n5:Int)),(9,.bool (decide ((n5:Int)<(lZ x1))))],(oX x2 x3 x4),[],0⟩ trivial ?_;refine AWp.seq ?_;refine AWp.cond (b:=(decide ((n5:Int)<(lZ x1)))) (by kernel_rfl) (fun hc1=> ?_) (fun hc1=> ?_)
  ·
   replace h:=aE hc1 h;refine AWp.skip (tN (AWp.seq (AWp.block ?_)));refine bJ [] [] [0,3,5,7,8] [3] trivial ?_;refine AWp.seq ?_;obtain⟨ob0p,h⟩:=aB h;have ob0:0≤(n5:Int)∧(n5:Int)<(((x1).length:Nat):Int):=⟨by omega,ob0p⟩;refine aZ [] [] ⟨19,[(0,aT x1),(3,.ptr 3 0),(5,.i (n5:Int)),(7,.i (lZ x1)),(8,.i (n5:Int)),(16,.bool ((x2==(qV x1 n5).1)&&((x3==(qV x1 n5).2.1)&&((x4==((qV x1 n5).2.2))&&true))))],(oX x2 x3 x4),[],0⟩ (an1 ob0) ?_;refine tN ?_;refine AWp.cond (b:=((x2==(qV x1 n5).1)&&((x3==(qV x1 n5).2.1)&&((x4==((qV x1 n5).2.2))&&true)))) (by kernel_rfl) (fun hc2=> ?_) (fun hc2=> ?_)
   ·
    replace h:=aE hc2 h;refine aU [] [] ⟨19,[(4,.i (n5:Int))],[],[],0⟩ trivial ?_;have hret:=Option.some.inj h;subst hret;refine AWp.ret (kR (tR (tR (kR (aY ?_)))));exact bR _ rfl ⟨rfl,rfl⟩ rfl
   ·
    replace h:=aF hc2 h;refine AWp.skip (kN (tN ?_));obtain⟨ob1p,h⟩:=aB h;have ob1: -9223372036854775808≤((n5:Int)+(1:Int))∧((n5:Int)+(1:Int))≤9223372036854775807:=⟨by omega,ob1p⟩;refine aZ [] [] ⟨19,[(0,aT x1),(3,.ptr 3 0),(7,.i (lZ x1)),(8,.i (((n5+1):Nat):Int))],(oX x2 x3 x4),[],0⟩ (an1 ob1) ?_;rw[hC0]at h;exact lN (_,(n5+1)) LR h (Nat.lt_succ_self _)
  ·
   replace h:=aF hc1 h;refine AWp.exit (tE (tE (kS ?_)));exact jN () LR h
 ·
  rintro⟨⟩ h;replace h:=(congrFun hK1 _).symm.trans h;refine aU [] [] ⟨19,[(4,.i (-1:Int))],[],[],0⟩ trivial ?_;have hret:=Option.some.inj h;subst hret;refine AWp.ret ?_;exact bR _ rfl ⟨rfl,rfl⟩ rfl
def f89 (x1:List Tq0) (x2 x3:Int) (x4:List UInt8):Option Bool:=
 (f122 x1 x2 x3 x4).bind fun(r5:Int)=>
 some (decide (r5≥(0:Int)))
theorem f89_ok (x1:List Tq0) (x2 x3:Int) (x4:List UInt8) (r:Bool) (h:f89 x1 x2 x3 x4=some r):aH Tryz.prog 89 [] [] [] [vL 3 bW (default:Tq0) x1,.agg [.int .i64 x2,.int .i64 x3,.str x4]] (.bool r) []:=by
 unfold f89 at h;refine aH.body 0 _ _ Tryz.func89 rfl Tryz.ntmps89 rfl rfl ?_;refine bJ [] [] [0,3] [3] trivial ?_;refine AWp.seq ?_;obtain⟨r5,hr5,h⟩:=bind_ok h;refine aZ [] [(2,⟨[aT x1,.agg [.i x2,.i x3,.str x4]],[],[],[],.i r5,[],[],[]⟩)] ⟨9,[(4,.bool (decide (r5≥(0:Int))))],[],[],0⟩ (an1 (cpT (f122_ok _ _ _ _ _ hr5))) ?_;refine tN ?_;have hret:=Option.some.inj h;subst hret;refine AWp.ret ?_;exact bR _ rfl ⟨rfl,rfl⟩ rfl
def f124  :Option (Ty4×Ty2):=
 some ([],[])
theorem f124_ok (r:Ty4×Ty2) (h:f124=some r):aH Tryz.prog 124 [] [] [] [] (.agg [vL 3 cH (default:Tq1) r.1,vL 3 bW (default:Tq0) r.2]) []:=by
 unfold f124 at h;refine aH.bodyD [0] 0 _ _ Tryz.func124 rfl Tryz.ntmps124 rfl rfl ?_;refine bJ [] [] [0] [0] trivial ?_;refine aU [] [] ⟨2,[(0,.ptr 0 0)],[(0,.cells 92 [.nils,.nils])],[],0⟩ (an1 trivial) ?_;have hret:=Option.some.inj h;subst hret;refine AWp.le (Le.mk (s':=⟨2,[(0,.ptr 0 0)],[(0,.cells 92 [aV [],aT []])],[],0⟩) rfl rfl ⟨.refl _,trivial⟩ ⟨⟨_,rfl,(.cellsL ⟨.nilL,.nilL,trivial⟩)⟩,trivial⟩) ?_;refine AWp.ret ?_;exact bR _ rfl ⟨rfl,rfl⟩ rfl
abbrev f150z0 (x1:Int):=((decide (x1≥(0:Int)))&&(decide (x1<(6:Int))))
abbrev f150z1 (x1 x2:Int):=((f150z0 x1)&&(decide (x2≥(1:Int))))
def f150 (x1 x2:Int):Option Bool:=
 some ((((decide (x1≥(0:Int)))&&(decide (x1<(6:Int))))&&(decide (x2≥(1:Int))))&&(decide (x2≤(1000000:Int))))
theorem f150_ok (x1 x2:Int) (r:Bool) (h:f150 x1 x2=some r):aH Tryz.prog 150 [] [] [] [.int .i64 x1,.int .i64 x2] (.bool r) []:=by
 unfold f150 at h;refine aH.body 0 _ _ Tryz.func150 rfl Tryz.ntmps150 rfl rfl ?_;refine bJ [] [] [0,1] [] trivial ?_;refine AWp.seq ?_;have ob0:=idA (((decide (x1≥(0:Int)))==true)=true);have ob1:=bqA (decide (x1≥(0:Int))) true;have ob2:=idA (((f150z0 x1)==true)=true);have ob3:=bqA (f150z0 x1) true;have ob4:=idA (((f150z1 x1 x2)==true)=true);have ob5:=bqA (f150z1 x1 x2) true;refine aZ [] [] ⟨19,[(4,.bool ((f150z1 x1 x2)&&(decide (x2≤(1000000:Int)))))],[],[],0⟩ (an6 (an1 ob0) ob1 (an1 ob2) ob3 (an1 ob4) ob5) ?_;refine tN ?_;have hret:=Option.some.inj h;subst hret;refine AWp.ret ?_;exact bR _ rfl ⟨rfl,rfl⟩ rfl
def f180 (x1 x2:Int) (x3:List UInt8) (x4:Int):Option Int:=
 some (IntKind.wrap .i64 (x1-x4))
theorem f180_ok (x1 x2:Int) (x3:List UInt8) (x4 r:Int) (h:f180 x1 x2 x3 x4=some r):aH Tryz.prog 180 [] [] [] [.agg [.int .i64 x1,.int .i64 x2,.str x3],.int .i64 x4] (.int .i64 r) []:=by
 unfold f180 at h;refine aH.body 0 _ _ Tryz.func180 rfl Tryz.ntmps180 rfl rfl ?_;refine bJ [8] [] [1,2] [2] trivial ?_;refine aU [8] [] ⟨9,[(4,.i (IntKind.wrap .i64 (x1-x4)))],[],[],0⟩ (an1 trivial) ?_;have hret:=Option.some.inj h;subst hret;refine AWp.ret ?_;exact bR _ rfl ⟨rfl,rfl⟩ rfl
def gL (x1:List Tq0) (x2:Int) (K1:Int→Option Tq4):Nat→Tq2→Option Tq4
 |0,_=>none
 |k+1,(i3,i4)=>
  if(decide (i3<i4))then(
  chk (-9223372036854775808≤(i3+i4)∧(i3+i4)≤9223372036854775807)<|
  chk (0≤(i3+i4)∧(i3+i4)≤18446744073709551615)<|
  chk (1≤IntKind.bits .u64)<|
  chk (-9223372036854775808≤((i3+i4)/2^1)∧((i3+i4)/2^1)≤9223372036854775807)<|
  (f180 ((x1.getD ((((i3+i4)/2^1)).toNat) (default:Tq0)).1) ((x1.getD ((((i3+i4)/2^1)).toNat) (default:Tq0)).2.1) ((x1.getD ((((i3+i4)/2^1)).toNat) (default:Tq0)).2.2) x2).bind fun(r5:Int)=>
  chk (0≤((i3+i4)/2^1)∧((i3+i4)/2^1)<(((x1).length:Nat):Int))<|
  if(decide (r5<(0:Int)))then(
  chk (-9223372036854775808≤(((i3+i4)/2^1)+(1:Int))∧(((i3+i4)/2^1)+(1:Int))≤9223372036854775807)<|
  (gL x1 x2 K1 k) ((((i3+i4)/2^1)+(1:Int)),i4)
  )else(
  (gL x1 x2 K1 k) (i3,((i3+i4)/2^1))
  )
  )else(
  K1 i3
  )
def f179 (x1:List Tq0) (x2:Int):Option Tq4:=
 jn (fun(i6:Int)=>
 gW ((decide (i6<(((x1).length:Nat):Int)))==true) (f180 ((x1.getD ((i6).toNat) (default:Tq0)).1) ((x1.getD ((i6).toNat) (default:Tq0)).2.1) ((x1.getD ((i6).toNat) (default:Tq0)).2.2) x2) fun(r7:Int)=>
 chk (((decide (i6<(((x1).length:Nat):Int)))==true)=true→0≤i6∧i6<(((x1).length:Nat):Int))<|
 some (i6,((decide (i6<(((x1).length:Nat):Int)))&&(r7==(0:Int))))
 ) fun(K1:Int→Option Tq4)=>
 gL x1 x2 K1 bG ((0:Int),(((x1).length:Nat):Int))
theorem f179_ok (x1:List Tq0) (x2:Int) (r:Tq4) (h:f179 x1 x2=some r):aH Tryz.prog 179 [] [] [] [vL 3 bW (default:Tq0) x1,.int .i64 x2,.fn (.func 180) []] (.tup [.int .i64 r.1,.bool r.2]) []:=by
 unfold f179 at h;refine aH.body 0 _ _ Tryz.func179 rfl Tryz.ntmps179 rfl rfl ?_;refine bJ [] [] [0,1,2] [] trivial ?_;refine bJ [] [] [0,1,2,8] [] trivial ?_;refine aU [] [] ⟨49,[(0,aT x1),(1,.i x2),(2,.fn (.func 180) []),(8,.i (lZ x1)),(9,.i (0:Int)),(10,.i (lZ x1))],[],[],0⟩ trivial ?_;obtain⟨K1,hK1,h⟩:=aS h;refine AWp.join (α:=Int) (fun(i6:Int)=>⟨49,[(0,aT x1),(1,.i x2),(2,.fn (.func 180) []),(8,.i (lZ x1)),(9,.i i6)],[],[],0⟩) (fun x=>K1 x=some r) ?_ ?_
 ·
  refine AWp.block ?_;refine AWp.loopL (α:=Nat×Tq2) (fun x=>match x with|(_,i3,i4)=>⟨49,[(0,aT x1),(1,.i x2),(2,.fn (.func 180) []),(8,.i (lZ x1)),(9,.i i3),(10,.i i4)],[],[],0⟩) (fun x=>gL x1 x2 K1 x.1 x.2=some r) (fun x=>x.1) (bG,(0:Int),(lZ x1)) (LR (s':=⟨49,[(0,aT x1),(1,.i x2),(2,.fn (.func 180) []),(8,.i (lZ x1)),(9,.i (0:Int)),(10,.i (lZ x1))],[],[],0⟩)) h ?_
  rintro⟨k0,i3,i4⟩ h
  cases k0 with
  |zero=>exact nomatch (show none=some r from h)
  |succ k0=>
  obtain⟨C0,hC0⟩:∃C,C=gL x1 x2 K1 k0:=⟨_,rfl⟩;replace h:=(gL.eq_2 ..).symm.trans h
  try rw[←hC0]at h
  refine AWp.seq ?_;refine aU [] [] ⟨49,[(0,aT x1),(1,.i x2),(2,.fn (.func 180) []),(8,.i (lZ x1)),(9,.i i3),(10,.i i4),(17,.bool (decide (i3<i4)))],[],[],0⟩ trivial ?_;refine AWp.cond (b:=(decide (i3<i4))) (by kernel_rfl) (fun hc1=> ?_) (fun hc1=> ?_)
  ·
   replace h:=aE hc1 h;refine AWp.skip (tN (AWp.block (AWp.seq ?_)));obtain⟨ob0,ob1,ob2p,h⟩:=ck3 h;have ob2:0≤(1:Int)∧1≤IntKind.bits .u64:=⟨by omega,ob2p⟩;obtain⟨ob3,h⟩:=aB h;refine cA [] [] [0,1,2,8,9,10,11] [] (an4 ob0 ob1 ob2 ob3) ?_;refine tN (AWp.seq ?_);obtain⟨r5,hr5,h⟩:=bind_ok h;obtain⟨ob4,h⟩:=aB h;refine cA [] [(6,⟨[.agg [.i (x1.getD ((((i3+i4)/2^1)).toNat) bB).1,.i (x1.getD ((((i3+i4)/2^1)).toNat) bB).2.1,.str (x1.getD ((((i3+i4)/2^1)).toNat) bB).2.2],.i x2],[],[],[],.i r5,[],[],[]⟩)] [0,1,2,8,9,10,11,31] [] (an2 ob4 (cpT (f180_ok _ _ _ _ _ hr5))) ?_;refine tN ?_;refine AWp.cond (b:=(decide (r5<(0:Int)))) (by kernel_rfl) (fun hc2=> ?_) (fun hc2=> ?_)
   ·
    replace h:=aE hc2 h;obtain⟨ob5,h⟩:=aB h;refine aZ [] [] ⟨49,[(0,aT x1),(1,.i x2),(2,.fn (.func 180) []),(8,.i (lZ x1)),(9,.i (((i3+i4)/2^1)+(1:Int))),(10,.i i4)],[],[],0⟩ (an1 ob5) ?_;refine kN ?_;rw[hC0]at h;exact lN (_,(((i3+i4)/2^1)+(1:Int)),i4) LR h (Nat.lt_succ_self _)
   ·
    replace h:=aF hc2 h;refine aZ [] [] ⟨49,[(0,aT x1),(1,.i x2),(2,.fn (.func 180) []),(8,.i (lZ x1)),(9,.i i3),(10,.i ((i3+i4)/2^1))],[],[],0⟩ trivial ?_;refine kN ?_;rw[hC0]at h;exact lN (_,i3,((i3+i4)/2^1)) LR h (Nat.lt_succ_self _)
  ·
   replace h:=aF hc1 h;refine AWp.exit (tE (tE (kS ?_)));exact jN (i3) LR h
 ·
  rintro i6 h;replace h:=(congrFun hK1 _).symm.trans h;refine AWp.seq ?_;obtain⟨r7,hr7,h⟩:=cG h;obtain⟨ob6,h⟩:=aB h;have ob7:=idA (((decide (i6<(lZ x1)))==true)=true);have ob8:=idA (((decide (i6<(lZ x1)))==true)=true);have ob9:=idA (((decide (i6<(lZ x1)))==true)=true);have ob10:=idA (((decide (i6<(lZ x1)))==true)=true);have ob11:=idA (((decide (i6<(lZ x1)))==true)=true);have ob12:=idA (((decide (i6<(lZ x1)))==true)=true);have ob13:=idA (((decide (i6<(lZ x1)))==true)=true);have ob14:=bqA (decide (i6<(lZ x1))) true;refine aZ [] [(11,⟨[.agg [.i (x1.getD ((i6).toNat) bB).1,.i (x1.getD ((i6).toNat) bB).2.1,.str (x1.getD ((i6).toNat) bB).2.2],.i x2],[],[],[],.i r7,[],[],[]⟩)] ⟨49,[(6,.i i6),(7,.bool ((decide (i6<(lZ x1)))&&(r7==(0:Int))))],[],[],0⟩ (an5 (And.intro ob6 (an2 ob7 ob8)) (an1 ob9) (And.intro (cpC fun hc=>(f180_ok _ _ _ _ _ (hr7 hc))) (an3 ob10 ob11 ob12)) (an1 ob13) ob14) ?_;refine tN ?_;have hret:=Option.some.inj h;subst hret;refine AWp.ret ?_;exact bR _ rfl ⟨rfl,rfl⟩ rfl
def f151 (x1:List Tq0) (x2:Int):Option Tq4:=
 (f179 x1 x2).bind fun(r3:Tq4)=>
 some (r3.1,r3.2)
theorem f151_ok (x1:List Tq0) (x2:Int) (r:Tq4) (h:f151 x1 x2=some r):aH Tryz.prog 151 [] [] [] [vL 3 bW (default:Tq0) x1,.int .i64 x2] (.tup [.int .i64 r.1,.bool r.2]) []:=by
 unfold f151 at h;refine aH.body 0 _ _ Tryz.func151 rfl Tryz.ntmps151 rfl rfl ?_;refine bJ [] [] [0,1] [] trivial ?_;refine AWp.seq ?_;obtain⟨r3,hr3,h⟩:=bind_ok h;refine aZ [] [(2,⟨[aT x1,.i x2,.fn (.func 180) []],[],[],[],.tup [.i r3.1,.bool r3.2],[],[],[]⟩)] ⟨11,[(4,.i r3.1),(5,.bool r3.2)],[],[],0⟩ (an1 (cpT (f179_ok _ _ _ hr3))) ?_;refine tN ?_;have hret:=Option.some.inj h;subst hret;refine AWp.ret ?_;exact bR _ rfl ⟨rfl,rfl⟩ rfl
def f181 (x1 x2:List UInt8):Option (List Ty0):=yS x1 x2
theorem f181_ok (x1 x2:List UInt8) (r:List Ty0) (h:f181 x1 x2=some r):aH Tryz.prog 181 [] [] [] [.str x1,.str x2] (.own 3000) [(3000,bL 9 1 eS [] r)]:=
 aAG 9 (fun s c w hs=>split_one Tryz.lays146 (by kernel_rfl) s c w hs) x1 x2 r h
abbrev fG :=([112,117,116]:List UInt8)
abbrev gC :=([103,101,116]:List UInt8)
abbrev oU :=([99,97,115]:List UInt8)
def f182  :Option Unit:=
 some ()
theorem f182_ok (r:Unit) (h:f182=some r):aH Tryz.prog 182 [] [] [] [] (vM (V.int .i64) 0 gR (default:Tq7) bT bO) []:=by
 unfold f182 at h;refine aH.body 0 _ _ Tryz.func182 rfl Tryz.ntmps182 rfl rfl ?_;refine bJ [] [] [] [] trivial ?_;refine aU [] [(0,⟨[],[],[],[(1,bM (V.int .i64) 0 gR aW [] [])],.own 1,[1],[],[]⟩),(2,⟨[.own 1,.i (1:Int),.agg [.str (fG),.bool true,.bool false,.bool true]],[1],[1],[(1,bM (V.int .i64) 0 gR aW ([]++[(1:Int)]) ([]++[((fG),true,false,true)]))],.any,[],[],[]⟩),(4,⟨[.own 1,.i (2:Int),.agg [.str (gC),.bool true,.bool false,.bool false]],[1],[1],[(1,bM (V.int .i64) 0 gR aW (([]++[(1:Int)])++[(2:Int)]) (([]++[((fG),true,false,true)])++[((gC),true,false,false)]))],.any,[],[],[]⟩),(6,⟨[.own 1,.i (3:Int),.agg [.str cs6,.bool true,.bool false,.bool false]],[1],[1],[(1,bM (V.int .i64) 0 gR aW ((([]++[(1:Int)])++[(2:Int)])++[(3:Int)]) ((([]++[((fG),true,false,true)])++[((gC),true,false,false)])++[(cs6,true,false,false)]))],.any,[],[],[]⟩),(8,⟨[.own 1,.i (4:Int),.agg [.str cs7,.bool true,.bool false,.bool true]],[1],[1],[(1,bM (V.int .i64) 0 gR aW (((([]++[(1:Int)])++[(2:Int)])++[(3:Int)])++[(4:Int)]) (((([]++[((fG),true,false,true)])++[((gC),true,false,false)])++[(cs6,true,false,false)])++[(cs7,true,false,true)]))],.any,[],[],[]⟩),(10,⟨[.own 1,.i (5:Int),.agg [.str (oU),.bool true,.bool true,.bool true]],[1],[1],[(1,bM (V.int .i64) 0 gR aW ((((([]++[(1:Int)])++[(2:Int)])++[(3:Int)])++[(4:Int)])++[(5:Int)]) ((((([]++[((fG),true,false,true)])++[((gC),true,false,false)])++[(cs6,true,false,false)])++[(cs7,true,false,true)])++[((oU),true,true,true)]))],.any,[],[],[]⟩),(12,⟨[.own 1,.i (6:Int),.agg [.str cs8,.bool false,.bool false,.bool false]],[1],[1],[(1,bM (V.int .i64) 0 gR aW (((((([]++[(1:Int)])++[(2:Int)])++[(3:Int)])++[(4:Int)])++[(5:Int)])++[(6:Int)]) (((((([]++[((fG),true,false,true)])++[((gC),true,false,false)])++[(cs6,true,false,false)])++[(cs7,true,false,true)])++[((oU),true,true,true)])++[(cs8,false,false,false)]))],.any,[],[],[]⟩)] ⟨9,[(0,.own 1)],[(1,bM (V.int .i64) 0 gR aW (((((([]++[(1:Int)])++[(2:Int)])++[(3:Int)])++[(4:Int)])++[(5:Int)])++[(6:Int)]) (((((([]++[((fG),true,false,true)])++[((gC),true,false,false)])++[(cs6,true,false,false)])++[(cs7,true,false,true)])++[((oU),true,true,true)])++[(cs8,false,false,false)]))],[],0⟩ (ac6 (And.intro (rQ (P:=Tryz.prog) (V.int .i64) 0 gR aW 261 1 261) (eJ.same [])) (And.intro (dR Tryz.underlying261 Tryz.underlying3 (.insert 261 (.tmp 1) (.const (.int .i64 1)) (.tmp 2)) (.tmp 1) (.const (.int .i64 1)) (.tmp 2) (.inl rfl) (V.int .i64) 0 gR aW (dK .i64) (fun _=>rfl) (fun _=>rfl) (fun _=>rfl) 0 1 [] [] (1:Int) ((fG),true,false,true) rfl rfl) (eJ.same [.own 1,.i (1:Int),.agg [.str (fG),.bool true,.bool false,.bool true]])) (And.intro (dR Tryz.underlying261 Tryz.underlying3 (.insert 261 (.tmp 1) (.const (.int .i64 2)) (.tmp 3)) (.tmp 1) (.const (.int .i64 2)) (.tmp 3) (.inl rfl) (V.int .i64) 0 gR aW (dK .i64) (fun _=>rfl) (fun _=>rfl) (fun _=>rfl) 0 1 ([]++[(1:Int)]) ([]++[((fG),true,false,true)]) (2:Int) ((gC),true,false,false) rfl rfl) (eJ.same [.own 1,.i (2:Int),.agg [.str (gC),.bool true,.bool false,.bool false]])) (And.intro (dR Tryz.underlying261 Tryz.underlying3 (.insert 261 (.tmp 1) (.const (.int .i64 3)) (.tmp 4)) (.tmp 1) (.const (.int .i64 3)) (.tmp 4) (.inl rfl) (V.int .i64) 0 gR aW (dK .i64) (fun _=>rfl) (fun _=>rfl) (fun _=>rfl) 0 1 (([]++[(1:Int)])++[(2:Int)]) (([]++[((fG),true,false,true)])++[((gC),true,false,false)]) (3:Int) (cs6,true,false,false) rfl rfl) (eJ.same [.own 1,.i (3:Int),.agg [.str cs6,.bool true,.bool false,.bool false]])) (And.intro (dR Tryz.underlying261 Tryz.underlying3 (.insert 261 (.tmp 1) (.const (.int .i64 4)) (.tmp 5)) (.tmp 1) (.const (.int .i64 4)) (.tmp 5) (.inl rfl) (V.int .i64) 0 gR aW (dK .i64) (fun _=>rfl) (fun _=>rfl) (fun _=>rfl) 0 1 ((([]++[(1:Int)])++[(2:Int)])++[(3:Int)]) ((([]++[((fG),true,false,true)])++[((gC),true,false,false)])++[(cs6,true,false,false)]) (4:Int) (cs7,true,false,true) rfl rfl) (eJ.same [.own 1,.i (4:Int),.agg [.str cs7,.bool true,.bool false,.bool true]])) (And.intro (dR Tryz.underlying261 Tryz.underlying3 (.insert 261 (.tmp 1) (.const (.int .i64 5)) (.tmp 6)) (.tmp 1) (.const (.int .i64 5)) (.tmp 6) (.inl rfl) (V.int .i64) 0 gR aW (dK .i64) (fun _=>rfl) (fun _=>rfl) (fun _=>rfl) 0 1 (((([]++[(1:Int)])++[(2:Int)])++[(3:Int)])++[(4:Int)]) (((([]++[((fG),true,false,true)])++[((gC),true,false,false)])++[(cs6,true,false,false)])++[(cs7,true,false,true)]) (5:Int) ((oU),true,true,true) rfl rfl) (eJ.same [.own 1,.i (5:Int),.agg [.str (oU),.bool true,.bool true,.bool true]])) (an1 (And.intro (dR Tryz.underlying261 Tryz.underlying3 (.insert 261 (.tmp 1) (.const (.int .i64 6)) (.tmp 7)) (.tmp 1) (.const (.int .i64 6)) (.tmp 7) (.inl rfl) (V.int .i64) 0 gR aW (dK .i64) (fun _=>rfl) (fun _=>rfl) (fun _=>rfl) 0 1 ((((([]++[(1:Int)])++[(2:Int)])++[(3:Int)])++[(4:Int)])++[(5:Int)]) ((((([]++[((fG),true,false,true)])++[((gC),true,false,false)])++[(cs6,true,false,false)])++[(cs7,true,false,true)])++[((oU),true,true,true)]) (6:Int) (cs8,false,false,false) rfl rfl) (eJ.same [.own 1,.i (6:Int),.agg [.str cs8,.bool false,.bool false,.bool false]])))) ?_;refine AWp.le (Le.trans (Le.freezeM 1 rfl rfl) (LR (s':=⟨9,[(0,vM (V.int .i64) 0 gR aW bT bO)],[],[],0⟩))) ?_;have hret:=Option.some.inj h;subst hret;refine AWp.le (LR (s':=⟨9,[(0,vM (V.int .i64) 0 gR aW bT bO)],[],[],0⟩)) ?_;refine AWp.ret ?_;exact bR _ rfl ⟨rfl,rfl⟩ rfl
def f183 (x1:Bool) (x2:List Ty0):Option (List UInt8×List Ty0):=
 if((!x1)||((((x2).length:Nat):Int)==(0:Int)))then(
 some ([],x2)
 )else(
 chk ((0:Int)<(((x2).length:Nat):Int))<|
 chk ((1:Int)≤(((x2).length:Nat):Int))<|
 some ((x2.getD 0 []),(x2.drop 1))
 )
theorem xS (x1:Bool) (x2:List Ty0) (r:List UInt8×List Ty0) (h:f183 x1 x2=some r):aH Tryz.prog 183 [] [2000] [(2000,.cells 29 [vL 1 eS [] x2])] [.bool x1,.ptr 2000 0] (.str r.1) [(2000,.cells 29 [vL 1 eS [] r.2])]:=by
 unfold f183 at h;refine aH.body 0 _ _ Tryz.func183 rfl Tryz.ntmps183 rfl rfl ?_;refine bJ [] [] [0,1] [2000] trivial ?_;refine AWp.seq (AWp.seq ?_);have ob0:=idA (((!x1)==false)=true);have ob1:=idA (((!x1)==false)=true);have ob2:=bqA (!x1) false;refine cA [] [] [1,11] [2000] (an3 (an1 ob0) (an1 ob1) ob2) ?_;refine tN ?_;refine AWp.cond (b:=((!x1)||((lZ x2)==(0:Int)))) (by kernel_rfl) (fun hc1=> ?_) (fun hc1=> ?_)
 ·
  replace h:=aE hc1 h;refine aU [] [] ⟨18,[(3,.str [])],[(2000,.cells 29 [cS x2])],[2000],0⟩ trivial ?_;have hret:=Option.some.inj h;subst hret;refine AWp.ret (tR ?_);exact bR _ rfl ⟨rfl,rfl⟩ rfl
 ·
  replace h:=aF hc1 h;refine AWp.skip (tN (AWp.seq ?_));obtain⟨ob3p,h⟩:=aB h;have ob3:0≤(0:Int)∧(0:Int)<(((x2).length:Nat):Int):=⟨by omega,ob3p⟩;refine cA [] [] [1,4] [2000] (an1 ob3) ?_;refine tN (AWp.seq ?_);obtain⟨ob4p,h⟩:=aB h;have ob4:0≤(1:Int)∧(1:Int)≤(((x2).length:Nat):Int):=⟨by omega,ob4p⟩;refine aZ [] [] ⟨18,[(4,.str (x2.getD 0 []))],[(2000,.cells 29 [.arr 1 ((x2).length-1) (fun i j=>(cD eS [] x2) (i+1) j)])],[2000],0⟩ (an2 ob4 trivial) ?_;refine tN ?_;refine AWp.le (Le.mk (s':=⟨18,[(4,.str (x2.getD 0 []))],[(2000,.cells 29 [cS (x2.drop 1)])],[2000],0⟩) rfl rfl ⟨.refl _,trivial⟩ ⟨⟨_,rfl,(.cellsL ⟨VLe.dropL,trivial⟩)⟩,trivial⟩) ?_;refine aU [] [] ⟨18,[(3,.str (x2.getD 0 []))],[(2000,.cells 29 [cS (x2.drop 1)])],[2000],0⟩ trivial ?_;have hret:=Option.some.inj h;subst hret;refine AWp.ret ?_;exact bR _ rfl ⟨rfl,rfl⟩ rfl
def fF (x1:List UInt8) (K1:Unit→Option Bool):Nat→Nat→Option Bool
 |0,_=>none
 |k+1,n3=>
  if(decide ((n3:Int)<((x1.length:Nat):Int)))then(
  chk ((n3:Int)<((x1.length:Nat):Int))<|
  chk (((decide ((((x1.getD n3 0).toNat:Nat):Int)<(33:Int)))==false)=true→0≤(n3:Int)∧(n3:Int)<((x1.length:Nat):Int))<|
  if((decide ((((x1.getD n3 0).toNat:Nat):Int)<(33:Int)))||(decide ((((x1.getD n3 0).toNat:Nat):Int)>(126:Int))))then(
  some false
  )else(
  chk (((n3:Int)+(1:Int))≤9223372036854775807)<|
  (fF x1 K1 k) (n3+1)
  )
  )else(
  K1 ()
  )
theorem aA8 (x1:List UInt8) (K1:Unit→Option Bool) (k n3:Nat):fF x1 K1 (k+1) n3=
  if(decide ((n3:Int)<((x1.length:Nat):Int)))then(
  chk ((n3:Int)<((x1.length:Nat):Int))<|
  chk (((decide ((((x1.getD n3 0).toNat:Nat):Int)<(33:Int)))==false)=true→0≤(n3:Int)∧(n3:Int)<((x1.length:Nat):Int))<|
  if((decide ((((x1.getD n3 0).toNat:Nat):Int)<(33:Int)))||(decide ((((x1.getD n3 0).toNat:Nat):Int)>(126:Int))))then(
  some false
  )else(
  chk (((n3:Int)+(1:Int))≤9223372036854775807)<|
  (fF x1 K1 k) (n3+1)
  )
  )else(
  K1 ()
  ):=rfl
def f219 (x1:List UInt8) (x2:Int):Option Bool:=
 jn (fun(_:Unit)=>
 some ((!(x1==[]))&&(decide (((x1.length:Nat):Int)≤x2)))
 ) fun(K1:Unit→Option Bool)=>
 fF x1 K1 bG 0
theorem f219_ok (x1:List UInt8) (x2:Int) (r:Bool) (h:f219 x1 x2=some r):aH Tryz.prog 219 [] [] [] [.str x1,.int .i64 x2] (.bool r) []:=by
 unfold f219 at h;refine aH.body 0 _ _ Tryz.func219 rfl Tryz.ntmps219 rfl rfl ?_;refine aU [] [] ⟨30,[(0,.str x1),(1,.i x2)],[],[],0⟩ trivial ?_;obtain⟨K1,hK1,h⟩:=aS h;refine AWp.join (fun(x:Unit)=>match x with|()=>⟨30,[(0,.str x1),(1,.i x2)],[],[],0⟩) (fun x=>K1 x=some r) ?_ ?_
 ·
  refine aU [] [] ⟨30,[(0,.str x1),(1,.i x2),(7,.i (lZ x1)),(8,.i (0:Int))],[],[],0⟩ trivial ?_;refine AWp.block ?_;refine AWp.loopL (α:=Nat×Nat) (fun x=>match x with|(_,n3)=>⟨30,[(0,.str x1),(1,.i x2),(7,.i (lZ x1)),(8,.i (n3:Int))],[],[],0⟩) (fun x=>fF x1 K1 x.1 x.2=some r) (fun x=>x.1) (bG,0) (LR (s':=⟨30,[(0,.str x1),(1,.i x2),(7,.i (lZ x1)),(8,.i (0:Int))],[],[],0⟩)) h ?_
  rintro⟨k0,n3⟩ h
  cases k0 with
  |zero=>exact nomatch (show none=some r from h)
  |succ k0=>
  obtain⟨C0,hC0⟩:∃C,C=fF x1 K1 k0:=⟨_,rfl⟩;replace h:=(aA8 ..).symm.trans h
  try rw[←hC0]at h
  refine aU [] [] ⟨30,[(0,.str x1),(1,.i x2),(7,.i (lZ x1)),(8,.i (n3:Int)),(9,.bool (decide ((n3:Int)<(lZ x1))))],[],[],0⟩ trivial ?_;refine AWp.seq ?_;refine AWp.cond (b:=(decide ((n3:Int)<(lZ x1)))) (by kernel_rfl) (fun hc1=> ?_) (fun hc1=> ?_)
  ·
   replace h:=aE hc1 h;refine AWp.skip (tN (AWp.seq (AWp.block ?_)));refine bJ [] [] [0,1,5,7,8] [] trivial ?_;refine AWp.seq ?_;obtain⟨ob0p,h⟩:=aB h;have ob0:0≤(n3:Int)∧(n3:Int)<((x1.length:Nat):Int):=⟨by omega,ob0p⟩;obtain⟨ob1,h⟩:=aB h;have ob2:=idA (((decide ((((x1.getD n3 0).toNat:Nat):Int)<(33:Int)))==false)=true);have ob3:=idA (((decide ((((x1.getD n3 0).toNat:Nat):Int)<(33:Int)))==false)=true);have ob4:=idA (((decide ((((x1.getD n3 0).toNat:Nat):Int)<(33:Int)))==false)=true);have ob5:=bqA (decide ((((x1.getD n3 0).toNat:Nat):Int)<(33:Int))) false;refine aZ [] [] ⟨30,[(0,.str x1),(1,.i x2),(7,.i (lZ x1)),(8,.i (n3:Int)),(20,.bool ((decide ((((x1.getD n3 0).toNat:Nat):Int)<(33:Int)))||(decide ((((x1.getD n3 0).toNat:Nat):Int)>(126:Int)))))],[],[],0⟩ (an4 ob0 (And.intro ob1 (an2 ob2 ob3)) (an1 ob4) ob5) ?_;refine tN ?_;refine AWp.cond (b:=((decide ((((x1.getD n3 0).toNat:Nat):Int)<(33:Int)))||(decide ((((x1.getD n3 0).toNat:Nat):Int)>(126:Int))))) (by kernel_rfl) (fun hc2=> ?_) (fun hc2=> ?_)
   ·
    replace h:=aE hc2 h;refine aU [] [] ⟨30,[(4,.bool false)],[],[],0⟩ trivial ?_;have hret:=Option.some.inj h;subst hret;refine AWp.ret (kR (tR (tR (kR (aY ?_)))));exact bR _ rfl ⟨rfl,rfl⟩ rfl
   ·
    replace h:=aF hc2 h;refine AWp.skip (kN (tN ?_));obtain⟨ob6p,h⟩:=aB h;have ob6: -9223372036854775808≤((n3:Int)+(1:Int))∧((n3:Int)+(1:Int))≤9223372036854775807:=⟨by omega,ob6p⟩;refine aZ [] [] ⟨30,[(0,.str x1),(1,.i x2),(7,.i (lZ x1)),(8,.i (((n3+1):Nat):Int))],[],[],0⟩ (an1 ob6) ?_;rw[hC0]at h;exact lN (_,(n3+1)) LR h (Nat.lt_succ_self _)
  ·
   replace h:=aF hc1 h;refine AWp.exit (tE (tE (kS ?_)));exact jN () LR h
 ·
  rintro⟨⟩ h;replace h:=(congrFun hK1 _).symm.trans h;refine AWp.seq ?_;have ob7:=idA (((!(x1==[]))==true)=true);have ob8:=idA (((!(x1==[]))==true)=true);have ob9:=idA (((!(x1==[]))==true)=true);have ob10:=bqA (!(x1==[])) true;refine aZ [] [] ⟨30,[(4,.bool ((!(x1==[]))&&(decide ((lZ x1)≤x2))))],[],[],0⟩ (an3 (an1 ob7) (an2 ob8 ob9) ob10) ?_;refine tN ?_;have hret:=Option.some.inj h;subst hret;refine AWp.ret ?_;exact bR _ rfl ⟨rfl,rfl⟩ rfl
def f206 (x1:List UInt8) (x2:Bool):Option Bool:=
 if(!x2)then(
 some (x1==[])
 )else(
 (f219 x1 (64:Int)).bind fun(r3:Bool)=>
 some r3
 )
theorem xP (x1:List UInt8) (x2 r:Bool) (h:f206 x1 x2=some r):aH Tryz.prog 206 [] [] [] [.str x1,.bool x2] (.bool r) []:=by
 unfold f206 at h;refine aH.body 0 _ _ Tryz.func206 rfl Tryz.ntmps206 rfl rfl ?_;refine bJ [] [] [0,1] [] trivial ?_;refine AWp.seq ?_;refine bJ [] [] [0,6] [] trivial ?_;refine AWp.cond (b:=(!x2)) (by kernel_rfl) (fun hc1=> ?_) (fun hc1=> ?_)
 ·
  replace h:=aE hc1 h;refine aU [] [] ⟨11,[(4,.bool (x1==[]))],[],[],0⟩ trivial ?_;have hret:=Option.some.inj h;subst hret;refine AWp.ret (tR ?_);exact bR _ rfl ⟨rfl,rfl⟩ rfl
 ·
  replace h:=aF hc1 h;refine AWp.skip (tN (AWp.seq ?_));obtain⟨r3,hr3,h⟩:=bind_ok h;refine aZ [] [(1,⟨[.str x1,.i (64:Int)],[],[],[],.bool r3,[],[],[]⟩)] ⟨11,[(4,.bool r3)],[],[],0⟩ (an1 (cpT (f219_ok _ _ _ hr3))) ?_;refine tN ?_;have hret:=Option.some.inj h;subst hret;refine AWp.ret ?_;exact bR _ rfl ⟨rfl,rfl⟩ rfl
abbrev iN (x1:Int) (r6:Bool):=((wV bT x1)&&r6)
abbrev vG (x1:Int):=((wV bT x1)==true)
def f185 (x1:Int) (x2 x3 x4:List UInt8):Option (List UInt8×Bool×Bool×Bool×Bool):=
 (f182).bind fun(r5:Unit)=>
 gW ((wV bT x1)==true) (f206 x2 ((lM bT bO (default:Tq7) ([],false,false,false) x1).2.1)) fun(r6:Bool)=>
 gW (((wV bT x1)&&r6)==true) (f206 x3 ((lM bT bO (default:Tq7) ([],false,false,false) x1).2.2.1)) fun(r7:Bool)=>
 gW ((((wV bT x1)&&r6)&&r7)==true) (f206 x4 ((lM bT bO (default:Tq7) ([],false,false,false) x1).2.2.2)) fun(r8:Bool)=>
 some ((lM bT bO (default:Tq7) ([],false,false,false) x1).1,(lM bT bO (default:Tq7) ([],false,false,false) x1).2.1,(lM bT bO (default:Tq7) ([],false,false,false) x1).2.2.1,(lM bT bO (default:Tq7) ([],false,false,false) x1).2.2.2,((((wV bT x1)&&r6)&&r7)&&r8))
theorem f185_ok (x1:Int) (x2 x3 x4:List UInt8) (r:List UInt8×Bool×Bool×Bool×Bool) (h:f185 x1 x2 x3 x4=some r):aH Tryz.prog 185 [] [] [] [.agg [.int .i64 x1,.str x2,.str x3,.str x4]] (.tup [.agg [.str r.1,.bool r.2.1,.bool r.2.2.1,.bool r.2.2.2.1],.bool r.2.2.2.2]) []:=by
 unfold f185 at h;refine aH.bodyD [2] 0 _ _ Tryz.func185 rfl Tryz.ntmps185 rfl rfl ?_;refine bJ [] [] [1,2] [1,2] trivial ?_;refine AWp.seq ?_;obtain⟨r5,hr5,h⟩:=bind_ok h;refine cA [] [(0,⟨[],[],[],[],vM (V.int .i64) 0 gR aW bT bO,[],[],[]⟩),(3,⟨[vM (V.int .i64) 0 gR aW bT bO,.i x1],[],[],[],.tup [.agg [.str (lM bT bO aW ([],false,false,false) x1).1,.bool (lM bT bO aW ([],false,false,false) x1).2.1,.bool (lM bT bO aW ([],false,false,false) x1).2.2.1,.bool (lM bT bO aW ([],false,false,false) x1).2.2.2],.bool (wV bT x1)],[],[],[]⟩)] [1,2,4,5] [1,2,4] (an3 (cpT (f182_ok _ hr5)) (And.intro (tX (P:=Tryz.prog) Tryz.underlying261 Tryz.underlying3 (V.int .i64) 0 gR aW ([],false,false,false) (dK .i64) (fun _=>rfl) (by kernel_rfl) (.tmp 7) (.tmp 9) 266 bT bO x1) (eJ.same [vM (V.int .i64) 0 gR aW bT bO,.i x1])) trivial) ?_;refine tN (AWp.seq ?_);obtain⟨r6,hr6,h⟩:=cG h;obtain⟨r7,hr7,h⟩:=cG h;obtain⟨r8,hr8,h⟩:=cG h;have ob0:=idA ((vG x1)=true);have ob1:=idA ((vG x1)=true);have ob2:=idA ((vG x1)=true);have ob3:=idA ((vG x1)=true);have ob4:true=true→(wV bT x1)=true→(vG x1)=true:=fun _ h=>beq_iff_eq.2 h;have ob5:=idA (((iN x1 r6)==true)=true);have ob6:=idA (((iN x1 r6)==true)=true);have ob7:=idA (((iN x1 r6)==true)=true);have ob8:=idA (((iN x1 r6)==true)=true);have ob9:=bqA (iN x1 r6) true;have ob10:=idA ((((iN x1 r6)&&r7)==true)=true);have ob11:=idA ((((iN x1 r6)&&r7)==true)=true);have ob12:=idA ((((iN x1 r6)&&r7)==true)=true);have ob13:=idA ((((iN x1 r6)&&r7)==true)=true);have ob14:=bqA ((iN x1 r6)&&r7) true;refine aZ [] [(7,⟨[.str x2,.bool (lM bT bO aW ([],false,false,false) x1).2.1],[],[],[],.bool r6,[],[],[]⟩),(14,⟨[.str x3,.bool (lM bT bO aW ([],false,false,false) x1).2.2.1],[],[],[],.bool r7,[],[],[]⟩),(21,⟨[.str x4,.bool (lM bT bO aW ([],false,false,false) x1).2.2.2],[],[],[],.bool r8,[],[],[]⟩)] ⟨36,[(2,.ptr 2 0),(3,.bool (((iN x1 r6)&&r7)&&r8))],[(2,.cells 264 [.str (lM bT bO aW ([],false,false,false) x1).1,.bool (lM bT bO aW ([],false,false,false) x1).2.1,.bool (lM bT bO aW ([],false,false,false) x1).2.2.1,.bool (lM bT bO aW ([],false,false,false) x1).2.2.2])],[],0⟩ (ac6 (an1 ob0) (an1 ob1) (And.intro (cpC fun hc=>(xP _ _ _ (hr6 hc))) (an2 ob2 ob3)) ob4 (an1 ob5) (an1 ob6) (ac6 (And.intro (cpC fun hc=>(xP _ _ _ (hr7 hc))) (an2 ob7 ob8)) ob9 (an1 ob10) (an1 ob11) (And.intro (cpC fun hc=>(xP _ _ _ (hr8 hc))) (an2 ob12 ob13)) ob14 (an1 trivial))) ?_;refine tN ?_;have hret:=Option.some.inj h;subst hret;refine AWp.ret ?_;exact bR _ rfl ⟨rfl,rfl⟩ rfl
def f205 (x1:List Ty0) (x2:List UInt8):Option Ty0:=joinP x1 x2
theorem f205_ok (x1:List Ty0) (x2 r:List UInt8) (h:f205 x1 x2=some r):aH Tryz.prog 205 [] [] [] [vL 1 eS [] x1,.str x2] (.str r) []:=
 join_spec (fun a c sep w=>Any.strings_Join_none Tryz.lays156 Tryz.Builder_Extra_156 a c sep w) (fun bk o c xs sep w h1 h2 h3 h4 h5=>Any.strings_Join Tryz.lays156 Tryz.Builder_Extra_156 bk o c xs sep w h1 h2 h3 h4 h5) x1 x2 r h
def jX (x2 x3 x4:List UInt8) (K1:(List Ty0)→Option (List UInt8×Int)):Nat→(Nat×List Ty0)→Option (List UInt8×Int)
 |0,_=>none
 |k+1,(n6,l7)=>
  if(decide ((n6:Int)<(3:Int)))then(
  jn (fun(l8:List Ty0)=>
  chk (((n6:Int)+(1:Int))≤9223372036854775807)<|
  (jX x2 x3 x4 K1 k) ((n6+1),l8)
  ) fun(K2:(List Ty0)→Option (List UInt8×Int))=>
  chk ((n6:Int)<((([x2,x3,x4]).length:Nat):Int))<|
  chk (n6<([x2,x3,x4]).length)<|
  if(!(([x2,x3,x4].getD n6 [])==[]))then(
  chk (((l7).length+1) *16≤140737488355328)<|
  K2 (l7++[([x2,x3,x4].getD n6 [])])
  )else(
  K2 l7
  )
  )else(
  K1 l7
  )
abbrev aAg (n6:Nat):List (Nat×V):=[(6,.own 18),(25,.own 25),(26,.int .i64 (3:Int)),(27,.int .i64 (n6:Int))]
abbrev f184z1 :List (Nat×V):=[(6,.own 18),(25,.own 25),(26,.int .i64 (3:Int)),(27,.int .i64 (0:Int))]
def f184 (x1:Int) (x2 x3 x4:List UInt8):Option (List UInt8×Int):=
 (f185 x1 x2 x3 x4).bind fun(r5:List UInt8×Bool×Bool×Bool×Bool)=>
 if(!r5.2.2.2.2)then(
 some ([],(1:Int))
 )else(
 jn (fun(l9:List Ty0)=>
 (f205 l9 ([32]:List UInt8)).bind fun(r10:List UInt8)=>
 some (r10,(0:Int))
 ) fun(K1:(List Ty0)→Option (List UInt8×Int))=>
 jX x2 x3 x4 K1 bG (0,[r5.1])
 )
theorem f184_ok (x1:Int) (x2 x3 x4:List UInt8) (r:List UInt8×Int) (h:f184 x1 x2 x3 x4=some r):aH Tryz.prog 184 [] [] [] [.agg [.int .i64 x1,.str x2,.str x3,.str x4]] (.tup [.str r.1,.int .i64 r.2]) []:=by
 unfold f184 at h;refine aH.body 0 _ _ Tryz.func184 rfl Tryz.ntmps184 rfl rfl ?_;refine bJ [] [] [1] [1] trivial ?_;refine AWp.seq ?_;obtain⟨r5,hr5,h⟩:=bind_ok h;refine cA [] [(1,⟨[.agg [.i x1,.str x2,.str x3,.str x4]],[],[],[],.tup [.agg [.str r5.1,.bool r5.2.1,.bool r5.2.2.1,.bool r5.2.2.2.1],.bool r5.2.2.2.2],[],[],[]⟩)] [1,4,5] [1,4] (an2 (cpT (f185_ok _ _ _ _ _ hr5)) trivial) ?_;refine tN (AWp.seq ?_);refine bJ [] [] [1,4,15] [1,4] trivial ?_;refine AWp.cond (b:=(!r5.2.2.2.2)) (by kernel_rfl) (fun hc1=> ?_) (fun hc1=> ?_)
 ·
  replace h:=aE hc1 h;refine aU [] [] ⟨40,[(2,.str []),(3,.i (1:Int))],[],[],0⟩ trivial ?_;have hret:=Option.some.inj h;subst hret;refine AWp.ret (tR ?_);exact bR _ rfl ⟨rfl,rfl⟩ rfl
 ·
  replace h:=aF hc1 h;refine AWp.skip (tN ?_);refine aU [] [] ⟨40,[(1,.ptr 1 0),(6,.own 18)],[(1,.cells 164 [.i x1,.str x2,.str x3,.str x4]),(18,.rows 9 1 1 (dH 1 [.str r5.1]))],[],0⟩ trivial ?_;refine AWp.le (Le.mk (s':=⟨40,[(1,.ptr 1 0),(6,.own 18)],[(1,.cells 164 [.i x1,.str x2,.str x3,.str x4]),(18,aG [r5.1])],[],0⟩) rfl rfl ⟨.refl _,.refl _,trivial⟩ ⟨⟨_,rfl,.refl _⟩,⟨_,rfl,(BLe.of (RL.lst (enc:=eS) [r5.1] rfl rfl (fun _=>rfl)))⟩,trivial⟩) ?_;obtain⟨K1,hK1,h⟩:=aS h;refine AWp.join (α:=List Ty0) (fun(l9:List Ty0)=>⟨40,[(6,.own 18)],[(18,aG l9)],[],0⟩) (fun x=>K1 x=some r) ?_ ?_
  ·
   refine aU [] [] ⟨40,(f184z1),[(18,aG [r5.1]),(25,.rows 9 1 3 (dH 1 [.str x2,.str x3,.str x4]))],[],0⟩ trivial ?_;refine AWp.le (Le.mk (s':=⟨40,(f184z1),[(18,aG [r5.1]),(25,aG [x2,x3,x4])],[],0⟩) rfl rfl ⟨.refl _,.refl _,.refl _,.refl _,trivial⟩ ⟨⟨_,rfl,.refl _⟩,⟨_,rfl,(BLe.of (RL.lst (enc:=eS) [x2,x3,x4] rfl rfl (fun _=>rfl)))⟩,trivial⟩) ?_;refine AWp.block ?_;refine AWp.loopL (α:=Nat×(Nat×List Ty0)) (fun x=>match x with|(_,n6,l7)=>⟨40,(aAg n6),[(18,aG l7),(25,aG [x2,x3,x4])],[],0⟩) (fun x=>jX x2 x3 x4 K1 x.1 x.2=some r) (fun x=>x.1) (bG,0,[r5.1]) (LR (s':=⟨40,(f184z1),[(18,aG [r5.1]),(25,aG [x2,x3,x4])],[],0⟩)) h ?_
   rintro⟨k0,n6,l7⟩ h
   cases k0 with
   |zero=>exact nomatch (show none=some r from h)
   |succ k0=>
   obtain⟨C0,hC0⟩:∃C,C=jX x2 x3 x4 K1 k0:=⟨_,rfl⟩;replace h:=(jX.eq_2 ..).symm.trans h
   try rw[←hC0]at h
   refine aU [] [] ⟨40,[(6,.own 18),(25,.own 25),(26,.i (3:Int)),(27,.i (n6:Int)),(28,.bool (decide ((n6:Int)<(3:Int))))],[(18,aG l7),(25,aG [x2,x3,x4])],[],0⟩ trivial ?_;refine AWp.seq ?_;refine AWp.cond (b:=(decide ((n6:Int)<(3:Int)))) (by kernel_rfl) (fun hc2=> ?_) (fun hc2=> ?_)
   ·
    replace h:=aE hc2 h;refine AWp.skip (tN ?_);obtain⟨K2,hK2,h⟩:=aS h;refine AWp.join (α:=List Ty0) (fun(l8:List Ty0)=>⟨40,(aAg n6),[(18,aG l8),(25,aG [x2,x3,x4])],[],0⟩) (fun x=>K2 x=some r) ?_ ?_
    ·
     refine AWp.block (AWp.seq ?_);obtain⟨ob0p,h⟩:=aB h;have ob0:0≤(n6:Int)∧(n6:Int)<((([x2,x3,x4]).length:Nat):Int):=⟨by omega,ob0p⟩;obtain⟨ob1,h⟩:=aB h;refine cA [] [] [6,8,25,26,27] [18,25] (an2 ob0 ob1) ?_;refine tN ?_;refine aU [] [] ⟨40,[(6,.own 18),(8,.str ([x2,x3,x4].getD n6 [])),(25,.own 25),(26,.i (3:Int)),(27,.i (n6:Int)),(32,.bool (!(([x2,x3,x4].getD n6 [])==[])))],[(18,aG l7),(25,aG [x2,x3,x4])],[],0⟩ trivial ?_;refine AWp.cond (b:=(!(([x2,x3,x4].getD n6 [])==[]))) (by kernel_rfl) (fun hc3=> ?_) (fun hc3=> ?_)
     ·
      replace h:=aE hc3 h;obtain⟨ob2,h⟩:=aB h;refine aZ [] [] ⟨40,(aAg n6),[(18,.rows 9 1 ((l7).length+1) (gF (l7).length (cD eS [] l7) (dH 1 [.str ([x2,x3,x4].getD n6 [])]))),(25,aG [x2,x3,x4])],[],0⟩ (an1 ob2) ?_;refine kN ?_;exact jN ((l7++[([x2,x3,x4].getD n6 [])])) (Le.trans (Le.mk (s':=⟨40,(aAg n6),[(18,aG (l7++[([x2,x3,x4].getD n6 [])])),(25,aG [x2,x3,x4])],[],0⟩) rfl rfl ⟨.refl _,.refl _,.refl _,.refl _,trivial⟩ ⟨⟨_,rfl,(BLe.of (RL.app (RL.self _) (RL.lst (enc:=eS) [([x2,x3,x4].getD n6 [])] rfl rfl (fun _=>rfl))))⟩,⟨_,rfl,.refl _⟩,trivial⟩) LR) h
     ·
      replace h:=aF hc3 h;refine AWp.skip (kN ?_);exact jN (l7) LR h
    ·
     rintro l8 h;replace h:=(congrFun hK2 _).symm.trans h;obtain⟨ob3p,h⟩:=aB h;have ob3: -9223372036854775808≤((n6:Int)+(1:Int))∧((n6:Int)+(1:Int))≤9223372036854775807:=⟨by omega,ob3p⟩;refine aZ [] [] ⟨40,[(6,.own 18),(25,.own 25),(26,.i (3:Int)),(27,.i (((n6+1):Nat):Int))],[(18,aG l8),(25,aG [x2,x3,x4])],[],0⟩ (an1 ob3) ?_;rw[hC0]at h;exact lN (_,(n6+1),l8) LR h (Nat.lt_succ_self _)
   ·
    replace h:=aF hc2 h;refine AWp.exit (tE (tE (kS ?_)));exact jN (l7) LR h
  ·
   rintro l9 h;replace h:=(congrFun hK1 _).symm.trans h;refine AWp.seq ?_;obtain⟨r10,hr10,h⟩:=bind_ok h;refine aZ [] [(1,⟨[cS l9,.str ([32]:List UInt8)],[],[],[],.str r10,[],[18],[]⟩)] ⟨40,[(2,.str r10),(3,.i (0:Int))],[],[],0⟩ (an1 (cpL (c:=true) [(18,aG l9)] [18] [.own 18,.str ([32]:List UInt8)] (fun _=>(f205_ok _ _ _ hr10)) (fun _=>⟨.refl _,.refl _,trivial⟩) (.inr ⟨rfl,trivial⟩))) ?_;refine tN ?_;have hret:=Option.some.inj h;subst hret;refine AWp.ret ?_;exact bR _ rfl ⟨rfl,rfl⟩ rfl
def fT (x1:List UInt8) (K1:Unit→Option Tq8):Nat→(List Ty0×List Nat)→Option Tq8
 |0,_=>none
 |k+1,(l4,l5)=>
  aAW bT.length l5 (fun(j6:Nat)=>
  chk ((0:Int)<(((l4).length:Nat):Int))<|
  if(!(((bO.getD j6 (default:Tq7)).1)==(l4.getD 0 [])))then(
  (fT x1 K1 k) (l4,(l5++[j6]))
  )else(
  chk ((1:Int)≤(((l4).length:Nat):Int))<|
  (f183 ((bO.getD j6 (default:Tq7)).2.1) (l4.drop 1)).bind fun(r7:List UInt8×List Ty0)=>
  (f183 ((bO.getD j6 (default:Tq7)).2.2.1) r7.2).bind fun(r8:List UInt8×List Ty0)=>
  (f183 ((bO.getD j6 (default:Tq7)).2.2.2) r8.2).bind fun(r9:List UInt8×List Ty0)=>
  (f184 (bT.getD j6 0) r7.1 r8.1 r9.1).bind fun(r10:List UInt8×Int)=>
  if((r10.2==(0:Int))&&(r10.1==x1))then(
  some ((bT.getD j6 0),r7.1,r8.1,r9.1,(0:Int))
  )else(
  (fT x1 K1 k) (l4,(l5++[j6]))
  )
  )
  ) (
  K1 ()
  )
abbrev iO :List V:=[.int .i64 (0:Int),.str [],.str [],.str []]
def f152 (x1:List UInt8):Option Tq8:=
 (f181 x1 ([32]:List UInt8)).bind fun(r2:List Ty0)=>
 jn (fun(_:Unit)=>
 some ((0:Int),[],[],[],(2:Int))
 ) fun(K1:Unit→Option Tq8)=>
 (f182).bind fun(r3:Unit)=>
 fT x1 K1 bG (r2,[])
theorem f152_ok (x1:List UInt8) (r:Tq8) (h:f152 x1=some r):aH Tryz.prog 152 [] [] [] [.str x1] (.tup [.agg [.int .i64 r.1,.str r.2.1,.str r.2.2.1,.str r.2.2.2.1],.int .i64 r.2.2.2.2]) []:=by
 unfold f152 at h;refine aH.bodyD [2] 0 _ _ Tryz.func152 rfl Tryz.ntmps152 rfl rfl ?_;refine bJ [] [] [0,2] [2] trivial ?_;refine AWp.seq ?_;obtain⟨r2,hr2,h⟩:=bind_ok h;refine aZ [] [(1,⟨[.str x1,.str ([32]:List UInt8)],[],[],[(6001,aG r2)],.own 6001,[6001],[],[]⟩)] ⟨61,[(0,.str x1),(2,.ptr 2 0),(4,.own 6001)],[(2,.cells 164 (iO)),(6001,aG r2)],[],0⟩ (an1 (cpT (aH.ren (bA 3000 6001) (aD 3000 6001) rfl (f181_ok _ _ _ hr2)))) ?_;refine tN ?_;obtain⟨K1,hK1,h⟩:=aS h;refine AWp.join (fun(x:Unit)=>match x with|()=>⟨61,[(2,.ptr 2 0)],[(2,.cells 164 (iO))],[],0⟩) (fun x=>K1 x=some r) ?_ ?_
 ·
  refine AWp.seq ?_;obtain⟨r3,hr3,h⟩:=bind_ok h;refine aZ [] [(0,⟨[],[],[],[],vM (V.int .i64) 0 gR aW bT bO,[],[],[]⟩),(1,⟨[vM (V.int .i64) 0 gR aW bT bO],[],[],[(15,iM (V.int .i64) 0 gR aW bT bO [])],.own 15,[15],[],[]⟩)] ⟨61,[(0,.str x1),(2,.ptr 2 0),(4,.own 6001),(15,.own 15)],[(2,.cells 164 (iO)),(15,iM (V.int .i64) 0 gR aW bT bO []),(6001,aG r2)],[],0⟩ (an2 (cpT (f182_ok _ hr3)) (And.intro (wQ (P:=Tryz.prog) Tryz.underlying261 (.tmp 14) 0 15 (V.int .i64) 0 gR aW bT bO) (eJ.same [vM (V.int .i64) 0 gR aW bT bO]))) ?_;refine tN (AWp.block ?_);refine AWp.loopL (α:=Nat×(List Ty0×List Nat)) (fun x=>match x with|(_,l4,l5)=>⟨61,[(0,.str x1),(2,.ptr 2 0),(4,cS l4),(15,.own 15)],[(2,.cells 164 (iO)),(15,iM (V.int .i64) 0 gR aW bT bO l5)],[],0⟩) (fun x=>fT x1 K1 x.1 x.2=some r) (fun x=>x.1) (bG,r2,[]) (Le.trans (Le.trans (Le.freeze 6001 rfl rfl) (LR (s':=⟨61,[(0,.str x1),(2,.ptr 2 0),(4,cS r2),(15,.own 15)],[(2,.cells 164 (iO)),(15,iM (V.int .i64) 0 gR aW bT bO [])],[],0⟩))) (LR (s':=⟨61,[(0,.str x1),(2,.ptr 2 0),(4,cS r2),(15,.own 15)],[(2,.cells 164 (iO)),(15,iM (V.int .i64) 0 gR aW bT bO [])],[],0⟩))) h ?_
  rintro⟨k0,l4,l5⟩ h
  cases k0 with
  |zero=>exact nomatch (show none=some r from h)
  |succ k0=>
  obtain⟨C0,hC0⟩:∃C,C=fT x1 K1 k0:=⟨_,rfl⟩;replace h:=(fT.eq_2 ..).symm.trans h
  try rw[←hC0]at h
  refine AWp.seq ?_;refine AWp.nextR 15 (V.int .i64) 0 gR aW bT bO l5 rfl rfl rfl rfl rfl (fun j6 hj6 hsj6=> ?_) (fun hall=> ?_)
  ·
   replace h:=(qE h).1 j6 hj6 hsj6;refine tN (AWp.seq ?_);refine AWp.cond (b:=true) (by kernel_rfl) (fun hc=> ?_) (fun hc=> ?_)
   ·
    clear hc;refine AWp.skip (tN (AWp.block ?_));refine bJ [] [(0,⟨[.own 15],[15],[15],[(15,iM (V.int .i64) 0 gR aW bT bO (l5++[j6]))],.tup [.i (bT.getD j6 0),.agg [.str (bO.getD j6 aW).1,.bool (bO.getD j6 aW).2.1,.bool (bO.getD j6 aW).2.2.1,.bool (bO.getD j6 aW).2.2.2]],[],[],[]⟩)] [0,2,4,5,6,15] [2,6,15] (an2 (And.intro (yB (P:=Tryz.prog) (.tmp 15) 0 15 (V.int .i64) 0 gR aW bT bO l5 j6 hj6) (eJ.same [.own 15])) trivial) ?_;refine AWp.seq (AWp.seq ?_);obtain⟨ob0p,h⟩:=aB h;have ob0:0≤(0:Int)∧(0:Int)<(((l4).length:Nat):Int):=⟨by omega,ob0p⟩;refine aZ [] [] ⟨61,[(0,.str x1),(2,.ptr 2 0),(4,cS l4),(5,.i (bT.getD j6 0)),(6,.ptr 6 0),(15,.own 15),(26,.bool (!(((bO.getD j6 aW).1)==(l4.getD 0 []))))],[(2,.cells 164 (iO)),(6,.cells 264 [.str (bO.getD j6 aW).1,.bool (bO.getD j6 aW).2.1,.bool (bO.getD j6 aW).2.2.1,.bool (bO.getD j6 aW).2.2.2]),(15,iM (V.int .i64) 0 gR aW bT bO (l5++[j6]))],[],0⟩ (an1 ob0) ?_;refine tN ?_;refine AWp.cond (b:=(!(((bO.getD j6 aW).1)==(l4.getD 0 [])))) (by kernel_rfl) (fun hc1=> ?_) (fun hc1=> ?_)
    ·
     replace h:=aE hc1 h;refine AWp.exit (tE (kS ?_));rw[hC0]at h;exact lN (_,l4,(l5++[j6])) LR h (Nat.lt_succ_self _)
    ·
     replace h:=aF hc1 h;refine AWp.skip (tN (AWp.seq ?_));obtain⟨ob1p,h⟩:=aB h;have ob1:0≤(1:Int)∧(1:Int)≤(((l4).length:Nat):Int):=⟨by omega,ob1p⟩;refine aZ [] [] ⟨61,[(0,.str x1),(2,.ptr 2 0),(4,cS l4),(6,.ptr 6 0),(7,.ptr 7 0),(8,.ptr 8 0),(15,.own 15)],[(2,.cells 164 (iO)),(6,.cells 264 [.str (bO.getD j6 aW).1,.bool (bO.getD j6 aW).2.1,.bool (bO.getD j6 aW).2.2.1,.bool (bO.getD j6 aW).2.2.2]),(7,.cells 164 [.i (bT.getD j6 0),.str [],.str [],.str []]),(8,.cells 29 [.arr 1 ((l4).length-1) (fun i j=>(cD eS [] l4) (i+1) j)]),(15,iM (V.int .i64) 0 gR aW bT bO (l5++[j6]))],[],0⟩ (an3 ob1 trivial trivial) ?_;refine tN ?_;refine AWp.le (Le.mk (s':=⟨61,[(0,.str x1),(2,.ptr 2 0),(4,cS l4),(6,.ptr 6 0),(7,.ptr 7 0),(8,.ptr 8 0),(15,.own 15)],[(2,.cells 164 (iO)),(6,.cells 264 [.str (bO.getD j6 aW).1,.bool (bO.getD j6 aW).2.1,.bool (bO.getD j6 aW).2.2.1,.bool (bO.getD j6 aW).2.2.2]),(7,.cells 164 [.i (bT.getD j6 0),.str [],.str [],.str []]),(8,.cells 29 [cS (l4.drop 1)]),(15,iM (V.int .i64) 0 gR aW bT bO (l5++[j6]))],[],0⟩) rfl rfl ⟨.refl _,.refl _,.refl _,.refl _,.refl _,.refl _,.refl _,trivial⟩ ⟨⟨_,rfl,.refl _⟩,⟨_,rfl,.refl _⟩,⟨_,rfl,.refl _⟩,⟨_,rfl,(.cellsL ⟨VLe.dropL,trivial⟩)⟩,⟨_,rfl,.refl _⟩,trivial⟩) ?_;refine bJ [] [] [0,2,4,6,7,9,15] [2,6,7,8,15] trivial ?_;refine AWp.seq ?_;obtain⟨r7,hr7,h⟩:=bind_ok h;obtain⟨r8,hr8,h⟩:=bind_ok h;obtain⟨r9,hr9,h⟩:=bind_ok h;refine cA [] [(3,⟨[.bool (bO.getD j6 aW).2.1,.ptr 8 0],[8],[8],[(8,.cells 29 [cS r7.2])],.str r7.1,[],[],[]⟩),(7,⟨[.bool (bO.getD j6 aW).2.2.1,.ptr 8 0],[8],[8],[(8,.cells 29 [cS r8.2])],.str r8.1,[],[],[]⟩),(11,⟨[.bool (bO.getD j6 aW).2.2.2,.ptr 8 0],[8],[8],[(8,.cells 29 [cS r9.2])],.str r9.1,[],[],[]⟩)] [0,2,4,7,15] [2,7,15] (an6 (cpT (aH.ren (bA 2000 8) (aD 2000 8) rfl (xS _ _ _ hr7))) (cpT (aH.ren (bA 2000 8) (aD 2000 8) rfl (xS _ _ _ hr8))) (cpT (aH.ren (bA 2000 8) (aD 2000 8) rfl (xS _ _ _ hr9))) trivial trivial trivial) ?_;refine tN (AWp.seq ?_);obtain⟨r10,hr10,h⟩:=bind_ok h;refine cA [] [(1,⟨[.agg [.i (bT.getD j6 0),.str r7.1,.str r8.1,.str r9.1]],[],[],[],.tup [.str r10.1,.i r10.2],[],[],[]⟩)] [0,2,4,7,10,11,15] [2,7,15] (an1 (cpT (f184_ok _ _ _ _ _ hr10))) ?_;refine tN (AWp.seq ?_);have ob2:=idA (((r10.2==(0:Int))==true)=true);have ob3:=idA (((r10.2==(0:Int))==true)=true);have ob4:=bqA (r10.2==(0:Int)) true;refine aZ [] [] ⟨61,[(0,.str x1),(2,.ptr 2 0),(4,cS l4),(7,.ptr 7 0),(15,.own 15),(58,.bool ((r10.2==(0:Int))&&(r10.1==x1)))],[(2,.cells 164 (iO)),(7,.cells 164 [.i (bT.getD j6 0),.str r7.1,.str r8.1,.str r9.1]),(15,iM (V.int .i64) 0 gR aW bT bO (l5++[j6]))],[],0⟩ (an2 (an2 ob2 ob3) ob4) ?_;refine tN ?_;refine AWp.cond (b:=((r10.2==(0:Int))&&(r10.1==x1))) (by kernel_rfl) (fun hc2=> ?_) (fun hc2=> ?_)
     ·
      replace h:=aE hc2 h;refine aU [] [] ⟨61,[(2,.ptr 2 0),(3,.i (0:Int))],[(2,.cells 164 [.i (bT.getD j6 0),.str r7.1,.str r8.1,.str r9.1])],[],0⟩ (an1 trivial) ?_;have hret:=Option.some.inj h;subst hret;refine AWp.ret (kR (tR (kR (aY ?_))));exact bR _ rfl ⟨rfl,rfl⟩ rfl
     ·
      replace h:=aF hc2 h;refine AWp.skip (kN ?_);rw[hC0]at h;exact lN (_,l4,(l5++[j6])) LR h (Nat.lt_succ_self _)
   ·
    cases hc
  ·
   replace h:=(qE h).2 hall;refine tN (AWp.seq ?_);refine AWp.cond (b:=false) (by kernel_rfl) (fun hc=> ?_) (fun hc=> ?_)
   ·
    cases hc
   ·
    clear hc;refine AWp.exit (tE (tE (kS ?_)));exact jN () LR h
 ·
  rintro⟨⟩ h;replace h:=(congrFun hK1 _).symm.trans h;refine aU [] [] ⟨61,[(2,.ptr 2 0),(3,.i (2:Int))],[(2,.cells 164 (iO))],[],0⟩ (an1 trivial) ?_;have hret:=Option.some.inj h;subst hret;refine AWp.ret ?_;exact bR _ rfl ⟨rfl,rfl⟩ rfl
def f220 (x1 x2:List UInt8):Option Int:=some (Lib.compareBytes x1 x2)
theorem f220_ok (x1 x2:List UInt8) (r:Int) (h:f220 x1 x2=some r):aH Tryz.prog 220 [] [] [] [.str x1,.str x2] (.int .i64 r) []:=str2_spec Lib.compareBytes cmpString x1 x2 r h
def f209 (x1 x2:List UInt8):Option Int:=
 (f220 x1 x2).bind fun(r3:Int)=>
 some r3
theorem f209_ok (x1 x2:List UInt8) (r:Int) (h:f209 x1 x2=some r):aH Tryz.prog 209 [] [] [] [.str x1,.str x2] (.int .i64 r) []:=by
 unfold f209 at h;refine aH.body 0 _ _ Tryz.func209 rfl Tryz.ntmps209 rfl rfl ?_;refine bJ [] [] [0,1] [] trivial ?_;refine AWp.seq ?_;obtain⟨r3,hr3,h⟩:=bind_ok h;refine aZ [] [(2,⟨[.str x1,.str x2],[],[],[],.i r3,[],[],[]⟩)] ⟨8,[(4,.i r3)],[],[],0⟩ (an1 (cpT (f220_ok _ _ _ hr3))) ?_;refine tN ?_;have hret:=Option.some.inj h;subst hret;refine AWp.ret ?_;exact bR _ rfl ⟨rfl,rfl⟩ rfl
def f208 (x1 x2:List UInt8) (x3:Int) (x4:List UInt8):Option Int:=
 (f209 x1 x4).bind fun(r5:Int)=>
 some r5
theorem f208_ok (x1 x2:List UInt8) (x3:Int) (x4:List UInt8) (r:Int) (h:f208 x1 x2 x3 x4=some r):aH Tryz.prog 208 [] [] [] [.agg [.str x1,.str x2,.int .i64 x3],.str x4] (.int .i64 r) []:=by
 unfold f208 at h;refine aH.body 0 _ _ Tryz.func208 rfl Tryz.ntmps208 rfl rfl ?_;refine bJ [] [] [1,2] [2] trivial ?_;refine AWp.seq ?_;obtain⟨r5,hr5,h⟩:=bind_ok h;refine aZ [] [(3,⟨[.str x1,.str x4],[],[],[],.i r5,[],[],[]⟩)] ⟨9,[(4,.i r5)],[],[],0⟩ (an1 (cpT (f209_ok _ _ _ hr5))) ?_;refine tN ?_;have hret:=Option.some.inj h;subst hret;refine AWp.ret ?_;exact bR _ rfl ⟨rfl,rfl⟩ rfl
def gK (x1:List Tq1) (x2:List UInt8) (K1:Int→Option Tq4):Nat→Tq2→Option Tq4
 |0,_=>none
 |k+1,(i3,i4)=>
  if(decide (i3<i4))then(
  chk (-9223372036854775808≤(i3+i4)∧(i3+i4)≤9223372036854775807)<|
  chk (0≤(i3+i4)∧(i3+i4)≤18446744073709551615)<|
  chk (1≤IntKind.bits .u64)<|
  chk (-9223372036854775808≤((i3+i4)/2^1)∧((i3+i4)/2^1)≤9223372036854775807)<|
  (f208 ((x1.getD ((((i3+i4)/2^1)).toNat) (default:Tq1)).1) ((x1.getD ((((i3+i4)/2^1)).toNat) (default:Tq1)).2.1) ((x1.getD ((((i3+i4)/2^1)).toNat) (default:Tq1)).2.2) x2).bind fun(r5:Int)=>
  chk (0≤((i3+i4)/2^1)∧((i3+i4)/2^1)<(((x1).length:Nat):Int))<|
  if(decide (r5<(0:Int)))then(
  chk (-9223372036854775808≤(((i3+i4)/2^1)+(1:Int))∧(((i3+i4)/2^1)+(1:Int))≤9223372036854775807)<|
  (gK x1 x2 K1 k) ((((i3+i4)/2^1)+(1:Int)),i4)
  )else(
  (gK x1 x2 K1 k) (i3,((i3+i4)/2^1))
  )
  )else(
  K1 i3
  )
def f207 (x1:List Tq1) (x2:List UInt8):Option Tq4:=
 jn (fun(i6:Int)=>
 gW ((decide (i6<(((x1).length:Nat):Int)))==true) (f208 ((x1.getD ((i6).toNat) (default:Tq1)).1) ((x1.getD ((i6).toNat) (default:Tq1)).2.1) ((x1.getD ((i6).toNat) (default:Tq1)).2.2) x2) fun(r7:Int)=>
 chk (((decide (i6<(((x1).length:Nat):Int)))==true)=true→0≤i6∧i6<(((x1).length:Nat):Int))<|
 some (i6,((decide (i6<(((x1).length:Nat):Int)))&&(r7==(0:Int))))
 ) fun(K1:Int→Option Tq4)=>
 gK x1 x2 K1 bG ((0:Int),(((x1).length:Nat):Int))
theorem f207_ok (x1:List Tq1) (x2:List UInt8) (r:Tq4) (h:f207 x1 x2=some r):aH Tryz.prog 207 [] [] [] [vL 3 cH (default:Tq1) x1,.str x2,.fn (.func 208) []] (.tup [.int .i64 r.1,.bool r.2]) []:=by
 unfold f207 at h;refine aH.body 0 _ _ Tryz.func207 rfl Tryz.ntmps207 rfl rfl ?_;refine bJ [] [] [0,1,2] [] trivial ?_;refine bJ [] [] [0,1,2,8] [] trivial ?_;refine aU [] [] ⟨49,[(0,aV x1),(1,.str x2),(2,.fn (.func 208) []),(8,.i (lZ x1)),(9,.i (0:Int)),(10,.i (lZ x1))],[],[],0⟩ trivial ?_;obtain⟨K1,hK1,h⟩:=aS h;refine AWp.join (α:=Int) (fun(i6:Int)=>⟨49,[(0,aV x1),(1,.str x2),(2,.fn (.func 208) []),(8,.i (lZ x1)),(9,.i i6)],[],[],0⟩) (fun x=>K1 x=some r) ?_ ?_
 ·
  refine AWp.block ?_;refine AWp.loopL (α:=Nat×Tq2) (fun x=>match x with|(_,i3,i4)=>⟨49,[(0,aV x1),(1,.str x2),(2,.fn (.func 208) []),(8,.i (lZ x1)),(9,.i i3),(10,.i i4)],[],[],0⟩) (fun x=>gK x1 x2 K1 x.1 x.2=some r) (fun x=>x.1) (bG,(0:Int),(lZ x1)) (LR (s':=⟨49,[(0,aV x1),(1,.str x2),(2,.fn (.func 208) []),(8,.i (lZ x1)),(9,.i (0:Int)),(10,.i (lZ x1))],[],[],0⟩)) h ?_
  rintro⟨k0,i3,i4⟩ h
  cases k0 with
  |zero=>exact nomatch (show none=some r from h)
  |succ k0=>
  obtain⟨C0,hC0⟩:∃C,C=gK x1 x2 K1 k0:=⟨_,rfl⟩;replace h:=(gK.eq_2 ..).symm.trans h
  try rw[←hC0]at h
  refine AWp.seq ?_;refine aU [] [] ⟨49,[(0,aV x1),(1,.str x2),(2,.fn (.func 208) []),(8,.i (lZ x1)),(9,.i i3),(10,.i i4),(17,.bool (decide (i3<i4)))],[],[],0⟩ trivial ?_;refine AWp.cond (b:=(decide (i3<i4))) (by kernel_rfl) (fun hc1=> ?_) (fun hc1=> ?_)
  ·
   replace h:=aE hc1 h;refine AWp.skip (tN (AWp.block (AWp.seq ?_)));obtain⟨ob0,ob1,ob2p,h⟩:=ck3 h;have ob2:0≤(1:Int)∧1≤IntKind.bits .u64:=⟨by omega,ob2p⟩;obtain⟨ob3,h⟩:=aB h;refine cA [] [] [0,1,2,8,9,10,11] [] (an4 ob0 ob1 ob2 ob3) ?_;refine tN (AWp.seq ?_);obtain⟨r5,hr5,h⟩:=bind_ok h;obtain⟨ob4,h⟩:=aB h;refine cA [] [(6,⟨[.agg [.str (x1.getD ((((i3+i4)/2^1)).toNat) aN).1,.str (x1.getD ((((i3+i4)/2^1)).toNat) aN).2.1,.i (x1.getD ((((i3+i4)/2^1)).toNat) aN).2.2],.str x2],[],[],[],.i r5,[],[],[]⟩)] [0,1,2,8,9,10,11,31] [] (an2 ob4 (cpT (f208_ok _ _ _ _ _ hr5))) ?_;refine tN ?_;refine AWp.cond (b:=(decide (r5<(0:Int)))) (by kernel_rfl) (fun hc2=> ?_) (fun hc2=> ?_)
   ·
    replace h:=aE hc2 h;obtain⟨ob5,h⟩:=aB h;refine aZ [] [] ⟨49,[(0,aV x1),(1,.str x2),(2,.fn (.func 208) []),(8,.i (lZ x1)),(9,.i (((i3+i4)/2^1)+(1:Int))),(10,.i i4)],[],[],0⟩ (an1 ob5) ?_;refine kN ?_;rw[hC0]at h;exact lN (_,(((i3+i4)/2^1)+(1:Int)),i4) LR h (Nat.lt_succ_self _)
   ·
    replace h:=aF hc2 h;refine aZ [] [] ⟨49,[(0,aV x1),(1,.str x2),(2,.fn (.func 208) []),(8,.i (lZ x1)),(9,.i i3),(10,.i ((i3+i4)/2^1))],[],[],0⟩ trivial ?_;refine kN ?_;rw[hC0]at h;exact lN (_,i3,((i3+i4)/2^1)) LR h (Nat.lt_succ_self _)
  ·
   replace h:=aF hc1 h;refine AWp.exit (tE (tE (kS ?_)));exact jN (i3) LR h
 ·
  rintro i6 h;replace h:=(congrFun hK1 _).symm.trans h;refine AWp.seq ?_;obtain⟨r7,hr7,h⟩:=cG h;obtain⟨ob6,h⟩:=aB h;have ob7:=idA (((decide (i6<(lZ x1)))==true)=true);have ob8:=idA (((decide (i6<(lZ x1)))==true)=true);have ob9:=idA (((decide (i6<(lZ x1)))==true)=true);have ob10:=idA (((decide (i6<(lZ x1)))==true)=true);have ob11:=idA (((decide (i6<(lZ x1)))==true)=true);have ob12:=idA (((decide (i6<(lZ x1)))==true)=true);have ob13:=idA (((decide (i6<(lZ x1)))==true)=true);have ob14:=bqA (decide (i6<(lZ x1))) true;refine aZ [] [(11,⟨[.agg [.str (x1.getD ((i6).toNat) aN).1,.str (x1.getD ((i6).toNat) aN).2.1,.i (x1.getD ((i6).toNat) aN).2.2],.str x2],[],[],[],.i r7,[],[],[]⟩)] ⟨49,[(6,.i i6),(7,.bool ((decide (i6<(lZ x1)))&&(r7==(0:Int))))],[],[],0⟩ (an5 (And.intro ob6 (an2 ob7 ob8)) (an1 ob9) (And.intro (cpC fun hc=>(f208_ok _ _ _ _ _ (hr7 hc))) (an3 ob10 ob11 ob12)) (an1 ob13) ob14) ?_;refine tN ?_;have hret:=Option.some.inj h;subst hret;refine AWp.ret ?_;exact bR _ rfl ⟨rfl,rfl⟩ rfl
def f186 (x1:List Tq1) (x2:List UInt8):Option Tq4:=
 (f207 x1 x2).bind fun(r3:Tq4)=>
 some (r3.1,r3.2)
theorem f186_ok (x1:List Tq1) (x2:List UInt8) (r:Tq4) (h:f186 x1 x2=some r):aH Tryz.prog 186 [] [] [] [vL 3 cH (default:Tq1) x1,.str x2] (.tup [.int .i64 r.1,.bool r.2]) []:=by
 unfold f186 at h;refine aH.body 0 _ _ Tryz.func186 rfl Tryz.ntmps186 rfl rfl ?_;refine bJ [] [] [0,1] [] trivial ?_;refine AWp.seq ?_;obtain⟨r3,hr3,h⟩:=bind_ok h;refine aZ [] [(2,⟨[aV x1,.str x2,.fn (.func 208) []],[],[],[],.tup [.i r3.1,.bool r3.2],[],[],[]⟩)] ⟨11,[(4,.i r3.1),(5,.bool r3.2)],[],[],0⟩ (an1 (cpT (f207_ok _ _ _ hr3))) ?_;refine tN ?_;have hret:=Option.some.inj h;subst hret;refine AWp.ret ?_;exact bR _ rfl ⟨rfl,rfl⟩ rfl
def f189 (x1:List Tq1):Option Ty4:=
 abc ((x1).length=0) (
 some []
 ) (
 chk ((0+(x1).length) *40≤140737488355328)<|
 some ([]++x1)
 )
theorem f189_ok (x1 r:List Tq1) (h:f189 x1=some r):aH Tryz.prog 189 [] [] [] [vL 3 cH (default:Tq1) x1] (.own 3000) [(3000,bL 202 3 cH (default:Tq1) r)]:=by
 unfold f189 at h;refine aH.body 0 _ _ Tryz.func189 rfl Tryz.ntmps189 rfl rfl ?_;refine bJ [] [] [0] [] trivial ?_;refine AWp.seq ?_;refine aU [] [] ⟨8,[(0,aV x1),(4,.abool (fun b=>b=true→(x1).length=0))],[],[],0⟩ trivial ?_;obtain⟨hA1,hB1⟩:=aAC h;refine AWp.condAb (fun b=>b=true→(x1).length=0) (by kernel_rfl) (fun hc1=> ?_) (fun hc1=> ?_)
 ·
  have h:=hA1 (hc1 rfl);refine aU [] [] ⟨8,[(2,.nils)],[],[],0⟩ trivial ?_;refine AWp.le (Le.trans (Le.nilOwn 2 3000 202 3 (cD cH aN []) rfl rfl (Nat.le_of_ble_eq_true rfl)) (LR (s':=⟨8,[(2,.own 3000)],[(3000,aP [])],[],0⟩))) ?_;have hret:=Option.some.inj h;subst hret;refine AWp.le (LR (s':=⟨8,[(2,.own 3000)],[(3000,aP [])],[],0⟩)) ?_;refine AWp.ret (tR ?_);exact bR _ rfl ⟨rfl,rfl⟩ rfl
 ·
  have h:=hB1;refine AWp.skip (tN (AWp.seq ?_));obtain⟨ob0,h⟩:=aB h;refine aZ [] [] ⟨8,[(2,.own 5)],[(5,.rows 202 3 (0+(x1).length) (gF 0 (dH 3 []) (cD cH aN x1)))],[],0⟩ (an1 ob0) ?_;refine tN ?_;refine AWp.le (Le.mk (s':=⟨8,[(2,.own 5)],[(5,aP ([]++x1))],[],0⟩) rfl rfl ⟨.refl _,trivial⟩ ⟨⟨_,rfl,(BLe.of (RL.app (RL.lst (enc:=cH) [] rfl rfl (fun _=>rfl)) (RL.self _)))⟩,trivial⟩) ?_;refine AWp.le (Le.trans (Le.ren (bA 5 3000) (aD 5 3000) rfl) (LR (s':=⟨8,[(2,.own 3000)],[(3000,aP ([]++x1))],[],0⟩))) ?_;have hret:=Option.some.inj h;subst hret;refine AWp.le (LR (s':=⟨8,[(2,.own 3000)],[(3000,aP ([]++x1))],[],0⟩)) ?_;refine AWp.ret ?_;exact bR _ rfl ⟨rfl,rfl⟩ rfl
abbrev f210z0 (x2 x3:List Tq1):aK:=[(2000,bL 202 3 cH (default:Tq1) x2),(2001,bL 202 3 cH (default:Tq1) x3)]
def f210e (x1:Int) (x2 x3:List Tq1):Option (Ty4×Ty4):=
 chk (0≤x1∧x1≤(((x2).length:Nat):Int))<|
 if((((x3).length:Nat):Int)==(0:Int))then(
 some (x2,x3)
 )else(
 if(x1==(((x2).length:Nat):Int))then(
 chk (((x2).length+(x3).length) *40≤140737488355328)<|
 some ((x2++x3),x3)
 )else(

 none
 )
 )
theorem f210e_ok (x1:Int) (x2 x3:List Tq1) (r:Ty4×Ty4) (h:f210e x1 x2 x3=some r):aH Tryz.prog 210 [] [2001] [(2000,bL 202 3 cH (default:Tq1) x2),(2001,bL 202 3 cH (default:Tq1) x3)] [.own 2000,.int .i64 x1,.own 2001] (.own 2000) [(2000,bL 202 3 cH (default:Tq1) r.1),(2001,bL 202 3 cH (default:Tq1) r.2)]:=by
 unfold f210e at h;refine aH.body 0 _ _ Tryz.func210 rfl Tryz.ntmps210 rfl rfl ?_;refine bJ [] [] [0,1,2] [2000,2001] trivial ?_;refine AWp.seq ?_;obtain⟨ob0,h⟩:=aB h;refine cA [] [] [0,1,2] [2000,2001] (an1 ob0) ?_;refine tN ?_;refine bJ [] [] [0,1,2,7] [2000,2001] trivial ?_;refine AWp.seq ?_;refine bJ [] [] [0,1,2,7,16] [2000,2001] trivial ?_;refine AWp.cond (b:=((lZ x3)==(0:Int))) (by kernel_rfl) (fun hc1=> ?_) (fun hc1=> ?_)
 ·
  replace h:=aE hc1 h;refine aU [] [] ⟨95,[(6,.own 2000)],(f210z0 x2 x3),[2001],0⟩ trivial ?_;have hret:=Option.some.inj h;subst hret;refine AWp.ret (tR ?_);exact bR _ rfl ⟨rfl,rfl⟩ rfl
 ·
  replace h:=aF hc1 h;refine AWp.skip (tN ?_);refine bJ [] [] [0,1,2,7,8] [2000,2001] trivial ?_;refine AWp.seq ?_;refine aU [] [] ⟨95,[(0,.own 2000),(1,.i x1),(2,.own 2001),(7,.i (lZ x3)),(8,.i (lZ x2)),(22,.bool (x1==(lZ x2)))],(f210z0 x2 x3),[2001],0⟩ trivial ?_;refine AWp.cond (b:=(x1==(lZ x2))) (by kernel_rfl) (fun hc2=> ?_) (fun hc2=> ?_)
  ·
   replace h:=aE hc2 h;refine AWp.seq ?_;obtain⟨ob1,h⟩:=aB h;refine aZ [] [] ⟨95,[(6,.own 2000)],[(2000,.rows 202 3 ((x2).length+(x3).length) (gF (x2).length (cD cH aN x2) (cD cH aN x3))),(2001,aP x3)],[2001],0⟩ (an1 ob1) ?_;refine tN ?_;refine AWp.le (Le.mk (s':=⟨95,[(6,.own 2000)],[(2000,aP (x2++x3)),(2001,aP x3)],[2001],0⟩) rfl rfl ⟨.refl _,trivial⟩ ⟨⟨_,rfl,(BLe.of (RL.app (RL.self _) (RL.self _)))⟩,⟨_,rfl,.refl _⟩,trivial⟩) ?_;have hret:=Option.some.inj h;subst hret;refine AWp.le (LR (s':=⟨95,[(6,.own 2000)],[(2000,aP (x2++x3)),(2001,aP x3)],[2001],0⟩)) ?_;refine AWp.ret (tR ?_);exact bR _ rfl ⟨rfl,rfl⟩ rfl
  ·
   replace h:=aF hc2 h;refine AWp.skip (tN (AWp.seq (AWp.seq ?_)));exact nomatch (show none=some r from h)
def f210 (x2:Int) (x1 x3:List Tq1):Option (List (List UInt8×List UInt8×Int)×List (List UInt8×List UInt8×Int)):=
 if 0≤x2∧x2.toNat<x1.length∧0<x3.length∧(x1.length+x3.length) *40≤140737488355328 then some (x1.take x2.toNat++x3++x1.drop x2.toNat,x3)else f210e x2 x1 x3
theorem f210_ok (x2:Int) (x1 x3:List Tq1) (r:List Tq1×List Tq1) (h:f210 x2 x1 x3=some r):aH Tryz.prog 210 [] [2001] [(2000,bL 202 3 cH (default:Tq1) x1),(2001,bL 202 3 cH (default:Tq1) x3)] [.own 2000,.int .i64 x2,.own 2001] (.own 2000) [(2000,bL 202 3 cH (default:Tq1) r.1),(2001,bL 202 3 cH (default:Tq1) r.2)]:=by
 unfold f210 at h;split at h
 ·rename_i hc;cases h;have:=uD 3 (by decide) 202 40 cH aN insShift insGrow x1 x3 x2.toNat hc.2.1 hc.2.2.1 hc.2.2.2;rw[Int.toNat_of_nonneg hc.1]at this;exact this
 ·exact f210e_ok x2 x1 x3 r h
abbrev f187z0 (x3:List UInt8) (r4:Tq4):List (Nat×V):=[(0,.own 6001),(2,.str x3),(8,.int .i64 r4.1),(1000001,.tab .u64 Lib.pow10Tab)]
abbrev aAf (r4:Tq4):List (Nat×V):=[(0,.own 6001),(8,.int .i64 r4.1),(1000001,.tab .u64 Lib.pow10Tab)]
abbrev f187z2 (r5:List Tq1):aK:=[(6001,bL 202 3 cH (default:Tq1) r5)]
abbrev oT :=(1000000000000:Int)
def aBo (x1:List Tq1) (x2 x3:List UInt8):Option (Ty4×List UInt8):=
 (f186 x1 x2).bind fun(r4:Tq4)=>
 if((!r4.2)&&(decide ((((x1).length:Nat):Int)≥(64:Int))))then(
 some (x1,([102,117,108,108]:List UInt8))
 )else(
 (f189 x1).bind fun(r5:List Tq1)=>
 jn (fun(l7:List Tq1)=>
 chk (0≤r4.1∧r4.1<(((l7).length:Nat):Int))<|
 chk (((r4.1).toNat)<(l7).length)<|
 chk (0≤r4.1∧r4.1<((((l7.set ((r4.1).toNat) ((l7.getD ((r4.1).toNat) (default:Tq1)).1,x3,(l7.getD ((r4.1).toNat) (default:Tq1)).2.2))).length:Nat):Int))<|
 chk (((r4.1).toNat)<((l7.set ((r4.1).toNat) ((l7.getD ((r4.1).toNat) (default:Tq1)).1,x3,(l7.getD ((r4.1).toNat) (default:Tq1)).2.2))).length)<|
 chk (-9223372036854775808≤(((l7.set ((r4.1).toNat) ((l7.getD ((r4.1).toNat) (default:Tq1)).1,x3,(l7.getD ((r4.1).toNat) (default:Tq1)).2.2)).getD ((r4.1).toNat) (default:Tq1)).2.2+(1:Int))∧(((l7.set ((r4.1).toNat) ((l7.getD ((r4.1).toNat) (default:Tq1)).1,x3,(l7.getD ((r4.1).toNat) (default:Tq1)).2.2)).getD ((r4.1).toNat) (default:Tq1)).2.2+(1:Int))≤9223372036854775807)<|
 chk (0≤r4.1∧r4.1<((((l7.set ((r4.1).toNat) ((l7.getD ((r4.1).toNat) (default:Tq1)).1,x3,(l7.getD ((r4.1).toNat) (default:Tq1)).2.2))).length:Nat):Int))<|
 chk (((r4.1).toNat)<((l7.set ((r4.1).toNat) ((l7.getD ((r4.1).toNat) (default:Tq1)).1,x3,(l7.getD ((r4.1).toNat) (default:Tq1)).2.2))).length)<|
 (f58 ((((l7.set ((r4.1).toNat) ((l7.getD ((r4.1).toNat) (default:Tq1)).1,x3,(l7.getD ((r4.1).toNat) (default:Tq1)).2.2)).set ((r4.1).toNat) (((l7.set ((r4.1).toNat) ((l7.getD ((r4.1).toNat) (default:Tq1)).1,x3,(l7.getD ((r4.1).toNat) (default:Tq1)).2.2)).getD ((r4.1).toNat) (default:Tq1)).1,((l7.set ((r4.1).toNat) ((l7.getD ((r4.1).toNat) (default:Tq1)).1,x3,(l7.getD ((r4.1).toNat) (default:Tq1)).2.2)).getD ((r4.1).toNat) (default:Tq1)).2.1,(min (((l7.set ((r4.1).toNat) ((l7.getD ((r4.1).toNat) (default:Tq1)).1,x3,(l7.getD ((r4.1).toNat) (default:Tq1)).2.2)).getD ((r4.1).toNat) (default:Tq1)).2.2+(1:Int)) (1000000000000:Int)))).getD ((r4.1).toNat) (default:Tq1)).2.2)).bind fun(r8:List UInt8)=>
 chk (0≤r4.1∧r4.1<(((((l7.set ((r4.1).toNat) ((l7.getD ((r4.1).toNat) (default:Tq1)).1,x3,(l7.getD ((r4.1).toNat) (default:Tq1)).2.2)).set ((r4.1).toNat) (((l7.set ((r4.1).toNat) ((l7.getD ((r4.1).toNat) (default:Tq1)).1,x3,(l7.getD ((r4.1).toNat) (default:Tq1)).2.2)).getD ((r4.1).toNat) (default:Tq1)).1,((l7.set ((r4.1).toNat) ((l7.getD ((r4.1).toNat) (default:Tq1)).1,x3,(l7.getD ((r4.1).toNat) (default:Tq1)).2.2)).getD ((r4.1).toNat) (default:Tq1)).2.1,(min (((l7.set ((r4.1).toNat) ((l7.getD ((r4.1).toNat) (default:Tq1)).1,x3,(l7.getD ((r4.1).toNat) (default:Tq1)).2.2)).getD ((r4.1).toNat) (default:Tq1)).2.2+(1:Int)) (1000000000000:Int))))).length:Nat):Int))<|
 chk (((r4.1).toNat)<(((l7.set ((r4.1).toNat) ((l7.getD ((r4.1).toNat) (default:Tq1)).1,x3,(l7.getD ((r4.1).toNat) (default:Tq1)).2.2)).set ((r4.1).toNat) (((l7.set ((r4.1).toNat) ((l7.getD ((r4.1).toNat) (default:Tq1)).1,x3,(l7.getD ((r4.1).toNat) (default:Tq1)).2.2)).getD ((r4.1).toNat) (default:Tq1)).1,((l7.set ((r4.1).toNat) ((l7.getD ((r4.1).toNat) (default:Tq1)).1,x3,(l7.getD ((r4.1).toNat) (default:Tq1)).2.2)).getD ((r4.1).toNat) (default:Tq1)).2.1,(min (((l7.set ((r4.1).toNat) ((l7.getD ((r4.1).toNat) (default:Tq1)).1,x3,(l7.getD ((r4.1).toNat) (default:Tq1)).2.2)).getD ((r4.1).toNat) (default:Tq1)).2.2+(1:Int)) (1000000000000:Int))))).length)<|
 chk (([111,107,32]:List UInt8).length+r8.length≤9223372036854775807)<|
 some (((l7.set ((r4.1).toNat) ((l7.getD ((r4.1).toNat) (default:Tq1)).1,x3,(l7.getD ((r4.1).toNat) (default:Tq1)).2.2)).set ((r4.1).toNat) (((l7.set ((r4.1).toNat) ((l7.getD ((r4.1).toNat) (default:Tq1)).1,x3,(l7.getD ((r4.1).toNat) (default:Tq1)).2.2)).getD ((r4.1).toNat) (default:Tq1)).1,((l7.set ((r4.1).toNat) ((l7.getD ((r4.1).toNat) (default:Tq1)).1,x3,(l7.getD ((r4.1).toNat) (default:Tq1)).2.2)).getD ((r4.1).toNat) (default:Tq1)).2.1,(min (((l7.set ((r4.1).toNat) ((l7.getD ((r4.1).toNat) (default:Tq1)).1,x3,(l7.getD ((r4.1).toNat) (default:Tq1)).2.2)).getD ((r4.1).toNat) (default:Tq1)).2.2+(1:Int)) (1000000000000:Int)))),(([111,107,32]:List UInt8)++r8))
 ) fun(K1:Ty4→Option (Ty4×List UInt8))=>
 if(!r4.2)then(
 (f210 r4.1 r5 ([(x2,[],(0:Int))])).bind fun(r6:Ty4×Ty4)=>
 K1 r6.1
 )else(
 K1 r5
 )
 )
theorem sE (x1:List Tq1) (x2 x3:List UInt8) (r:Ty4×List UInt8) (h:aBo x1 x2 x3=some r):aH Tryz.prog 187 [(1,.tab .u64 Lib.pow10Tab)] [] [] [vL 3 cH (default:Tq1) x1,.str x2,.str x3] (.tup [vL 3 cH (default:Tq1) r.1,.str r.2]) []:=by
 unfold aBo at h;refine aH.body 0 _ _ Tryz.func187 rfl Tryz.ntmps187 rfl rfl ?_;refine bJ [] [] [0,1,2,1000001] [] trivial ?_;refine AWp.seq ?_;obtain⟨r4,hr4,h⟩:=bind_ok h;refine cA [] [(2,⟨[aV x1,.str x2],[],[],[],.tup [.i r4.1,.bool r4.2],[],[],[]⟩)] [0,1,2,8,9,1000001] [] (an1 (cpT (f186_ok _ _ _ hr4))) ?_;refine tN (AWp.seq (AWp.seq ?_));have ob0:=idA (((!r4.2)==true)=true);have ob1:=idA (((!r4.2)==true)=true);have ob2:=bqA (!r4.2) true;refine cA [] [] [0,1,2,8,9,22,1000001] [] (an3 (an1 ob0) (an1 ob1) ob2) ?_;refine tN ?_;refine AWp.cond (b:=((!r4.2)&&(decide ((lZ x1)≥(64:Int))))) (by kernel_rfl) (fun hc1=> ?_) (fun hc1=> ?_)
 ·
  replace h:=aE hc1 h;refine aU [] [] ⟨58,[(6,aV x1),(7,.str ([102,117,108,108]:List UInt8))],[],[],0⟩ trivial ?_;have hret:=Option.some.inj h;subst hret;refine AWp.ret (tR ?_);exact bR _ rfl ⟨rfl,rfl⟩ rfl
 ·
  replace h:=aF hc1 h;refine AWp.skip (tN (AWp.seq ?_));obtain⟨r5,hr5,h⟩:=bind_ok h;refine aZ [] [(1,⟨[aV x1],[],[],(f187z2 r5),.own 6001,[6001],[],[]⟩)] ⟨58,[(0,.own 6001),(1,.str x2),(2,.str x3),(8,.i r4.1),(9,.bool r4.2),(1000001,.tab .u64 Lib.pow10Tab)],(f187z2 r5),[],0⟩ (an1 (cpT (aH.ren (bA 3000 6001) (aD 3000 6001) rfl (f189_ok _ _ hr5)))) ?_;refine tN ?_;obtain⟨K1,hK1,h⟩:=aS h;refine AWp.join (α:=List Tq1) (fun(l7:List Tq1)=>⟨58,(f187z0 x3 r4),[(6001,aP l7)],[],0⟩) (fun x=>K1 x=some r) ?_ ?_
  ·
   refine aU [] [] ⟨58,[(0,.own 6001),(1,.str x2),(2,.str x3),(8,.i r4.1),(27,.bool (!r4.2)),(1000001,.tab .u64 Lib.pow10Tab)],(f187z2 r5),[],0⟩ trivial ?_;refine AWp.cond (b:=(!r4.2)) (by kernel_rfl) (fun hc2=> ?_) (fun hc2=> ?_)
   ·
    replace h:=aE hc2 h;obtain⟨r6,hr6,h⟩:=bind_ok h;refine aZ [] [(5,⟨[.own 6001,.i r4.1,.own 32],[6001,32],[32],[(6001,aP r6.1),(32,aP r6.2)],.own 6001,[6001],[],[]⟩)] ⟨58,(f187z0 x3 r4),[(6001,aP r6.1)],[],0⟩ (an1 (cpT (Spec.heap (h0:=[(6001,aP r5),(32,.rows 202 3 1 (dH 3 [.str x2,.str [],.i (0:Int)]))]) (aH.ren (bA 2001 32) (aD 2001 32) rfl (aH.ren (bA 2000 6001) (aD 2000 6001) rfl (f210_ok _ _ _ _ hr6))) ⟨⟨_,rfl,.refl _⟩,⟨_,rfl,(BLe.of (RL.lst (enc:=cH) [(x2,[],(0:Int))] rfl rfl (fun _=>rfl)))⟩,trivial⟩))) ?_;exact jN (r6.1) LR h
   ·
    replace h:=aF hc2 h;refine AWp.skip ?_;exact jN (r5) LR h
  ·
   rintro l7 h;replace h:=(congrFun hK1 _).symm.trans h;refine AWp.seq ?_;obtain⟨ob3,ob4,h⟩:=ck2 h;refine aZ [] [] ⟨58,(aAf r4),[(6001,.rows 202 3 (l7).length (aBn (cD cH aN l7) ((r4.1).toNat) 1 [.str x3]))],[],0⟩ (an2 ob3 ob4) ?_;refine tN ?_;refine AWp.le (Le.mk (s':=⟨58,(aAf r4),[(6001,aP (l7.set ((r4.1).toNat) ((l7.getD ((r4.1).toNat) aN).1,x3,(l7.getD ((r4.1).toNat) aN).2.2)))],[],0⟩) rfl rfl ⟨.refl _,.refl _,.refl _,trivial⟩ ⟨⟨_,rfl,(BLe.of (RL.set ((l7.getD ((r4.1).toNat) aN).1,x3,(l7.getD ((r4.1).toNat) aN).2.2) (RL.self _) (by intro j hj;match j,hj with|0,_=>rfl|1,_=>rfl|2,_=>rfl)))⟩,trivial⟩) ?_;refine AWp.seq ?_;obtain⟨ob5,ob6,ob7,ob8,ob9,h⟩:=ck5 h;refine aZ [] [] ⟨58,(aAf r4),[(6001,.rows 202 3 ((l7.set ((r4.1).toNat) ((l7.getD ((r4.1).toNat) aN).1,x3,(l7.getD ((r4.1).toNat) aN).2.2))).length (aBn (cD cH aN (l7.set ((r4.1).toNat) ((l7.getD ((r4.1).toNat) aN).1,x3,(l7.getD ((r4.1).toNat) aN).2.2))) ((r4.1).toNat) 2 [.i (min (((l7.set ((r4.1).toNat) ((l7.getD ((r4.1).toNat) aN).1,x3,(l7.getD ((r4.1).toNat) aN).2.2)).getD ((r4.1).toNat) aN).2.2+(1:Int)) (oT))]))],[],0⟩ (an5 ob5 ob6 ob7 ob8 ob9) ?_;refine tN ?_;refine AWp.le (Le.mk (s':=⟨58,(aAf r4),[(6001,aP ((l7.set ((r4.1).toNat) ((l7.getD ((r4.1).toNat) aN).1,x3,(l7.getD ((r4.1).toNat) aN).2.2)).set ((r4.1).toNat) (((l7.set ((r4.1).toNat) ((l7.getD ((r4.1).toNat) aN).1,x3,(l7.getD ((r4.1).toNat) aN).2.2)).getD ((r4.1).toNat) aN).1,((l7.set ((r4.1).toNat) ((l7.getD ((r4.1).toNat) aN).1,x3,(l7.getD ((r4.1).toNat) aN).2.2)).getD ((r4.1).toNat) aN).2.1,(min (((l7.set ((r4.1).toNat) ((l7.getD ((r4.1).toNat) aN).1,x3,(l7.getD ((r4.1).toNat) aN).2.2)).getD ((r4.1).toNat) aN).2.2+(1:Int)) (oT)))))],[],0⟩) rfl rfl ⟨.refl _,.refl _,.refl _,trivial⟩ ⟨⟨_,rfl,(BLe.of (RL.set (((l7.set ((r4.1).toNat) ((l7.getD ((r4.1).toNat) aN).1,x3,(l7.getD ((r4.1).toNat) aN).2.2)).getD ((r4.1).toNat) aN).1,((l7.set ((r4.1).toNat) ((l7.getD ((r4.1).toNat) aN).1,x3,(l7.getD ((r4.1).toNat) aN).2.2)).getD ((r4.1).toNat) aN).2.1,(min (((l7.set ((r4.1).toNat) ((l7.getD ((r4.1).toNat) aN).1,x3,(l7.getD ((r4.1).toNat) aN).2.2)).getD ((r4.1).toNat) aN).2.2+(1:Int)) (oT))) (RL.self _) (by intro j hj;match j,hj with|0,_=>rfl|1,_=>rfl|2,_=>rfl)))⟩,trivial⟩) ?_;refine AWp.seq ?_;obtain⟨r8,hr8,h⟩:=bind_ok h;obtain⟨ob10,ob11,ob12,h⟩:=ck3 h;refine aZ [] [(6,⟨[.i (((l7.set ((r4.1).toNat) ((l7.getD ((r4.1).toNat) aN).1,x3,(l7.getD ((r4.1).toNat) aN).2.2)).set ((r4.1).toNat) (((l7.set ((r4.1).toNat) ((l7.getD ((r4.1).toNat) aN).1,x3,(l7.getD ((r4.1).toNat) aN).2.2)).getD ((r4.1).toNat) aN).1,((l7.set ((r4.1).toNat) ((l7.getD ((r4.1).toNat) aN).1,x3,(l7.getD ((r4.1).toNat) aN).2.2)).getD ((r4.1).toNat) aN).2.1,(min (((l7.set ((r4.1).toNat) ((l7.getD ((r4.1).toNat) aN).1,x3,(l7.getD ((r4.1).toNat) aN).2.2)).getD ((r4.1).toNat) aN).2.2+(1:Int)) (oT)))).getD ((r4.1).toNat) aN).2.2],[],[],[],.str r8,[],[],[1]⟩)] ⟨58,[(6,.own 6001),(7,.str (([111,107,32]:List UInt8)++r8)),(1000001,.tab .u64 Lib.pow10Tab)],[(6001,aP ((l7.set ((r4.1).toNat) ((l7.getD ((r4.1).toNat) aN).1,x3,(l7.getD ((r4.1).toNat) aN).2.2)).set ((r4.1).toNat) (((l7.set ((r4.1).toNat) ((l7.getD ((r4.1).toNat) aN).1,x3,(l7.getD ((r4.1).toNat) aN).2.2)).getD ((r4.1).toNat) aN).1,((l7.set ((r4.1).toNat) ((l7.getD ((r4.1).toNat) aN).1,x3,(l7.getD ((r4.1).toNat) aN).2.2)).getD ((r4.1).toNat) aN).2.1,(min (((l7.set ((r4.1).toNat) ((l7.getD ((r4.1).toNat) aN).1,x3,(l7.getD ((r4.1).toNat) aN).2.2)).getD ((r4.1).toNat) aN).2.2+(1:Int)) (oT)))))],[],0⟩ (an4 ob10 ob11 (cpT (qR _ _ hr8)) ob12) ?_;refine tN ?_;refine AWp.le (Le.trans (Le.freeze 6001 rfl rfl) (LR (s':=⟨58,[(6,aV ((l7.set ((r4.1).toNat) ((l7.getD ((r4.1).toNat) aN).1,x3,(l7.getD ((r4.1).toNat) aN).2.2)).set ((r4.1).toNat) (((l7.set ((r4.1).toNat) ((l7.getD ((r4.1).toNat) aN).1,x3,(l7.getD ((r4.1).toNat) aN).2.2)).getD ((r4.1).toNat) aN).1,((l7.set ((r4.1).toNat) ((l7.getD ((r4.1).toNat) aN).1,x3,(l7.getD ((r4.1).toNat) aN).2.2)).getD ((r4.1).toNat) aN).2.1,(min (((l7.set ((r4.1).toNat) ((l7.getD ((r4.1).toNat) aN).1,x3,(l7.getD ((r4.1).toNat) aN).2.2)).getD ((r4.1).toNat) aN).2.2+(1:Int)) (oT))))),(7,.str (([111,107,32]:List UInt8)++r8)),(1000001,.tab .u64 Lib.pow10Tab)],[],[],0⟩))) ?_;have hret:=Option.some.inj h;subst hret;refine AWp.le (LR (s':=⟨58,[(6,aV ((l7.set ((r4.1).toNat) ((l7.getD ((r4.1).toNat) aN).1,x3,(l7.getD ((r4.1).toNat) aN).2.2)).set ((r4.1).toNat) (((l7.set ((r4.1).toNat) ((l7.getD ((r4.1).toNat) aN).1,x3,(l7.getD ((r4.1).toNat) aN).2.2)).getD ((r4.1).toNat) aN).1,((l7.set ((r4.1).toNat) ((l7.getD ((r4.1).toNat) aN).1,x3,(l7.getD ((r4.1).toNat) aN).2.2)).getD ((r4.1).toNat) aN).2.1,(min (((l7.set ((r4.1).toNat) ((l7.getD ((r4.1).toNat) aN).1,x3,(l7.getD ((r4.1).toNat) aN).2.2)).getD ((r4.1).toNat) aN).2.2+(1:Int)) (oT))))),(7,.str (([111,107,32]:List UInt8)++r8))],[],[],0⟩)) ?_;refine AWp.ret ?_;exact bR _ rfl ⟨rfl,rfl⟩ rfl
def f188 (x2 x3:Int) (x1:List Tq1):Option Ty4:=
 if 0≤x2∧x2<x3∧x3.toNat≤x1.length then some (x1.take x2.toNat++x1.drop x3.toNat)else none
theorem f188_ok (x2 x3:Int) (x1 r:List Tq1) (h:f188 x2 x3 x1=some r):aH Tryz.prog 188 [] [] [(2000,bL 202 3 cH (default:Tq1) x1)] [.own 2000,.int .i64 x2,.int .i64 x3] (.own 2000) [(2000,bL 202 3 cH (default:Tq1) r)]:=by
 unfold f188 at h;split at h
 ·rename_i hc;cases h;have:=delK_spec 3 202 cH aN delW x1 x2.toNat x3.toNat (by omega) hc.2.2;rw[Int.toNat_of_nonneg hc.1,Int.toNat_of_nonneg (by omega:0≤x3)]at this;exact this
 ·cases h
abbrev f153z0 (x2:Int) (x3 x4 x5:List UInt8) (x1:List Tq1) (r7:Tq4):aK:=[(3,.cells 164 [.int .i64 x2,.str x3,.str x4,.str x5]),(10,.cells 202 [.str (x1.getD ((r7.1).toNat) (default:Tq1)).1,.str (x1.getD ((r7.1).toNat) (default:Tq1)).2.1,.int .i64 (x1.getD ((r7.1).toNat) (default:Tq1)).2.2])]
abbrev f153z1 (x2:Int) (x3 x4 x5:List UInt8):aK:=[(3,.cells 164 [.int .i64 x2,.str x3,.str x4,.str x5])]
def aBb (x1:List Tq1) (x2:Int) (x3 x4 x5:List UInt8):Option (Ty4×List UInt8):=
 (f185 x2 x3 x4 x5).bind fun(r6:List UInt8×Bool×Bool×Bool×Bool)=>
 if(!r6.2.2.2.2)then(
 some (x1,cs3)
 )else(
 (f186 x1 x3).bind fun(r7:Tq4)=>
 if(x2==(6:Int))then(
 (f58 (((x1).length:Nat):Int)).bind fun(r8:List UInt8)=>
 chk (cs9.length+r8.length≤9223372036854775807)<|
 some (x1,(cs9++r8))
 )else(
 if(x2==(1:Int))then(
 (aBo x1 x3 x5).bind fun(r9:Ty4×List UInt8)=>
 some (r9.1,r9.2)
 )else(
 if((x2==(4:Int))&&(!r7.2))then(
 (aBo x1 x3 x5).bind fun(r10:Ty4×List UInt8)=>
 some (r10.1,r10.2)
 )else(
 if(!r7.2)then(
 some (x1,([110,111,110,101]:List UInt8))
 )else(
 chk (0≤r7.1∧r7.1<(((x1).length:Nat):Int))<|
 if(x2==(2:Int))then(
 (f58 ((x1.getD ((r7.1).toNat) (default:Tq1)).2.2)).bind fun(r11:List UInt8)=>
 chk (pG.length+((x1.getD ((r7.1).toNat) (default:Tq1)).2.1).length≤9223372036854775807)<|
 chk ((pG++((x1.getD ((r7.1).toNat) (default:Tq1)).2.1)).length+([32]:List UInt8).length≤9223372036854775807)<|
 chk (((pG++((x1.getD ((r7.1).toNat) (default:Tq1)).2.1))++([32]:List UInt8)).length+r11.length≤9223372036854775807)<|
 some (x1,(((pG++((x1.getD ((r7.1).toNat) (default:Tq1)).2.1))++([32]:List UInt8))++r11))
 )else(
 if(x2==(3:Int))then(
 (f189 x1).bind fun(r12:List Tq1)=>
 (f188 r7.1 (r7.1+(1:Int)) r12).bind fun(r13:List Tq1)=>
 chk (-9223372036854775808≤(r7.1+(1:Int))∧(r7.1+(1:Int))≤9223372036854775807)<|
 some (r13,([111,107]:List UInt8))
 )else(
 if(x2==(4:Int))then(
 chk ((((((x1.getD ((r7.1).toNat) (default:Tq1)).2.1).length:Nat):Int)+((x5.length:Nat):Int))≤9223372036854775807)<|
 if(decide ((((((x1.getD ((r7.1).toNat) (default:Tq1)).2.1).length+x5.length):Nat):Int)>(256:Int)))then(
 some (x1,([108,111,110,103]:List UInt8))
 )else(
 (aBo x1 x3 (((x1.getD ((r7.1).toNat) (default:Tq1)).2.1)++x5)).bind fun(r14:Ty4×List UInt8)=>
 chk (((x1.getD ((r7.1).toNat) (default:Tq1)).2.1).length+x5.length≤9223372036854775807)<|
 some (r14.1,r14.2)
 )
 )else(
 if(!(((x1.getD ((r7.1).toNat) (default:Tq1)).2.1)==x4))then(
 chk (([110,111,32]:List UInt8).length+((x1.getD ((r7.1).toNat) (default:Tq1)).2.1).length≤9223372036854775807)<|
 some (x1,(([110,111,32]:List UInt8)++((x1.getD ((r7.1).toNat) (default:Tq1)).2.1)))
 )else(
 (aBo x1 x3 x5).bind fun(r15:Ty4×List UInt8)=>
 some (r15.1,r15.2)
 )
 )
 )
 )
 )
 )
 )
 )
 )
theorem f153_ok (x1:List Tq1) (x2:Int) (x3 x4 x5:List UInt8) (r:Ty4×List UInt8) (h:aBb x1 x2 x3 x4 x5=some r):aH Tryz.prog 153 [(1,.tab .u64 Lib.pow10Tab)] [] [] [vL 3 cH (default:Tq1) x1,.agg [.int .i64 x2,.str x3,.str x4,.str x5]] (.tup [vL 3 cH (default:Tq1) r.1,.str r.2]) []:=by
 unfold aBb at h;refine aH.body 0 _ _ Tryz.func153 rfl Tryz.ntmps153 rfl rfl ?_;refine bJ [] [] [0,3,1000001] [3] trivial ?_;refine AWp.seq (AWp.seq ?_);obtain⟨r6,hr6,h⟩:=bind_ok h;refine cA [] [(1,⟨[.agg [.i x2,.str x3,.str x4,.str x5]],[],[],[],.tup [.agg [.str r6.1,.bool r6.2.1,.bool r6.2.2.1,.bool r6.2.2.2.1],.bool r6.2.2.2.2],[],[],[]⟩)] [0,3,7,1000001] [3] (an2 (cpT (f185_ok _ _ _ _ _ hr6)) trivial) ?_;refine tN ?_;refine bJ [] [] [0,3,17,1000001] [3] trivial ?_;refine AWp.cond (b:=(!r6.2.2.2.2)) (by kernel_rfl) (fun hc1=> ?_) (fun hc1=> ?_)
 ·
  replace h:=aE hc1 h;refine aU [] [] ⟨131,[(4,aV x1),(5,.str cs3)],[],[],0⟩ trivial ?_;have hret:=Option.some.inj h;subst hret;refine AWp.ret (tR ?_);exact bR _ rfl ⟨rfl,rfl⟩ rfl
 ·
  replace h:=aF hc1 h;refine AWp.skip (tN (AWp.seq ?_));obtain⟨r7,hr7,h⟩:=bind_ok h;refine cA [] [(3,⟨[aV x1,.str x3],[],[],[],.tup [.i r7.1,.bool r7.2],[],[],[]⟩)] [0,3,8,9,1000001] [3] (an1 (cpT (f186_ok _ _ _ hr7))) ?_;refine tN (AWp.seq (AWp.block ?_));refine bJ [] [] [0,3,8,9,26,1000001] [3] trivial ?_;refine AWp.cond (b:=(x2==(6:Int))) (by kernel_rfl) (fun hc2=> ?_) (fun hc2=> ?_)
  ·
   replace h:=aE hc2 h;refine AWp.seq ?_;obtain⟨r8,hr8,h⟩:=bind_ok h;obtain⟨ob0,h⟩:=aB h;refine aZ [] [(3,⟨[.i (lZ x1)],[],[],[],.str r8,[],[],[1]⟩)] ⟨131,[(4,aV x1),(5,.str (cs9++r8))],[],[],0⟩ (an2 (cpT (qR _ _ hr8)) ob0) ?_;refine tN ?_;have hret:=Option.some.inj h;subst hret;refine AWp.ret (kR (tR ?_));exact bR _ rfl ⟨rfl,rfl⟩ rfl
  ·
   replace h:=aF hc2 h;refine bJ [] [] [0,3,8,9,35,1000001] [3] trivial ?_;refine AWp.cond (b:=(x2==(1:Int))) (by kernel_rfl) (fun hc3=> ?_) (fun hc3=> ?_)
   ·
    replace h:=aE hc3 h;refine AWp.seq ?_;obtain⟨r9,hr9,h⟩:=bind_ok h;refine aZ [] [(5,⟨[aV x1,.str x3,.str x5],[],[],[],.tup [aV r9.1,.str r9.2],[],[],[1]⟩)] ⟨131,[(4,aV r9.1),(5,.str r9.2)],[],[],0⟩ (an1 (cpT (sE _ _ _ _ hr9))) ?_;refine tN ?_;have hret:=Option.some.inj h;subst hret;refine AWp.ret (kR (tR ?_));exact bR _ rfl ⟨rfl,rfl⟩ rfl
   ·
    replace h:=aF hc3 h;refine AWp.seq ?_;have ob1:=idA (((x2==(4:Int))==true)=true);have ob2:=bqA (x2==(4:Int)) true;refine cA [] [] [0,3,8,9,47,1000001] [3] (an2 (an1 ob1) ob2) ?_;refine tN ?_;refine AWp.cond (b:=((x2==(4:Int))&&(!r7.2))) (by kernel_rfl) (fun hc4=> ?_) (fun hc4=> ?_)
    ·
     replace h:=aE hc4 h;refine AWp.seq ?_;obtain⟨r10,hr10,h⟩:=bind_ok h;refine aZ [] [(5,⟨[aV x1,.str x3,.str x5],[],[],[],.tup [aV r10.1,.str r10.2],[],[],[1]⟩)] ⟨131,[(4,aV r10.1),(5,.str r10.2)],[],[],0⟩ (an1 (cpT (sE _ _ _ _ hr10))) ?_;refine tN ?_;have hret:=Option.some.inj h;subst hret;refine AWp.ret (kR (tR ?_));exact bR _ rfl ⟨rfl,rfl⟩ rfl
    ·
     replace h:=aF hc4 h;refine aU [] [] ⟨131,[(0,aV x1),(3,.ptr 3 0),(8,.i r7.1),(63,.bool (!r7.2)),(1000001,.tab .u64 Lib.pow10Tab)],(f153z1 x2 x3 x4 x5),[],0⟩ trivial ?_;refine AWp.cond (b:=(!r7.2)) (by kernel_rfl) (fun hc5=> ?_) (fun hc5=> ?_)
     ·
      replace h:=aE hc5 h;refine aU [] [] ⟨131,[(4,aV x1),(5,.str ([110,111,110,101]:List UInt8))],[],[],0⟩ trivial ?_;have hret:=Option.some.inj h;subst hret;refine AWp.ret (kR (tR ?_));exact bR _ rfl ⟨rfl,rfl⟩ rfl
     ·
      replace h:=aF hc5 h;refine AWp.skip (kN (tN (AWp.seq ?_)));obtain⟨ob3,h⟩:=aB h;refine cA [] [] [0,3,8,10,1000001] [3,10] (an2 ob3 trivial) ?_;refine tN (AWp.seq ?_);refine bJ [] [] [0,3,8,10,72,1000001] [3,10] trivial ?_;refine AWp.block ?_;refine bJ [] [] [0,3,8,10,72,73,1000001] [3,10] trivial ?_;refine AWp.cond (b:=(x2==(2:Int))) (by kernel_rfl) (fun hc6=> ?_) (fun hc6=> ?_)
      ·
       replace h:=aE hc6 h;refine AWp.seq ?_;obtain⟨r11,hr11,h⟩:=bind_ok h;obtain⟨ob4,ob5,ob6,h⟩:=ck3 h;refine aZ [] [(7,⟨[.i (x1.getD ((r7.1).toNat) aN).2.2],[],[],[],.str r11,[],[],[1]⟩)] ⟨131,[(4,aV x1),(5,.str (((pG++((x1.getD ((r7.1).toNat) aN).2.1))++([32]:List UInt8))++r11))],[],[],0⟩ (an4 ob4 ob5 (cpT (qR _ _ hr11)) ob6) ?_;refine tN ?_;have hret:=Option.some.inj h;subst hret;refine AWp.ret (kR (tR ?_));exact bR _ rfl ⟨rfl,rfl⟩ rfl
      ·
       replace h:=aF hc6 h;refine bJ [] [] [0,3,8,10,72,84,1000001] [3,10] trivial ?_;refine AWp.cond (b:=(x2==(3:Int))) (by kernel_rfl) (fun hc7=> ?_) (fun hc7=> ?_)
       ·
        replace h:=aE hc7 h;refine AWp.seq ?_;obtain⟨r12,hr12,h⟩:=bind_ok h;obtain⟨r13,hr13,h⟩:=bind_ok h;obtain⟨ob7,h⟩:=aB h;refine aZ [] [(1,⟨[aV x1],[],[],[(6001,aP r12)],.own 6001,[6001],[],[]⟩),(5,⟨[.own 6001,.i r7.1,.i (r7.1+(1:Int))],[6001],[],[(6001,aP r13)],.own 6001,[6001],[],[]⟩)] ⟨131,[(4,.own 6001),(5,.str ([111,107]:List UInt8)),(1000001,.tab .u64 Lib.pow10Tab)],[(6001,aP r13)],[],0⟩ (an3 (cpT (aH.ren (bA 3000 6001) (aD 3000 6001) rfl (f189_ok _ _ hr12))) ob7 (cpT (aH.ren (bA 2000 6001) (aD 2000 6001) rfl (f188_ok _ _ _ _ hr13)))) ?_;refine tN ?_;refine AWp.le (Le.trans (Le.freeze 6001 rfl rfl) (LR (s':=⟨131,[(4,aV r13),(5,.str ([111,107]:List UInt8)),(1000001,.tab .u64 Lib.pow10Tab)],[],[],0⟩))) ?_;have hret:=Option.some.inj h;subst hret;refine AWp.le (LR (s':=⟨131,[(4,aV r13),(5,.str ([111,107]:List UInt8))],[],[],0⟩)) ?_;refine AWp.ret (kR (tR ?_));exact bR _ rfl ⟨rfl,rfl⟩ rfl
       ·
        replace h:=aF hc7 h;refine aU [] [] ⟨131,[(0,aV x1),(3,.ptr 3 0),(10,.ptr 10 0),(92,.bool (x2==(4:Int))),(1000001,.tab .u64 Lib.pow10Tab)],(f153z0 x2 x3 x4 x5 x1 r7),[],0⟩ trivial ?_;refine AWp.cond (b:=(x2==(4:Int))) (by kernel_rfl) (fun hc8=> ?_) (fun hc8=> ?_)
        ·
         replace h:=aE hc8 h;refine AWp.seq (AWp.seq ?_);obtain⟨ob8p,h⟩:=aB h;have ob8: -9223372036854775808≤(((((x1.getD ((r7.1).toNat) aN).2.1).length:Nat):Int)+((x5.length:Nat):Int))∧(((((x1.getD ((r7.1).toNat) aN).2.1).length:Nat):Int)+((x5.length:Nat):Int))≤9223372036854775807:=⟨by omega,ob8p⟩;refine cA [] [] [0,3,10,101,1000001] [3,10] (an1 ob8) ?_;refine tN ?_;refine AWp.cond (b:=(decide ((((((x1.getD ((r7.1).toNat) aN).2.1).length+x5.length):Nat):Int)>(256:Int)))) (by kernel_rfl) (fun hc9=> ?_) (fun hc9=> ?_)
         ·
          replace h:=aE hc9 h;refine aU [] [] ⟨131,[(4,aV x1),(5,.str ([108,111,110,103]:List UInt8))],[],[],0⟩ trivial ?_;have hret:=Option.some.inj h;subst hret;refine AWp.ret (tR (kR (tR ?_)));exact bR _ rfl ⟨rfl,rfl⟩ rfl
         ·
          replace h:=aF hc9 h;refine AWp.skip (tN (AWp.seq ?_));obtain⟨r14,hr14,h⟩:=bind_ok h;obtain⟨ob9,h⟩:=aB h;refine aZ [] [(8,⟨[aV x1,.str x3,.str (((x1.getD ((r7.1).toNat) aN).2.1)++x5)],[],[],[],.tup [aV r14.1,.str r14.2],[],[],[1]⟩)] ⟨131,[(4,aV r14.1),(5,.str r14.2)],[],[],0⟩ (an2 ob9 (cpT (sE _ _ _ _ hr14))) ?_;refine tN ?_;have hret:=Option.some.inj h;subst hret;refine AWp.ret (kR (tR ?_));exact bR _ rfl ⟨rfl,rfl⟩ rfl
        ·
         replace h:=aF hc8 h;refine AWp.skip (kN (tN (AWp.seq ?_)));refine bJ [] [] [0,3,10,118,1000001] [3,10] trivial ?_;refine AWp.cond (b:=(!(((x1.getD ((r7.1).toNat) aN).2.1)==x4))) (by kernel_rfl) (fun hc10=> ?_) (fun hc10=> ?_)
         ·
          replace h:=aE hc10 h;refine AWp.seq ?_;obtain⟨ob10,h⟩:=aB h;refine aZ [] [] ⟨131,[(4,aV x1),(5,.str (([110,111,32]:List UInt8)++((x1.getD ((r7.1).toNat) aN).2.1)))],[],[],0⟩ (an1 ob10) ?_;refine tN ?_;have hret:=Option.some.inj h;subst hret;refine AWp.ret (tR ?_);exact bR _ rfl ⟨rfl,rfl⟩ rfl
         ·
          replace h:=aF hc10 h;refine AWp.skip (tN (AWp.seq ?_));obtain⟨r15,hr15,h⟩:=bind_ok h;refine aZ [] [(5,⟨[aV x1,.str x3,.str x5],[],[],[],.tup [aV r15.1,.str r15.2],[],[],[1]⟩)] ⟨131,[(4,aV r15.1),(5,.str r15.2)],[],[],0⟩ (an1 (cpT (sE _ _ _ _ hr15))) ?_;refine tN ?_;have hret:=Option.some.inj h;subst hret;refine AWp.ret ?_;exact bR _ rfl ⟨rfl,rfl⟩ rfl
def f154 (x1:List Tq0):Option Ty2:=
 abc ((x1).length=0) (
 some []
 ) (
 chk ((0+(x1).length) *32≤140737488355328)<|
 some ([]++x1)
 )
theorem f154_ok (x1 r:List Tq0) (h:f154 x1=some r):aH Tryz.prog 154 [] [] [] [vL 3 bW (default:Tq0) x1] (.own 3000) [(3000,bL 160 3 bW (default:Tq0) r)]:=by
 unfold f154 at h;refine aH.body 0 _ _ Tryz.func154 rfl Tryz.ntmps154 rfl rfl ?_;refine bJ [] [] [0] [] trivial ?_;refine AWp.seq ?_;refine aU [] [] ⟨8,[(0,aT x1),(4,.abool (fun b=>b=true→(x1).length=0))],[],[],0⟩ trivial ?_;obtain⟨hA1,hB1⟩:=aAC h;refine AWp.condAb (fun b=>b=true→(x1).length=0) (by kernel_rfl) (fun hc1=> ?_) (fun hc1=> ?_)
 ·
  have h:=hA1 (hc1 rfl);refine aU [] [] ⟨8,[(2,.nils)],[],[],0⟩ trivial ?_;refine AWp.le (Le.trans (Le.nilOwn 2 3000 160 3 (cD bW bB []) rfl rfl (Nat.le_of_ble_eq_true rfl)) (LR (s':=⟨8,[(2,.own 3000)],[(3000,bD [])],[],0⟩))) ?_;have hret:=Option.some.inj h;subst hret;refine AWp.le (LR (s':=⟨8,[(2,.own 3000)],[(3000,bD [])],[],0⟩)) ?_;refine AWp.ret (tR ?_);exact bR _ rfl ⟨rfl,rfl⟩ rfl
 ·
  have h:=hB1;refine AWp.skip (tN (AWp.seq ?_));obtain⟨ob0,h⟩:=aB h;refine aZ [] [] ⟨8,[(2,.own 5)],[(5,.rows 160 3 (0+(x1).length) (gF 0 (dH 3 []) (cD bW bB x1)))],[],0⟩ (an1 ob0) ?_;refine tN ?_;refine AWp.le (Le.mk (s':=⟨8,[(2,.own 5)],[(5,bD ([]++x1))],[],0⟩) rfl rfl ⟨.refl _,trivial⟩ ⟨⟨_,rfl,(BLe.of (RL.app (RL.lst (enc:=bW) [] rfl rfl (fun _=>rfl)) (RL.self _)))⟩,trivial⟩) ?_;refine AWp.le (Le.trans (Le.ren (bA 5 3000) (aD 5 3000) rfl) (LR (s':=⟨8,[(2,.own 3000)],[(3000,bD ([]++x1))],[],0⟩))) ?_;have hret:=Option.some.inj h;subst hret;refine AWp.le (LR (s':=⟨8,[(2,.own 3000)],[(3000,bD ([]++x1))],[],0⟩)) ?_;refine AWp.ret ?_;exact bR _ rfl ⟨rfl,rfl⟩ rfl
abbrev f155z0 (x2 x3:List Tq0):aK:=[(2000,bL 160 3 bW (default:Tq0) x2),(2001,bL 160 3 bW (default:Tq0) x3)]
def f155e (x1:Int) (x2 x3:List Tq0):Option (Ty2×Ty2):=
 chk (0≤x1∧x1≤(((x2).length:Nat):Int))<|
 if((((x3).length:Nat):Int)==(0:Int))then(
 some (x2,x3)
 )else(
 if(x1==(((x2).length:Nat):Int))then(
 chk (((x2).length+(x3).length) *32≤140737488355328)<|
 some ((x2++x3),x3)
 )else(

 none
 )
 )
theorem f155e_ok (x1:Int) (x2 x3:List Tq0) (r:Ty2×Ty2) (h:f155e x1 x2 x3=some r):aH Tryz.prog 155 [] [2001] [(2000,bL 160 3 bW (default:Tq0) x2),(2001,bL 160 3 bW (default:Tq0) x3)] [.own 2000,.int .i64 x1,.own 2001] (.own 2000) [(2000,bL 160 3 bW (default:Tq0) r.1),(2001,bL 160 3 bW (default:Tq0) r.2)]:=by
 unfold f155e at h;refine aH.body 0 _ _ Tryz.func155 rfl Tryz.ntmps155 rfl rfl ?_;refine bJ [] [] [0,1,2] [2000,2001] trivial ?_;refine AWp.seq ?_;obtain⟨ob0,h⟩:=aB h;refine cA [] [] [0,1,2] [2000,2001] (an1 ob0) ?_;refine tN ?_;refine bJ [] [] [0,1,2,7] [2000,2001] trivial ?_;refine AWp.seq ?_;refine bJ [] [] [0,1,2,7,16] [2000,2001] trivial ?_;refine AWp.cond (b:=((lZ x3)==(0:Int))) (by kernel_rfl) (fun hc1=> ?_) (fun hc1=> ?_)
 ·
  replace h:=aE hc1 h;refine aU [] [] ⟨95,[(6,.own 2000)],(f155z0 x2 x3),[2001],0⟩ trivial ?_;have hret:=Option.some.inj h;subst hret;refine AWp.ret (tR ?_);exact bR _ rfl ⟨rfl,rfl⟩ rfl
 ·
  replace h:=aF hc1 h;refine AWp.skip (tN ?_);refine bJ [] [] [0,1,2,7,8] [2000,2001] trivial ?_;refine AWp.seq ?_;refine aU [] [] ⟨95,[(0,.own 2000),(1,.i x1),(2,.own 2001),(7,.i (lZ x3)),(8,.i (lZ x2)),(22,.bool (x1==(lZ x2)))],(f155z0 x2 x3),[2001],0⟩ trivial ?_;refine AWp.cond (b:=(x1==(lZ x2))) (by kernel_rfl) (fun hc2=> ?_) (fun hc2=> ?_)
  ·
   replace h:=aE hc2 h;refine AWp.seq ?_;obtain⟨ob1,h⟩:=aB h;refine aZ [] [] ⟨95,[(6,.own 2000)],[(2000,.rows 160 3 ((x2).length+(x3).length) (gF (x2).length (cD bW bB x2) (cD bW bB x3))),(2001,bD x3)],[2001],0⟩ (an1 ob1) ?_;refine tN ?_;refine AWp.le (Le.mk (s':=⟨95,[(6,.own 2000)],[(2000,bD (x2++x3)),(2001,bD x3)],[2001],0⟩) rfl rfl ⟨.refl _,trivial⟩ ⟨⟨_,rfl,(BLe.of (RL.app (RL.self _) (RL.self _)))⟩,⟨_,rfl,.refl _⟩,trivial⟩) ?_;have hret:=Option.some.inj h;subst hret;refine AWp.le (LR (s':=⟨95,[(6,.own 2000)],[(2000,bD (x2++x3)),(2001,bD x3)],[2001],0⟩)) ?_;refine AWp.ret (tR ?_);exact bR _ rfl ⟨rfl,rfl⟩ rfl
  ·
   replace h:=aF hc2 h;refine AWp.skip (tN (AWp.seq (AWp.seq ?_)));exact nomatch (show none=some r from h)
def f155 (x2:Int) (x1 x3:List Tq0):Option (List (Int×Int×List UInt8)×List (Int×Int×List UInt8)):=
 if 0≤x2∧x2.toNat<x1.length∧0<x3.length∧(x1.length+x3.length) *32≤140737488355328 then some (x1.take x2.toNat++x3++x1.drop x2.toNat,x3)else f155e x2 x1 x3
theorem f155_ok (x2:Int) (x1 x3:List Tq0) (r:List Tq0×List Tq0) (h:f155 x2 x1 x3=some r):aH Tryz.prog 155 [] [2001] [(2000,bL 160 3 bW (default:Tq0) x1),(2001,bL 160 3 bW (default:Tq0) x3)] [.own 2000,.int .i64 x2,.own 2001] (.own 2000) [(2000,bL 160 3 bW (default:Tq0) r.1),(2001,bL 160 3 bW (default:Tq0) r.2)]:=by
 unfold f155 at h;split at h
 ·rename_i hc;cases h;have:=uD 3 (by decide) 160 32 bW bB insShift1 insGrow1 x1 x3 x2.toNat hc.2.1 hc.2.2.1 hc.2.2.2;rw[Int.toNat_of_nonneg hc.1]at this;exact this
 ·exact f155e_ok x2 x1 x3 r h
abbrev vQ (x1:List Tq1) (x2:List Tq0):List V:=[vL 3 cH (default:Tq1) x1,vL 3 bW (default:Tq0) x2]
abbrev qU (l11:List Tq1):List V:=[vL 3 cH (default:Tq1) l11,.own 6001]
abbrev f123z2 (x1:List Tq1) (x2:List Tq0) (x3 x4:Int) (x5:List UInt8):aK:=[(2,.cells 92 (vQ x1 x2)),(3,.cells 88 [.int .i64 x3,.int .i64 x4,.str x5]),(4,.cells 92 [.nils,.nils])]
abbrev aAm (s10:List UInt8):List (Nat×V):=[(2,.ptr 2 0),(4,.ptr 4 0),(8,.str s10),(1000001,.tab .u64 Lib.pow10Tab)]
abbrev f123z4 (r8:Tq8):List V:=[.int .i64 r8.1,.str r8.2.1,.str r8.2.2.1,.str r8.2.2.2.1]
abbrev f123z5 (s10:List UInt8):List (Nat×V):=[(4,.ptr 4 0),(5,.str s10),(1000001,.tab .u64 Lib.pow10Tab)]
def f123 (x1:List Tq1) (x2:List Tq0) (x3 x4:Int) (x5:List UInt8):Option aBl:=
 (f150 x3 x4).bind fun(r6:Bool)=>
 if(((!r6)||(x5==[]))||(decide (((x5.length:Nat):Int)>(200:Int))))then(
 some (x1,x2,cs3)
 )else(
 (f151 x2 x3).bind fun(r7:Tq4)=>
 chk ((r7.2==true)=true→0≤r7.1∧r7.1<(((x2).length:Nat):Int))<|
 if(r7.2&&(decide ((x2.getD ((r7.1).toNat) (default:Tq0)).2.1>x4)))then(
 some (x1,x2,cs4)
 )else(
 chk ((r7.2==true)=true→0≤r7.1∧r7.1<(((x2).length:Nat):Int))<|
 if(r7.2&&((x2.getD ((r7.1).toNat) (default:Tq0)).2.1==x4))then(
 chk (0≤r7.1∧r7.1<(((x2).length:Nat):Int))<|
 some (x1,x2,(x2.getD ((r7.1).toNat) (default:Tq0)).2.2)
 )else(
 jn (fun((s10,l11):List UInt8×Ty4)=>
 (f154 x2).bind fun(r12:List Tq0)=>
 jn (fun(l13:List Tq0)=>
 some (l11,l13,s10)
 ) fun(K2:Ty2→Option aBl)=>
 if r7.2 then(
 chk (0≤r7.1∧r7.1<(((r12).length:Nat):Int))<|
 chk (((r7.1).toNat)<(r12).length)<|
 K2 (r12.set ((r7.1).toNat) (x3,x4,s10))
 )else(
 (f155 r7.1 r12 [(x3,x4,s10)]).bind fun(r14:Ty2×Ty2)=>
 K2 r14.1
 )
 ) fun(K1:(List UInt8×Ty4)→Option aBl)=>
 (f152 x5).bind fun(r8:Tq8)=>
 if(r8.2.2.2.2==(0:Int))then(
 (aBb x1 r8.1 r8.2.1 r8.2.2.1 r8.2.2.2.1).bind fun(r9:Ty4×List UInt8)=>
 K1 (r9.2,r9.1)
 )else(
 K1 (cs5,x1)
 )
 )
 )
 )
theorem f123_ok (x1:List Tq1) (x2:List Tq0) (x3 x4:Int) (x5:List UInt8) (r:Ty4×Ty2×List UInt8) (h:f123 x1 x2 x3 x4 x5=some r):aH Tryz.prog 123 [(1,.tab .u64 Lib.pow10Tab)] [] [] [.agg [vL 3 cH (default:Tq1) x1,vL 3 bW (default:Tq0) x2],.agg [.int .i64 x3,.int .i64 x4,.str x5]] (.tup [.agg [vL 3 cH (default:Tq1) r.1,vL 3 bW (default:Tq0) r.2.1],.str r.2.2]) []:=by
 unfold f123 at h;refine aH.bodyD [4] 0 _ _ Tryz.func123 rfl Tryz.ntmps123 rfl rfl ?_;refine bJ [] [] [2,3,4,1000001] [2,3,4] trivial ?_;refine AWp.seq (AWp.seq ?_);obtain⟨r6,hr6,h⟩:=bind_ok h;have ob0:=idA (((!r6)==false)=true);have ob1:=idA (((!r6)==false)=true);have ob2:=bqA (!r6) false;have ob3:=idA ((((!r6)||(x5==[]))==false)=true);have ob4:=idA ((((!r6)||(x5==[]))==false)=true);have ob5:=idA ((((!r6)||(x5==[]))==false)=true);have ob6:=bqA ((!r6)||(x5==[])) false;refine cA [] [(4,⟨[.i x3,.i x4],[],[],[],.bool r6,[],[],[]⟩)] [2,3,4,28,1000001] [2,3,4] (ac6 (cpT (f150_ok _ _ _ hr6)) (an1 ob0) (an1 ob1) ob2 (an1 ob3) (an1 ob4) (an2 (an1 ob5) ob6)) ?_;refine tN ?_;refine AWp.cond (b:=(((!r6)||(x5==[]))||(decide ((lZ x5)>(200:Int))))) (by kernel_rfl) (fun hc1=> ?_) (fun hc1=> ?_)
 ·
  replace h:=aE hc1 h;refine aU [] [] ⟨111,[(4,.ptr 4 0),(5,.str cs3)],[(4,.cells 92 (vQ x1 x2))],[],0⟩ (an1 trivial) ?_;have hret:=Option.some.inj h;subst hret;refine AWp.ret (tR ?_);exact bR _ rfl ⟨rfl,rfl⟩ rfl
 ·
  replace h:=aF hc1 h;refine AWp.skip (tN (AWp.seq ?_));obtain⟨r7,hr7,h⟩:=bind_ok h;refine cA [] [(4,⟨[aT x2,.i x3],[],[],[],.tup [.i r7.1,.bool r7.2],[],[],[]⟩)] [2,3,4,6,7,1000001] [2,3,4] (an1 (cpT (f151_ok _ _ _ hr7))) ?_;refine tN (AWp.seq (AWp.seq ?_));have ob7:=idA ((r7.2==true)=true);obtain⟨ob8,h⟩:=aB h;have ob9:=idA ((r7.2==true)=true);have ob10:=idA ((r7.2==true)=true);have ob11:=idA ((r7.2==true)=true);have ob12:=idA ((r7.2==true)=true);have ob13:=idA ((r7.2==true)=true);have ob14:=idA ((r7.2==true)=true);have ob15:=idA ((r7.2==true)=true);have ob16:=bqA (r7.2) true;refine cA [] [] [2,3,4,6,7,49,1000001] [2,3,4] (ac6 (an1 ob7) (And.intro ob8 (an2 ob9 ob10)) (an1 ob11) (an1 ob12) (an1 ob13) (an2 ob14 ob15) (an1 ob16)) ?_;refine tN ?_;refine AWp.cond (b:=(r7.2&&(decide ((x2.getD ((r7.1).toNat) bB).2.1>x4)))) (by kernel_rfl) (fun hc2=> ?_) (fun hc2=> ?_)
  ·
   replace h:=aE hc2 h;refine aU [] [] ⟨111,[(4,.ptr 4 0),(5,.str cs4)],[(4,.cells 92 (vQ x1 x2))],[],0⟩ (an1 trivial) ?_;have hret:=Option.some.inj h;subst hret;refine AWp.ret (tR ?_);exact bR _ rfl ⟨rfl,rfl⟩ rfl
  ·
   replace h:=aF hc2 h;refine AWp.skip (tN (AWp.seq (AWp.seq ?_)));have ob17:=idA ((r7.2==true)=true);obtain⟨ob18,h⟩:=aB h;have ob19:=idA ((r7.2==true)=true);have ob20:=idA ((r7.2==true)=true);have ob21:=idA ((r7.2==true)=true);have ob22:=idA ((r7.2==true)=true);have ob23:=idA ((r7.2==true)=true);have ob24:=idA ((r7.2==true)=true);have ob25:=idA ((r7.2==true)=true);have ob26:=bqA (r7.2) true;refine cA [] [] [2,3,4,6,7,62,1000001] [2,3,4] (ac6 (an1 ob17) (And.intro ob18 (an2 ob19 ob20)) (an1 ob21) (an1 ob22) (an1 ob23) (an2 ob24 ob25) (an1 ob26)) ?_;refine tN ?_;refine AWp.cond (b:=(r7.2&&((x2.getD ((r7.1).toNat) bB).2.1==x4))) (by kernel_rfl) (fun hc3=> ?_) (fun hc3=> ?_)
   ·
    replace h:=aE hc3 h;refine AWp.seq ?_;obtain⟨ob27,h⟩:=aB h;refine aZ [] [] ⟨111,[(4,.ptr 4 0),(5,.str (x2.getD ((r7.1).toNat) bB).2.2)],[(4,.cells 92 (vQ x1 x2))],[],0⟩ (an2 ob27 trivial) ?_;refine tN ?_;have hret:=Option.some.inj h;subst hret;refine AWp.ret (tR ?_);exact bR _ rfl ⟨rfl,rfl⟩ rfl
   ·
    replace h:=aF hc3 h;refine AWp.skip (tN ?_);refine aU [] [] ⟨111,[(2,.ptr 2 0),(3,.ptr 3 0),(4,.ptr 4 0),(6,.i r7.1),(7,.bool r7.2),(8,.str cs5),(1000001,.tab .u64 Lib.pow10Tab)],(f123z2 x1 x2 x3 x4 x5),[],0⟩ trivial ?_;obtain⟨K1,hK1,h⟩:=aS h;refine AWp.join (fun(x:List UInt8×Ty4)=>match x with|(s10,l11)=>⟨111,[(2,.ptr 2 0),(3,.ptr 3 0),(4,.ptr 4 0),(6,.i r7.1),(7,.bool r7.2),(8,.str s10),(1000001,.tab .u64 Lib.pow10Tab)],[(2,.cells 92 [aV l11,aT x2]),(3,.cells 88 [.i x3,.i x4,.str x5]),(4,.cells 92 [.nils,.nils])],[],0⟩) (fun x=>K1 x=some r) ?_ ?_
    ·
     refine AWp.seq ?_;obtain⟨r8,hr8,h⟩:=bind_ok h;refine cA [] [(2,⟨[.str x5],[],[],[],.tup [.agg (f123z4 r8),.i r8.2.2.2.2],[],[],[]⟩)] [2,3,4,6,7,8,9,10,1000001] [2,3,4,9] (an2 (cpT (f152_ok _ _ hr8)) trivial) ?_;refine tN ?_;refine aU [] [] ⟨111,[(2,.ptr 2 0),(3,.ptr 3 0),(4,.ptr 4 0),(6,.i r7.1),(7,.bool r7.2),(8,.str cs5),(9,.ptr 9 0),(77,.bool (r8.2.2.2.2==(0:Int))),(1000001,.tab .u64 Lib.pow10Tab)],[(2,.cells 92 (vQ x1 x2)),(3,.cells 88 [.i x3,.i x4,.str x5]),(4,.cells 92 [.nils,.nils]),(9,.cells 164 (f123z4 r8))],[],0⟩ trivial ?_;refine AWp.cond (b:=(r8.2.2.2.2==(0:Int))) (by kernel_rfl) (fun hc4=> ?_) (fun hc4=> ?_)
     ·
      replace h:=aE hc4 h;obtain⟨r9,hr9,h⟩:=bind_ok h;refine aZ [] [(3,⟨[aV x1,.agg (f123z4 r8)],[],[],[],.tup [aV r9.1,.str r9.2],[],[],[1]⟩)] ⟨111,[(2,.ptr 2 0),(3,.ptr 3 0),(4,.ptr 4 0),(6,.i r7.1),(7,.bool r7.2),(8,.str r9.2),(1000001,.tab .u64 Lib.pow10Tab)],[(2,.cells 92 [aV r9.1,aT x2]),(3,.cells 88 [.i x3,.i x4,.str x5]),(4,.cells 92 [.nils,.nils])],[],0⟩ (an2 (cpT (f153_ok _ _ _ _ _ _ hr9)) trivial) ?_;exact jN (r9.2,r9.1) LR h
     ·
      replace h:=aF hc4 h;refine AWp.skip ?_;exact jN (cs5,x1) LR h
    ·
     rintro⟨s10,l11⟩ h;replace h:=(congrFun hK1 _).symm.trans h;refine bJ [] [] [2,4,6,7,8,11,1000001] [2,4,11] (an1 trivial) ?_;refine AWp.seq ?_;obtain⟨r12,hr12,h⟩:=bind_ok h;refine aZ [] [(2,⟨[aT x2],[],[],[(6001,bD r12)],.own 6001,[6001],[],[]⟩)] ⟨111,[(2,.ptr 2 0),(4,.ptr 4 0),(6,.i r7.1),(7,.bool r7.2),(8,.str s10),(11,.ptr 11 0),(1000001,.tab .u64 Lib.pow10Tab)],[(2,.cells 92 (qU l11)),(4,.cells 92 [.nils,.nils]),(11,.cells 160 [.i x3,.i x4,.str s10]),(6001,bD r12)],[],0⟩ (an2 (cpT (aH.ren (bA 3000 6001) (aD 3000 6001) rfl (f154_ok _ _ hr12))) trivial) ?_;refine tN ?_;obtain⟨K2,hK2,h⟩:=aS h;refine AWp.join (α:=List Tq0) (fun(l13:List Tq0)=>⟨111,(aAm s10),[(2,.cells 92 (qU l11)),(4,.cells 92 [.nils,.nils]),(6001,bD l13)],[],0⟩) (fun x=>K2 x=some r) ?_ ?_
     ·
      refine bJ [] [] [2,4,6,8,11,96,1000001] [2,4,11,6001] trivial ?_;refine AWp.cond (b:=r7.2) (by kernel_rfl) (fun hc5=> ?_) (fun hc5=> ?_)
      ·
       replace h:=aE hc5 h;obtain⟨ob28,ob29,h⟩:=ck2 h;refine aZ [] [] ⟨111,(aAm s10),[(2,.cells 92 (qU l11)),(4,.cells 92 [.nils,.nils]),(6001,.rows 160 3 (r12).length (aBn (cD bW bB r12) ((r7.1).toNat) 0 [.i x3,.i x4,.str s10]))],[],0⟩ (an2 ob28 ob29) ?_;exact jN ((r12.set ((r7.1).toNat) (x3,x4,s10))) (Le.trans (Le.mk (s':=⟨111,(aAm s10),[(2,.cells 92 (qU l11)),(4,.cells 92 [.nils,.nils]),(6001,bD (r12.set ((r7.1).toNat) (x3,x4,s10)))],[],0⟩) rfl rfl ⟨.refl _,.refl _,.refl _,.refl _,trivial⟩ ⟨⟨_,rfl,.refl _⟩,⟨_,rfl,.refl _⟩,⟨_,rfl,(BLe.of (RL.set (x3,x4,s10) (RL.self _) (by intro j hj;match j,hj with|0,_=>rfl|1,_=>rfl|2,_=>rfl)))⟩,trivial⟩) LR) h
      ·
       replace h:=aF hc5 h;obtain⟨r14,hr14,h⟩:=bind_ok h;refine aZ [] [(5,⟨[.own 6001,.i r7.1,.own 106],[6001,106],[106],[(6001,bD r14.1),(106,bD r14.2)],.own 6001,[6001],[],[]⟩)] ⟨111,(aAm s10),[(2,.cells 92 (qU l11)),(4,.cells 92 [.nils,.nils]),(6001,bD r14.1)],[],0⟩ (an2 (cpT (Spec.heap (h0:=[(6001,bD r12),(106,.rows 160 3 1 (dH 3 [.i x3,.i x4,.str s10]))]) (aH.ren (bA 2001 106) (aD 2001 106) rfl (aH.ren (bA 2000 6001) (aD 2000 6001) rfl (f155_ok _ _ _ _ hr14))) ⟨⟨_,rfl,.refl _⟩,⟨_,rfl,(BLe.of (RL.lst (enc:=bW) [(x3,x4,s10)] rfl rfl (fun _=>rfl)))⟩,trivial⟩)) trivial) ?_;exact jN (r14.1) LR h
     ·
      rintro l13 h;replace h:=(congrFun hK2 _).symm.trans h;refine aU [] [] ⟨111,(f123z5 s10),[(4,.cells 92 (qU l11)),(6001,bD l13)],[],0⟩ (an1 trivial) ?_;refine AWp.le (Le.trans (Le.freeze 6001 rfl rfl) (LR (s':=⟨111,(f123z5 s10),[(4,.cells 92 [aV l11,aT l13])],[],0⟩))) ?_;have hret:=Option.some.inj h;subst hret;refine AWp.le (LR (s':=⟨111,[(4,.ptr 4 0),(5,.str s10)],[(4,.cells 92 [aV l11,aT l13])],[],0⟩)) ?_;refine AWp.ret ?_;exact bR _ rfl ⟨rfl,rfl⟩ rfl
def mK (r4:Int×Int×Ty2×Int) (K1:(Ty4×Ty2×Ty2)→Option (Ty4×Ty2×Ty2)):Nat→(Nat×Ty4×Ty2×Ty2)→Option (Ty4×Ty2×Ty2)
 |0,_=>none
 |k+1,(n5,l6,l7,l8)=>
  if(decide ((n5:Int)<(((r4.2.2.1).length:Nat):Int)))then(
  chk ((n5:Int)<(((r4.2.2.1).length:Nat):Int))<|
  (f123 l6 l7 ((r4.2.2.1.getD n5 (default:Tq0)).1) ((r4.2.2.1.getD n5 (default:Tq0)).2.1) ((r4.2.2.1.getD n5 (default:Tq0)).2.2)).bind fun(r9:Ty4×Ty2×List UInt8)=>
  chk (((l8).length+1) *32≤140737488355328)<|
  chk (((n5:Int)+(1:Int))≤9223372036854775807)<|
  (mK r4 K1 k) ((n5+1),r9.1,r9.2.1,(l8++[((r4.2.2.1.getD n5 (default:Tq0)).1,(r4.2.2.1.getD n5 (default:Tq0)).2.1,r9.2.2)]))
  )else(
  K1 (l6,l7,l8)
  )
abbrev xC (x1:List Tq1) (x2:List Tq0):List V:=[vL 3 cH (default:Tq1) x1,vL 3 bW (default:Tq0) x2]
abbrev oN (r4:Int×Int×Ty2×Int) (n5:Nat):=(r4.2.2.1.getD n5 (default:Tq0))
abbrev f90z2 (r4:Int×Int×Ty2×Int) (n5:Nat):List (Nat×V):=[(2,.ptr 2 0),(4,.ptr 4 0),(8,.own 5008),(21,vL 3 bW (default:Tq0) r4.2.2.1),(22,.int .i64 (((r4.2.2.1).length:Nat):Int)),(23,.int .i64 (n5:Int)),(1000001,.tab .u64 Lib.pow10Tab),(1000002,bF),(1000003,bF)]
abbrev f90z3 (r9:Ty4×Ty2×List UInt8):List V:=[vL 3 cH (default:Tq1) r9.1,vL 3 bW (default:Tq0) r9.2.1]
abbrev f90z4 (l6:List Tq1) (l7:List Tq0):List V:=[vL 3 cH (default:Tq1) l6,vL 3 bW (default:Tq0) l7]
abbrev f90z5 (l10:List Tq1) (l11:List Tq0):List V:=[vL 3 cH (default:Tq1) l10,vL 3 bW (default:Tq0) l11]
abbrev f90z6 (r4:Int×Int×Ty2×Int):List V:=[.int .i64 r4.1,.int .i64 r4.2.1,vL 3 bW (default:Tq0) r4.2.2.1]
abbrev f90z7 (r4:Int×Int×Ty2×Int) (n5:Nat):List V:=[.int .i64 (oN r4 n5).1,.int .i64 (oN r4 n5).2.1,.str (oN r4 n5).2.2]
abbrev f90z8 :=Ty2
abbrev f90z9 (r9:Ty4×Ty2×List UInt8) (l8:List Tq0) (r4:Int×Int×Ty2×Int) (n5:Nat):aK:=[(2,.cells 92 (f90z3 r9)),(4,.cells 92 [.nils,.nils]),(5008,bL 98 3 bW (default:Tq0) (l8++[((oN r4 n5).1,(oN r4 n5).2.1,r9.2.2)]))]
abbrev f90z10 (l6:List Tq1) (l7 l8:List Tq0):aK:=[(2,.cells 92 (f90z4 l6 l7)),(4,.cells 92 [.nils,.nils]),(5008,bL 98 3 bW (default:Tq0) l8)]
def f90 (x1:List Tq1) (x2:List Tq0) (x3:List UInt8):Option (Ty4×Ty2×Ty2):=
 (f68 x3).bind fun(r4:Int×Int×Ty2×Int)=>
 if(r4.2.2.2 !=(0:Int))then(
 some (x1,x2,[])
 )else(
 jn (fun((l10,l11,l12):Ty4×Ty2×Ty2)=>
 some (l10,l11,l12)
 ) fun(K1:(Ty4×Ty2×Ty2)→Option (Ty4×Ty2×Ty2))=>
 mK r4 K1 bG (0,x1,x2,[])
 )
theorem f90_ok (x1:List Tq1) (x2:List Tq0) (x3:List UInt8) (r:Ty4×Ty2×Ty2) (h:f90 x1 x2 x3=some r):aH Tryz.prog 90 [(1,.tab .u64 Lib.pow10Tab),(2,bF),(3,bF)] [] [] [.agg [vL 3 cH (default:Tq1) x1,vL 3 bW (default:Tq0) x2],.str x3] (.tup [.agg [vL 3 cH (default:Tq1) r.1,vL 3 bW (default:Tq0) r.2.1],.own 3000]) [(3000,bL 98 3 bW (default:Tq0) r.2.2)]:=by
 unfold f90 at h;refine aH.bodyD [4] 0 _ _ Tryz.func90 rfl Tryz.ntmps90 rfl rfl ?_;refine bJ [] [] [1,2,4,1000001,1000002,1000003] [2,4] trivial ?_;refine AWp.seq ?_;obtain⟨r4,hr4,h⟩:=bind_ok h;refine cA [] [(1,⟨[.str x3],[],[],[],.tup [.agg (f90z6 r4),.i r4.2.2.2],[],[],[1,2,3]⟩)] [2,4,6,7,1000001,1000002,1000003] [2,4,6] (an2 (cpT (f68_ok _ _ hr4)) trivial) ?_;refine tN (AWp.seq ?_);refine bJ [] [] [2,4,6,18,1000001,1000002,1000003] [2,4,6] trivial ?_;refine AWp.cond (b:=(r4.2.2.2 !=(0:Int))) (by kernel_rfl) (fun hc1=> ?_) (fun hc1=> ?_)
 ·
  replace h:=aE hc1 h;refine aU [] [] ⟨45,[(4,.ptr 4 0),(5,.nils),(1000001,.tab .u64 Lib.pow10Tab),(1000002,bF),(1000003,bF)],[(4,.cells 92 (xC x1 x2))],[],0⟩ (an1 trivial) ?_;refine AWp.le (Le.trans (Le.nilOwn 5 3000 98 3 (cD bW bB []) rfl rfl (Nat.le_of_ble_eq_true rfl)) (LR (s':=⟨45,[(4,.ptr 4 0),(5,.own 3000),(1000001,.tab .u64 Lib.pow10Tab),(1000002,bF),(1000003,bF)],[(4,.cells 92 (xC x1 x2)),(3000,bH [])],[],0⟩))) ?_;have hret:=Option.some.inj h;subst hret;refine AWp.le (LR (s':=⟨45,[(4,.ptr 4 0),(5,.own 3000)],[(3000,bH []),(4,.cells 92 (xC x1 x2))],[],0⟩)) ?_;refine AWp.ret (tR ?_);exact bR _ rfl ⟨rfl,rfl⟩ rfl
 ·
  replace h:=aF hc1 h;refine AWp.skip (tN ?_);refine aU [] [] ⟨45,[(2,.ptr 2 0),(4,.ptr 4 0),(6,.ptr 6 0),(8,.nils),(1000001,.tab .u64 Lib.pow10Tab),(1000002,bF),(1000003,bF)],[(2,.cells 92 (xC x1 x2)),(4,.cells 92 [.nils,.nils]),(6,.cells 100 (f90z6 r4))],[],0⟩ trivial ?_;obtain⟨K1,hK1,h⟩:=aS h;refine AWp.join (fun(x:Ty4×(f90z8)×(f90z8))=>match x with|(l10,l11,l12)=>⟨45,[(2,.ptr 2 0),(4,.ptr 4 0),(8,.own 5008),(1000001,.tab .u64 Lib.pow10Tab),(1000002,bF),(1000003,bF)],[(2,.cells 92 (f90z5 l10 l11)),(4,.cells 92 [.nils,.nils]),(5008,bH l12)],[],0⟩) (fun x=>K1 x=some r) ?_ ?_
  ·
   refine aU [] [] ⟨45,[(2,.ptr 2 0),(4,.ptr 4 0),(8,.nils),(21,aT r4.2.2.1),(22,.i (lZ r4.2.2.1)),(23,.i (0:Int)),(1000001,.tab .u64 Lib.pow10Tab),(1000002,bF),(1000003,bF)],[(2,.cells 92 (xC x1 x2)),(4,.cells 92 [.nils,.nils])],[],0⟩ trivial ?_;refine AWp.block ?_;refine AWp.loopL (α:=Nat×(Nat×Ty4×(f90z8)×(f90z8))) (fun x=>match x with|(_,n5,l6,l7,l8)=>⟨45,(f90z2 r4 n5),(f90z10 l6 l7 l8),[],0⟩) (fun x=>mK r4 K1 x.1 x.2=some r) (fun x=>x.1) (bG,0,x1,x2,[]) (Le.trans (Le.trans (Le.nilOwn 8 5008 98 3 (cD bW bB []) rfl rfl (Nat.le_of_ble_eq_true rfl)) (LR (s':=⟨45,[(2,.ptr 2 0),(4,.ptr 4 0),(8,.own 5008),(21,aT r4.2.2.1),(22,.i (lZ r4.2.2.1)),(23,.i (0:Int)),(1000001,.tab .u64 Lib.pow10Tab),(1000002,bF),(1000003,bF)],[(2,.cells 92 (xC x1 x2)),(4,.cells 92 [.nils,.nils]),(5008,bH [])],[],0⟩))) (LR (s':=⟨45,[(2,.ptr 2 0),(4,.ptr 4 0),(8,.own 5008),(21,aT r4.2.2.1),(22,.i (lZ r4.2.2.1)),(23,.i (0:Int)),(1000001,.tab .u64 Lib.pow10Tab),(1000002,bF),(1000003,bF)],[(2,.cells 92 (xC x1 x2)),(4,.cells 92 [.nils,.nils]),(5008,bH [])],[],0⟩))) h ?_
   rintro⟨k0,n5,l6,l7,l8⟩ h
   cases k0 with
   |zero=>exact nomatch (show none=some r from h)
   |succ k0=>
   obtain⟨C0,hC0⟩:∃C,C=mK r4 K1 k0:=⟨_,rfl⟩;replace h:=(mK.eq_2 ..).symm.trans h
   try rw[←hC0]at h
   refine aU [] [] ⟨45,[(2,.ptr 2 0),(4,.ptr 4 0),(8,.own 5008),(21,aT r4.2.2.1),(22,.i (lZ r4.2.2.1)),(23,.i (n5:Int)),(24,.bool (decide ((n5:Int)<(lZ r4.2.2.1)))),(1000001,.tab .u64 Lib.pow10Tab),(1000002,bF),(1000003,bF)],(f90z10 l6 l7 l8),[],0⟩ trivial ?_;refine AWp.seq ?_;refine AWp.cond (b:=(decide ((n5:Int)<(lZ r4.2.2.1)))) (by kernel_rfl) (fun hc2=> ?_) (fun hc2=> ?_)
   ·
    replace h:=aE hc2 h;refine AWp.skip (tN (AWp.seq (AWp.block (AWp.seq ?_))));obtain⟨ob0p,h⟩:=aB h;have ob0:0≤(n5:Int)∧(n5:Int)<(((r4.2.2.1).length:Nat):Int):=⟨by omega,ob0p⟩;refine cA [] [] [2,4,8,10,21,22,23,1000001,1000002,1000003] [2,4,10,5008] (an2 ob0 trivial) ?_;refine tN ?_;refine bJ [] [] [2,4,8,10,21,22,23,1000001,1000002,1000003] [2,4,10,5008] trivial ?_;refine AWp.seq ?_;obtain⟨r9,hr9,h⟩:=bind_ok h;refine cA [] [(2,⟨[.agg (f90z4 l6 l7),.agg (f90z7 r4 n5)],[],[],[],.tup [.agg (f90z3 r9),.str r9.2.2],[],[],[1]⟩)] [2,4,8,10,11,21,22,23,1000001,1000002,1000003] [2,4,10,5008] (an2 (cpT (f123_ok _ _ _ _ _ _ hr9)) trivial) ?_;refine tN ?_;obtain⟨ob1,h⟩:=aB h;refine aZ [] [] ⟨45,(f90z2 r4 n5),[(2,.cells 92 (f90z3 r9)),(4,.cells 92 [.nils,.nils]),(5008,.rows 98 3 ((l8).length+1) (gF (l8).length (cD bW bB l8) (dH 3 [.i (oN r4 n5).1,.i (oN r4 n5).2.1,.str r9.2.2])))],[],0⟩ (an1 ob1) ?_;refine kN (tN ?_);refine AWp.le (Le.mk (s':=⟨45,(f90z2 r4 n5),(f90z9 r9 l8 r4 n5),[],0⟩) rfl rfl ⟨.refl _,.refl _,.refl _,.refl _,.refl _,.refl _,.refl _,.refl _,.refl _,trivial⟩ ⟨⟨_,rfl,.refl _⟩,⟨_,rfl,.refl _⟩,⟨_,rfl,(BLe.of (RL.app (RL.self _) (RL.lst (enc:=bW) [((oN r4 n5).1,(oN r4 n5).2.1,r9.2.2)] rfl rfl (fun _=>rfl))))⟩,trivial⟩) ?_;obtain⟨ob2p,h⟩:=aB h;have ob2: -9223372036854775808≤((n5:Int)+(1:Int))∧((n5:Int)+(1:Int))≤9223372036854775807:=⟨by omega,ob2p⟩;refine aZ [] [] ⟨45,[(2,.ptr 2 0),(4,.ptr 4 0),(8,.own 5008),(21,aT r4.2.2.1),(22,.i (lZ r4.2.2.1)),(23,.i (((n5+1):Nat):Int)),(1000001,.tab .u64 Lib.pow10Tab),(1000002,bF),(1000003,bF)],(f90z9 r9 l8 r4 n5),[],0⟩ (an1 ob2) ?_;rw[hC0]at h;exact lN (_,(n5+1),r9.1,r9.2.1,(l8++[((oN r4 n5).1,(oN r4 n5).2.1,r9.2.2)])) LR h (Nat.lt_succ_self _)
   ·
    replace h:=aF hc2 h;refine AWp.exit (tE (tE (kS ?_)));exact jN (l6,l7,l8) LR h
  ·
   rintro⟨l10,l11,l12⟩ h;replace h:=(congrFun hK1 _).symm.trans h;refine aU [] [] ⟨45,[(4,.ptr 4 0),(5,.own 5008),(1000001,.tab .u64 Lib.pow10Tab),(1000002,bF),(1000003,bF)],[(4,.cells 92 (f90z5 l10 l11)),(5008,bH l12)],[],0⟩ (an1 trivial) ?_;refine AWp.le (Le.trans (Le.ren (bA 5008 3000) (aD 5008 3000) rfl) (LR (s':=⟨45,[(4,.ptr 4 0),(5,.own 3000),(1000001,.tab .u64 Lib.pow10Tab),(1000002,bF),(1000003,bF)],[(4,.cells 92 (f90z5 l10 l11)),(3000,bH l12)],[],0⟩))) ?_;have hret:=Option.some.inj h;subst hret;refine AWp.le (LR (s':=⟨45,[(4,.ptr 4 0),(5,.own 3000)],[(3000,bH l12),(4,.cells 92 (f90z5 l10 l11))],[],0⟩)) ?_;refine AWp.ret ?_;exact bR _ rfl ⟨rfl,rfl⟩ rfl
def mJ (x1:List Ty0) (K1:(Ty4×Ty2)→Option (Ty4×Ty2)):Nat→(Nat×Ty4×Ty2)→Option (Ty4×Ty2)
 |0,_=>none
 |k+1,(n3,l4,l5)=>
  if(decide ((n3:Int)<(((x1).length:Nat):Int)))then(
  chk ((n3:Int)<(((x1).length:Nat):Int))<|
  (f90 l4 l5 (x1.getD n3 [])).bind fun(r6:Ty4×Ty2×Ty2)=>
  chk (((n3:Int)+(1:Int))≤9223372036854775807)<|
  (mJ x1 K1 k) ((n3+1),r6.1,r6.2.1)
  )else(
  K1 (l4,l5)
  )
abbrev f91z0 (l4:List Tq1) (l5:List Tq0):aK:=[(2,.cells 92 [.nils,.nils]),(3,.cells 92 [vL 3 cH (default:Tq1) l4,vL 3 bW (default:Tq0) l5])]
abbrev f91z1 (r2:Ty4×Ty2):List V:=[vL 3 cH (default:Tq1) r2.1,vL 3 bW (default:Tq0) r2.2]
abbrev f91z2 (r6:Ty4×Ty2×Ty2):List V:=[vL 3 cH (default:Tq1) r6.1,vL 3 bW (default:Tq0) r6.2.1]
abbrev f91z3 (l7:List Tq1) (l8:List Tq0):List V:=[vL 3 cH (default:Tq1) l7,vL 3 bW (default:Tq0) l8]
def f91 (x1:List Ty0):Option (Ty4×Ty2):=
 (f124).bind fun(r2:Ty4×Ty2)=>
 jn (fun((l7,l8):Ty4×Ty2)=>
 some (l7,l8)
 ) fun(K1:(Ty4×Ty2)→Option (Ty4×Ty2))=>
 mJ x1 K1 bG (0,r2.1,r2.2)
theorem f91_ok (x1:List Ty0) (r:Ty4×Ty2) (h:f91 x1=some r):aH Tryz.prog 91 [(1,.tab .u64 Lib.pow10Tab),(2,bF),(3,bF)] [] [] [vL 1 eS [] x1] (.agg [vL 3 cH (default:Tq1) r.1,vL 3 bW (default:Tq0) r.2]) []:=by
 unfold f91 at h;refine aH.bodyD [2] 0 _ _ Tryz.func91 rfl Tryz.ntmps91 rfl rfl ?_;refine bJ [] [] [0,2,1000001,1000002,1000003] [2] trivial ?_;refine AWp.seq ?_;obtain⟨r2,hr2,h⟩:=bind_ok h;refine aZ [] [(0,⟨[],[],[],[],.agg (f91z1 r2),[],[],[]⟩)] ⟨21,[(0,cS x1),(2,.ptr 2 0),(3,.ptr 3 0),(1000001,.tab .u64 Lib.pow10Tab),(1000002,bF),(1000003,bF)],[(2,.cells 92 [.nils,.nils]),(3,.cells 92 (f91z1 r2))],[],0⟩ (an2 (cpT (f124_ok _ hr2)) trivial) ?_;refine tN ?_;obtain⟨K1,hK1,h⟩:=aS h;refine AWp.join (fun(x:Ty4×Ty2)=>match x with|(l7,l8)=>⟨21,[(2,.ptr 2 0),(3,.ptr 3 0),(1000001,.tab .u64 Lib.pow10Tab),(1000002,bF),(1000003,bF)],[(2,.cells 92 [.nils,.nils]),(3,.cells 92 (f91z3 l7 l8))],[],0⟩) (fun x=>K1 x=some r) ?_ ?_
 ·
  refine aU [] [] ⟨21,[(2,.ptr 2 0),(3,.ptr 3 0),(7,cS x1),(8,.i (lZ x1)),(9,.i (0:Int)),(1000001,.tab .u64 Lib.pow10Tab),(1000002,bF),(1000003,bF)],[(2,.cells 92 [.nils,.nils]),(3,.cells 92 (f91z1 r2))],[],0⟩ trivial ?_;refine AWp.block ?_;refine AWp.loopL (α:=Nat×(Nat×Ty4×Ty2)) (fun x=>match x with|(_,n3,l4,l5)=>⟨21,[(2,.ptr 2 0),(3,.ptr 3 0),(7,cS x1),(8,.i (lZ x1)),(9,.i (n3:Int)),(1000001,.tab .u64 Lib.pow10Tab),(1000002,bF),(1000003,bF)],(f91z0 l4 l5),[],0⟩) (fun x=>mJ x1 K1 x.1 x.2=some r) (fun x=>x.1) (bG,0,r2.1,r2.2) (LR (s':=⟨21,[(2,.ptr 2 0),(3,.ptr 3 0),(7,cS x1),(8,.i (lZ x1)),(9,.i (0:Int)),(1000001,.tab .u64 Lib.pow10Tab),(1000002,bF),(1000003,bF)],[(2,.cells 92 [.nils,.nils]),(3,.cells 92 (f91z1 r2))],[],0⟩)) h ?_
  rintro⟨k0,n3,l4,l5⟩ h
  cases k0 with
  |zero=>exact nomatch (show none=some r from h)
  |succ k0=>
  obtain⟨C0,hC0⟩:∃C,C=mJ x1 K1 k0:=⟨_,rfl⟩;replace h:=(mJ.eq_2 ..).symm.trans h
  try rw[←hC0]at h
  refine aU [] [] ⟨21,[(2,.ptr 2 0),(3,.ptr 3 0),(7,cS x1),(8,.i (lZ x1)),(9,.i (n3:Int)),(10,.bool (decide ((n3:Int)<(lZ x1)))),(1000001,.tab .u64 Lib.pow10Tab),(1000002,bF),(1000003,bF)],(f91z0 l4 l5),[],0⟩ trivial ?_;refine AWp.seq ?_;refine AWp.cond (b:=(decide ((n3:Int)<(lZ x1)))) (by kernel_rfl) (fun hc1=> ?_) (fun hc1=> ?_)
  ·
   replace h:=aE hc1 h;refine AWp.skip (tN (AWp.seq (AWp.block (AWp.seq ?_))));obtain⟨ob0p,h⟩:=aB h;have ob0:0≤(n3:Int)∧(n3:Int)<(((x1).length:Nat):Int):=⟨by omega,ob0p⟩;refine cA [] [] [2,3,5,7,8,9,1000001,1000002,1000003] [2,3] (an1 ob0) ?_;refine tN ?_;obtain⟨r6,hr6,h⟩:=bind_ok h;refine aZ [] [(2,⟨[.agg [aV l4,aT l5],.str (x1.getD n3 [])],[],[],[(6001,bH r6.2.2)],.tup [.agg (f91z2 r6),.own 6001],[6001],[],[1,2,3]⟩)] ⟨21,[(2,.ptr 2 0),(3,.ptr 3 0),(7,cS x1),(8,.i (lZ x1)),(9,.i (n3:Int)),(1000001,.tab .u64 Lib.pow10Tab),(1000002,bF),(1000003,bF)],[(2,.cells 92 [.nils,.nils]),(3,.cells 92 (f91z2 r6))],[],0⟩ (an2 (cpT (aH.ren (bA 3000 6001) (aD 3000 6001) rfl (f90_ok _ _ _ _ hr6))) trivial) ?_;refine kN (tN ?_);obtain⟨ob1p,h⟩:=aB h;have ob1: -9223372036854775808≤((n3:Int)+(1:Int))∧((n3:Int)+(1:Int))≤9223372036854775807:=⟨by omega,ob1p⟩;refine aZ [] [] ⟨21,[(2,.ptr 2 0),(3,.ptr 3 0),(7,cS x1),(8,.i (lZ x1)),(9,.i (((n3+1):Nat):Int)),(1000001,.tab .u64 Lib.pow10Tab),(1000002,bF),(1000003,bF)],[(2,.cells 92 [.nils,.nils]),(3,.cells 92 (f91z2 r6))],[],0⟩ (an1 ob1) ?_;rw[hC0]at h;exact lN (_,(n3+1),r6.1,r6.2.1) LR h (Nat.lt_succ_self _)
  ·
   replace h:=aF hc1 h;refine AWp.exit (tE (tE (kS ?_)));exact jN (l4,l5) LR h
 ·
  rintro⟨l7,l8⟩ h;replace h:=(congrFun hK1 _).symm.trans h;refine aU [] [] ⟨21,[(2,.ptr 2 0)],[(2,.cells 92 (f91z3 l7 l8))],[],0⟩ (an1 trivial) ?_;have hret:=Option.some.inj h;subst hret;refine AWp.ret ?_;exact bR _ rfl ⟨rfl,rfl⟩ rfl
abbrev f93z0 (x4 x5 x6 x7 x8:Int) (x9 x10:List UInt8):List V:=[.int .i64 x4,.int .i64 x5,.int .i64 x6,.int .i64 x7,.int .i64 x8,.str x9,.str x10,.opq,.opq,.opq,.opq,.opq,.opq,.opq,.opq,.opq,.opq,.opq,.opq,.opq,.opq,.opq,.opq,.opq,.opq,.opq,.opq,.opq]
def f93 (x1 x2:Int) (x3:List UInt8) (x4 x5 x6 x7 x8:Int) (x9 x10:List UInt8):Option (Bool×Int×Int×Int×Int×Int×List UInt8×List UInt8):=
 some (((x1==x6)&&(x2==x8)),x4,x5,x6,x7,x8,x9,x10)
theorem f93_ok (x1 x2:Int) (x3:List UInt8) (x4 x5 x6 x7 x8:Int) (x9 x10:List UInt8) (r:Bool×Int×Int×Int×Int×Int×List UInt8×List UInt8) (h:f93 x1 x2 x3 x4 x5 x6 x7 x8 x9 x10=some r):aH Tryz.prog 93 [] [2000] [(2000,.cells 51 [.int .i64 x4,.int .i64 x5,.int .i64 x6,.int .i64 x7,.int .i64 x8,.str x9,.str x10,.opq,.opq,.opq,.opq,.opq,.opq,.opq,.opq,.opq,.opq,.opq,.opq,.opq,.opq,.opq,.opq,.opq,.opq,.opq,.opq,.opq])] [.agg [.int .i64 x1,.int .i64 x2,.str x3],.ptr 2000 0] (.bool r.1) [(2000,.cells 51 [.int .i64 r.2.1,.int .i64 r.2.2.1,.int .i64 r.2.2.2.1,.int .i64 r.2.2.2.2.1,.int .i64 r.2.2.2.2.2.1,.str r.2.2.2.2.2.2.1,.str r.2.2.2.2.2.2.2,.opq,.opq,.opq,.opq,.opq,.opq,.opq,.opq,.opq,.opq,.opq,.opq,.opq,.opq,.opq,.opq,.opq,.opq,.opq,.opq,.opq])]:=by
 unfold f93 at h;refine aH.body 0 _ _ Tryz.func93 rfl Tryz.ntmps93 rfl rfl ?_;refine bJ [] [] [1,2] [2,2000] trivial ?_;refine AWp.seq ?_;have ob0:=idA (((x1==x6)==true)=true);have ob1:=idA (((x1==x6)==true)=true);have ob2:=idA (((x1==x6)==true)=true);have ob3:=idA (((x1==x6)==true)=true);have ob4:=bqA (x1==x6) true;refine aZ [] [] ⟨16,[(3,.bool ((x1==x6)&&(x2==x8)))],[(2000,.cells 51 (f93z0 x4 x5 x6 x7 x8 x9 x10))],[2000],0⟩ (an4 (an1 ob0) (an1 ob1) (an2 ob2 ob3) ob4) ?_;refine tN ?_;have hret:=Option.some.inj h;subst hret;refine AWp.ret ?_;exact bR _ rfl ⟨rfl,rfl⟩ rfl
def iE (x1:List Tq0) (K1:Tq9→Option Tq10):Nat→(Nat×Int×Int×Int×Int×Int×List UInt8×List UInt8)→Option Tq10
 |0,_=>none
 |k+1,(n9,i10,i11,i12,i13,i14,s15,s16)=>
  if(decide ((n9:Int)<(((x1).length:Nat):Int)))then(
  (f93 ((x1.getD n9 (default:Tq0)).1) ((x1.getD n9 (default:Tq0)).2.1) ((x1.getD n9 (default:Tq0)).2.2) i10 i11 i12 i13 i14 s15 s16).bind fun(r17:Bool×Int×Int×Int×Int×Int×List UInt8×List UInt8)=>
  chk ((n9:Int)<(((x1).length:Nat):Int))<|
  if r17.1 then(
  some ((n9:Int),r17.2.1,r17.2.2.1,r17.2.2.2.1,r17.2.2.2.2.1,r17.2.2.2.2.2.1,r17.2.2.2.2.2.2.1,r17.2.2.2.2.2.2.2)
  )else(
  chk (((n9:Int)+(1:Int))≤9223372036854775807)<|
  (iE x1 K1 k) ((n9+1),r17.2.1,r17.2.2.1,r17.2.2.2.1,r17.2.2.2.2.1,r17.2.2.2.2.2.1,r17.2.2.2.2.2.2.1,r17.2.2.2.2.2.2.2)
  )
  )else(
  K1 (i10,i11,i12,i13,i14,s15,s16)
  )
abbrev f92z0 (r17:Bool×Int×Int×Int×Int×Int×List UInt8×List UInt8):aK:=[(2000,.cells 51 [.int .i64 r17.2.1,.int .i64 r17.2.2.1,.int .i64 r17.2.2.2.1,.int .i64 r17.2.2.2.2.1,.int .i64 r17.2.2.2.2.2.1,.str r17.2.2.2.2.2.2.1,.str r17.2.2.2.2.2.2.2,.opq,.opq,.opq,.opq,.opq,.opq,.opq,.opq,.opq,.opq,.opq,.opq,.opq,.opq,.opq,.opq,.opq,.opq,.opq,.opq,.opq])]
abbrev f92z1 (i10 i11 i12 i13 i14:Int) (s15 s16:List UInt8):aK:=[(2000,.cells 51 [.int .i64 i10,.int .i64 i11,.int .i64 i12,.int .i64 i13,.int .i64 i14,.str s15,.str s16,.opq,.opq,.opq,.opq,.opq,.opq,.opq,.opq,.opq,.opq,.opq,.opq,.opq,.opq,.opq,.opq,.opq,.opq,.opq,.opq,.opq])]
abbrev f92z2 (x2 x3 x4 x5 x6:Int) (x7 x8:List UInt8):aK:=[(2000,.cells 51 [.int .i64 x2,.int .i64 x3,.int .i64 x4,.int .i64 x5,.int .i64 x6,.str x7,.str x8,.opq,.opq,.opq,.opq,.opq,.opq,.opq,.opq,.opq,.opq,.opq,.opq,.opq,.opq,.opq,.opq,.opq,.opq,.opq,.opq,.opq])]
abbrev f92z3 (i18 i19 i20 i21 i22:Int) (s23 s24:List UInt8):aK:=[(2000,.cells 51 [.int .i64 i18,.int .i64 i19,.int .i64 i20,.int .i64 i21,.int .i64 i22,.str s23,.str s24,.opq,.opq,.opq,.opq,.opq,.opq,.opq,.opq,.opq,.opq,.opq,.opq,.opq,.opq,.opq,.opq,.opq,.opq,.opq,.opq,.opq])]
def f92 (x1:List Tq0) (x2 x3 x4 x5 x6:Int) (x7 x8:List UInt8):Option Tq10:=
 jn (fun((i18,i19,i20,i21,i22,s23,s24):Tq9)=>
 some ((-1:Int),i18,i19,i20,i21,i22,s23,s24)
 ) fun(K1:Tq9→Option Tq10)=>
 iE x1 K1 bG (0,x2,x3,x4,x5,x6,x7,x8)
theorem f92_ok (x1:List Tq0) (x2 x3 x4 x5 x6:Int) (x7 x8:List UInt8) (r:Tq10) (h:f92 x1 x2 x3 x4 x5 x6 x7 x8=some r):aH Tryz.prog 92 [] [2000] [(2000,.cells 51 [.int .i64 x2,.int .i64 x3,.int .i64 x4,.int .i64 x5,.int .i64 x6,.str x7,.str x8,.opq,.opq,.opq,.opq,.opq,.opq,.opq,.opq,.opq,.opq,.opq,.opq,.opq,.opq,.opq,.opq,.opq,.opq,.opq,.opq,.opq])] [vL 3 bW (default:Tq0) x1,.fn (.func 93) [.ptr 2000 0]] (.int .i64 r.1) [(2000,.cells 51 [.int .i64 r.2.1,.int .i64 r.2.2.1,.int .i64 r.2.2.2.1,.int .i64 r.2.2.2.2.1,.int .i64 r.2.2.2.2.2.1,.str r.2.2.2.2.2.2.1,.str r.2.2.2.2.2.2.2,.opq,.opq,.opq,.opq,.opq,.opq,.opq,.opq,.opq,.opq,.opq,.opq,.opq,.opq,.opq,.opq,.opq,.opq,.opq,.opq,.opq])]:=by
 unfold f92 at h;refine aH.body 0 _ _ Tryz.func92 rfl Tryz.ntmps92 rfl rfl ?_;refine aU [] [] ⟨19,[(0,aT x1),(1,.fn (.func 93) [.ptr 2000 0])],(f92z2 x2 x3 x4 x5 x6 x7 x8),[2000],0⟩ trivial ?_;obtain⟨K1,hK1,h⟩:=aS h;refine AWp.join (fun(x:Tq9)=>match x with|(i18,i19,i20,i21,i22,s23,s24)=>⟨19,[],(f92z3 i18 i19 i20 i21 i22 s23 s24),[2000],0⟩) (fun x=>K1 x=some r) ?_ ?_
 ·
  refine aU [] [] ⟨19,[(0,aT x1),(1,.fn (.func 93) [.ptr 2000 0]),(7,.i (lZ x1)),(8,.i (0:Int))],(f92z2 x2 x3 x4 x5 x6 x7 x8),[2000],0⟩ trivial ?_;refine AWp.block ?_;refine AWp.loopL (α:=Nat×(Nat×Int×Int×Int×Int×Int×List UInt8×List UInt8)) (fun x=>match x with|(_,n9,i10,i11,i12,i13,i14,s15,s16)=>⟨19,[(0,aT x1),(1,.fn (.func 93) [.ptr 2000 0]),(7,.i (lZ x1)),(8,.i (n9:Int))],(f92z1 i10 i11 i12 i13 i14 s15 s16),[2000],0⟩) (fun x=>iE x1 K1 x.1 x.2=some r) (fun x=>x.1) (bG,0,x2,x3,x4,x5,x6,x7,x8) (LR (s':=⟨19,[(0,aT x1),(1,.fn (.func 93) [.ptr 2000 0]),(7,.i (lZ x1)),(8,.i (0:Int))],(f92z2 x2 x3 x4 x5 x6 x7 x8),[2000],0⟩)) h ?_
  rintro⟨k0,n9,i10,i11,i12,i13,i14,s15,s16⟩ h
  cases k0 with
  |zero=>exact nomatch (show none=some r from h)
  |succ k0=>
  obtain⟨C0,hC0⟩:∃C,C=iE x1 K1 k0:=⟨_,rfl⟩;replace h:=(iE.eq_2 ..).symm.trans h
  try rw[←hC0]at h
  refine aU [] [] ⟨19,[(0,aT x1),(1,.fn (.func 93) [.ptr 2000 0]),(7,.i (lZ x1)),(8,.i (n9:Int)),(9,.bool (decide ((n9:Int)<(lZ x1))))],(f92z1 i10 i11 i12 i13 i14 s15 s16),[2000],0⟩ trivial ?_;refine AWp.seq ?_;refine AWp.cond (b:=(decide ((n9:Int)<(lZ x1)))) (by kernel_rfl) (fun hc1=> ?_) (fun hc1=> ?_)
  ·
   replace h:=aE hc1 h;refine AWp.skip (tN (AWp.seq (AWp.block ?_)));refine bJ [] [] [0,1,5,7,8] [2000] trivial ?_;refine AWp.seq ?_;obtain⟨r17,hr17,h⟩:=bind_ok h;obtain⟨ob0p,h⟩:=aB h;have ob0:0≤(n9:Int)∧(n9:Int)<(((x1).length:Nat):Int):=⟨by omega,ob0p⟩;refine aZ [] [(5,⟨[.agg [.i (x1.getD n9 bB).1,.i (x1.getD n9 bB).2.1,.str (x1.getD n9 bB).2.2],.ptr 2000 0],[2000],[2000],(f92z0 r17),.bool r17.1,[],[],[]⟩)] ⟨19,[(0,aT x1),(1,.fn (.func 93) [.ptr 2000 0]),(5,.i (n9:Int)),(7,.i (lZ x1)),(8,.i (n9:Int)),(16,.bool r17.1)],(f92z0 r17),[2000],0⟩ (an2 ob0 (cpT (f93_ok _ _ _ _ _ _ _ _ _ _ _ hr17))) ?_;refine tN ?_;refine AWp.cond (b:=r17.1) (by kernel_rfl) (fun hc2=> ?_) (fun hc2=> ?_)
   ·
    replace h:=aE hc2 h;refine aU [] [] ⟨19,[(4,.i (n9:Int))],(f92z0 r17),[2000],0⟩ trivial ?_;have hret:=Option.some.inj h;subst hret;refine AWp.ret (kR (tR (tR (kR (aY ?_)))));exact bR _ rfl ⟨rfl,rfl⟩ rfl
   ·
    replace h:=aF hc2 h;refine AWp.skip (kN (tN ?_));obtain⟨ob1p,h⟩:=aB h;have ob1: -9223372036854775808≤((n9:Int)+(1:Int))∧((n9:Int)+(1:Int))≤9223372036854775807:=⟨by omega,ob1p⟩;refine aZ [] [] ⟨19,[(0,aT x1),(1,.fn (.func 93) [.ptr 2000 0]),(7,.i (lZ x1)),(8,.i (((n9+1):Nat):Int))],(f92z0 r17),[2000],0⟩ (an1 ob1) ?_;rw[hC0]at h;exact lN (_,(n9+1),r17.2.1,r17.2.2.1,r17.2.2.2.1,r17.2.2.2.2.1,r17.2.2.2.2.2.1,r17.2.2.2.2.2.2.1,r17.2.2.2.2.2.2.2) LR h (Nat.lt_succ_self _)
  ·
   replace h:=aF hc1 h;refine AWp.exit (tE (tE (kS ?_)));exact jN (i10,i11,i12,i13,i14,s15,s16) LR h
 ·
  rintro⟨i18,i19,i20,i21,i22,s23,s24⟩ h;replace h:=(congrFun hK1 _).symm.trans h;refine aU [] [] ⟨19,[(4,.i (-1:Int))],(f92z3 i18 i19 i20 i21 i22 s23 s24),[2000],0⟩ trivial ?_;have hret:=Option.some.inj h;subst hret;refine AWp.ret ?_;exact bR _ rfl ⟨rfl,rfl⟩ rfl
def jJ (x3 x4:Int) (x8:List Tq5) (x9:List Tq4) (x10:List Ty1) (x11:List Tq2) (x12:List Ty1) (x13:List (Tq0×Bool)) (x14:List (Tq2×Bool)) (K1:(List Ty0)→Option Ty10):Nat→(Nat×List Ty0)→Option Ty10
 |0,_=>none
 |k+1,(n17,l18)=>
  if(decide ((n17:Int)<x4))then(
  if(!(hM x10 (((12:Int)+x3),(n17:Int))))then(
  some (false,x8,x9,x10,x11,x12,x13,x14)
  )else(
  chk (((l18).length+1) *16≤140737488355328)<|
  chk (((n17:Int)+(1:Int))≤9223372036854775807)<|
  (jJ x3 x4 x8 x9 x10 x11 x12 x13 x14 K1 k) ((n17+1),(l18++[(gM x10 [] (((12:Int)+x3),(n17:Int)))]))
  )
  )else(
  K1 l18
  )
abbrev xI (x1 x2 x3 x4 x5:Int) (x6 x7:List UInt8):List V:=[.int .i64 x1,.int .i64 x2,.int .i64 x3,.int .i64 x4,.int .i64 x5,.str x6,.str x7,.opq,.opq,.opq,.opq,.opq,.opq,.opq,.opq,.opq,.opq,.opq,.opq,.opq,.opq,.opq,.opq,.opq,.opq,.opq,.opq,.opq]
abbrev uV :List V:=[.own 2001,.own 2002,.own 2003,.own 2004,.own 2005,.own 2006,.own 2007]
abbrev f66z2 (x1 x2 x3 x4 x5:Int) (x6 x7:List UInt8) (x8:List Tq5) (x9:List Tq4) (x10:List Ty1) (x11:List Tq2) (x12:List Ty1) (x13:List (Tq0×Bool)) (x14:List (Tq2×Bool)) (l18:List Ty0):aK:=[(3,.cells 51 (xI x1 x2 x3 x4 x5 x6 x7)),(2000,.cells 115 (uV)),(2001,bP (V.int .i64) 0 dP [] x8),(2002,bP (V.int .i64) 0 dV false x9),(2003,bP aM (default:Tq2) cC [] x10),(2004,bP (V.int .i64) 0 dU 0 x11),(2005,bP aM (default:Tq2) cC [] x12),(2006,bP bN (default:Tq0) eD false x13),(2007,bP bK (default:Tq2) eA false x14),(5013,bL 9 1 eS [] l18)]
abbrev f66z3 (x1 x2 x3 x4 x5:Int) (x6 x7:List UInt8) (x8:List Tq5) (x9:List Tq4) (x10:List Ty1) (x11:List Tq2) (x12:List Ty1) (x13:List (Tq0×Bool)) (x14:List (Tq2×Bool)):aK:=[(3,.cells 51 (xI x1 x2 x3 x4 x5 x6 x7)),(2000,.cells 115 (uV)),(2001,bP (V.int .i64) 0 dP [] x8),(2002,bP (V.int .i64) 0 dV false x9),(2003,bP aM (default:Tq2) cC [] x10),(2004,bP (V.int .i64) 0 dU 0 x11),(2005,bP aM (default:Tq2) cC [] x12),(2006,bP bN (default:Tq0) eD false x13),(2007,bP bK (default:Tq2) eA false x14)]
abbrev f66z4 (x8:List Tq5) (x9:List Tq4) (x10:List Ty1) (x11:List Tq2) (x12:List Ty1) (x13:List (Tq0×Bool)) (x14:List (Tq2×Bool)):aK:=[(2000,.cells 115 (uV)),(2001,bP (V.int .i64) 0 dP [] x8),(2002,bP (V.int .i64) 0 dV false x9),(2003,bP aM (default:Tq2) cC [] x10),(2004,bP (V.int .i64) 0 dU 0 x11),(2005,bP aM (default:Tq2) cC [] x12),(2006,bP bN (default:Tq0) eD false x13),(2007,bP bK (default:Tq2) eA false x14)]
abbrev jU (x14:List (Tq2×Bool)) (x3 x5:Int) (x12:List Ty1):=((gM x14 false (x3,x5))||(!(hM x12 (x3,x5))))
abbrev f66z6 (x1 x2 x3 x4 x5:Int) (x6 x7:List UInt8) (x8:List Tq5) (x9:List Tq4) (x10:List Ty1) (x11:List Tq2) (x12:List Ty1) (x13:List (Tq0×Bool)) (x14:List (Tq2×Bool)) (l18:List Ty0) (n17:Nat):aK:=[(3,.cells 51 (xI x1 x2 x3 x4 x5 x6 x7)),(2000,.cells 115 (uV)),(2001,bP (V.int .i64) 0 dP [] x8),(2002,bP (V.int .i64) 0 dV false x9),(2003,bP aM (default:Tq2) cC [] x10),(2004,bP (V.int .i64) 0 dU 0 x11),(2005,bP aM (default:Tq2) cC [] x12),(2006,bP bN (default:Tq0) eD false x13),(2007,bP bK (default:Tq2) eA false x14),(5013,bL 9 1 eS [] (l18++[(gM x10 [] (((12:Int)+x3),(n17:Int)))]))]
abbrev f66z8 (x3:Int) (x10:List Ty1) (x4:Int) (n17:Nat):List (Nat×V):=[(0,.ptr 2000 0),(3,.ptr 3 0),(6,.int .i64 ((12:Int)+x3)),(9,.str (gM x10 [] (((12:Int)+x3),x4))),(13,.own 5013),(85,.int .i64 x4),(86,.int .i64 (n17:Int)),(1000001,.tab .u64 Lib.pow10Tab),(1000002,bF),(1000003,bF)]
abbrev uU (r22:Tq10):=((decide (r22.1≥(0:Int)))==true)
abbrev iH (r15:Int×Int×Ty2×Int):=(r15.2.2.2 !=(0:Int))
abbrev f66z11 (x10:List Ty1) (x3 x4:Int):List (Nat×V):=[(3,.ptr 3 0),(9,.str (gM x10 [] (((12:Int)+x3),x4))),(13,.own 5013),(1000001,.tab .u64 Lib.pow10Tab),(1000002,bF),(1000003,bF)]
def f66 (x1 x2 x3 x4 x5:Int) (x6 x7:List UInt8) (x8:List Tq5) (x9:List Tq4) (x10:List Ty1) (x11:List Tq2) (x12:List Ty1) (x13:List (Tq0×Bool)) (x14:List (Tq2×Bool)):Option Ty10:=
 chk (-9223372036854775808≤((12:Int)+x3)∧((12:Int)+x3)≤9223372036854775807)<|
 (f68 (gM x10 [] (((12:Int)+x3),x4))).bind fun(r15:Int×Int×Ty2×Int)=>
 gW (((((gM x14 false (x3,x5))||(!(hM x12 (x3,x5))))||(!(hM x10 (((12:Int)+x3),x4))))||(r15.2.2.2 !=(0:Int)))==false) (f89 r15.2.2.1 x3 x5 (gM x12 [] (x3,x5))) fun(r16:Bool)=>
 if(((((gM x14 false (x3,x5))||(!(hM x12 (x3,x5))))||(!(hM x10 (((12:Int)+x3),x4))))||(r15.2.2.2 !=(0:Int)))||(!r16))then(
 some (false,x8,x9,x10,x11,x12,x13,x14)
 )else(
 jn (fun(l19:List Ty0)=>
 (f91 l19).bind fun(r20:Ty4×Ty2)=>
 (f90 r20.1 r20.2 (gM x10 [] (((12:Int)+x3),x4))).bind fun(r21:Ty4×Ty2×Ty2)=>
 (f92 r21.2.2 x1 x2 x3 x4 x5 x6 x7).bind fun(r22:Tq10)=>
 chk (((decide (r22.1≥(0:Int)))==true)=true→0≤r22.1∧r22.1<(((r21.2.2).length:Nat):Int))<|
 chk (((decide (r22.1≥(0:Int)))==true)=true→((r22.1).toNat)<(r21.2.2).length)<|
 some (((decide (r22.1≥(0:Int)))&&(((r21.2.2.getD ((r22.1).toNat) (default:Tq0)).2.2)==r22.2.2.2.2.2.2.2)),x8,x9,x10,x11,x12,x13,x14)
 ) fun(K1:(List Ty0)→Option Ty10)=>
 jJ x3 x4 x8 x9 x10 x11 x12 x13 x14 K1 bG (0,[])
 )
theorem f66_ok (x1 x2 x3 x4 x5:Int) (x6 x7:List UInt8) (x8:List Tq5) (x9:List Tq4) (x10:List Ty1) (x11:List Tq2) (x12:List Ty1) (x13:List (Tq0×Bool)) (x14:List (Tq2×Bool)) (r:Bool×(List Tq5)×(List Tq4)×Ty8×(List Tq2)×Ty8×Ty5×Ty6) (h:f66 x1 x2 x3 x4 x5 x6 x7 x8 x9 x10 x11 x12 x13 x14=some r):aH Tryz.prog 66 [(1,.tab .u64 Lib.pow10Tab),(2,bF),(3,bF)] [2000] [(2000,.cells 115 [.own 2001,.own 2002,.own 2003,.own 2004,.own 2005,.own 2006,.own 2007]),(2001,bP (V.int .i64) 0 dP [] x8),(2002,bP (V.int .i64) 0 dV false x9),(2003,bP aM (default:Tq2) cC [] x10),(2004,bP (V.int .i64) 0 dU 0 x11),(2005,bP aM (default:Tq2) cC [] x12),(2006,bP bN (default:Tq0) eD false x13),(2007,bP bK (default:Tq2) eA false x14)] [.ptr 2000 0,.agg [.int .i64 x1,.int .i64 x2,.int .i64 x3,.int .i64 x4,.int .i64 x5,.str x6,.str x7,.opq,.opq,.opq,.opq,.opq,.opq,.opq,.opq,.opq,.opq,.opq,.opq,.opq,.opq,.opq,.opq,.opq,.opq,.opq,.opq,.opq]] (.bool r.1) [(2000,.cells 115 [.own 2001,.own 2002,.own 2003,.own 2004,.own 2005,.own 2006,.own 2007]),(2001,bP (V.int .i64) 0 dP [] r.2.1),(2002,bP (V.int .i64) 0 dV false r.2.2.1),(2003,bP aM (default:Tq2) cC [] r.2.2.2.1),(2004,bP (V.int .i64) 0 dU 0 r.2.2.2.2.1),(2005,bP aM (default:Tq2) cC [] r.2.2.2.2.2.1),(2006,bP bN (default:Tq0) eD false r.2.2.2.2.2.2.1),(2007,bP bK (default:Tq2) eA false r.2.2.2.2.2.2.2)]:=by
 unfold f66 at h;refine aH.body 0 _ _ Tryz.func66 rfl Tryz.ntmps66 rfl rfl ?_;refine bJ [] [] [0,3,1000001,1000002,1000003] [3,2000,2001,2002,2003,2004,2005,2006,2007] trivial ?_;refine AWp.seq ?_;obtain⟨ob0,h⟩:=aB h;refine cA [] [] [0,3,5,6,1000001,1000002,1000003] [3,5,2000,2001,2002,2003,2004,2005,2006,2007] (an2 ob0 trivial) ?_;refine tN ?_;refine bJ [] [(5,⟨[.own 2005,.agg [.i x3,.i x5]],[2005],[2005],[(2005,bP aM bI cC [] x12)],.tup [.str (gM x12 [] (x3,x5)),.bool (hM x12 (x3,x5))],[],[],[]⟩)] [0,3,5,6,7,8,1000001,1000002,1000003] [3,5,2000,2001,2002,2003,2004,2005,2006,2007] (an1 (And.intro (dQ (P:=Tryz.prog) Tryz.underlying110 aM wS bI cC [] [] (by kernel_rfl) (.tmp 32) (.tmp 33) 118 2005 x12 (x3,x5)) (eJ.same [.own 2005,.agg [.i x3,.i x5]]))) ?_;refine bJ [] [(8,⟨[.own 2003,.agg [.i ((12:Int)+x3),.i x4]],[2003],[2003],[(2003,bP aM bI cC [] x10)],.tup [.str (gM x10 [] (((12:Int)+x3),x4)),.bool (hM x10 (((12:Int)+x3),x4))],[],[],[]⟩)] [0,3,5,6,7,8,9,10,1000001,1000002,1000003] [3,5,2000,2001,2002,2003,2004,2005,2006,2007] (an1 (And.intro (dQ (P:=Tryz.prog) Tryz.underlying110 aM wS bI cC [] [] (by kernel_rfl) (.tmp 41) (.tmp 45) 118 2003 x10 (((12:Int)+x3),x4)) (eJ.same [.own 2003,.agg [.i ((12:Int)+x3),.i x4]]))) ?_;refine AWp.seq ?_;obtain⟨r15,hr15,h⟩:=bind_ok h;refine cA [] [(1,⟨[.str (gM x10 [] (((12:Int)+x3),x4))],[],[],[],.tup [.agg [.i r15.1,.i r15.2.1,aT r15.2.2.1],.i r15.2.2.2],[],[],[1,2,3]⟩)] [0,3,5,6,7,8,9,10,11,12,1000001,1000002,1000003] [3,5,11,2000,2001,2002,2003,2004,2005,2006,2007] (an2 (cpT (f68_ok _ _ hr15)) trivial) ?_;refine tN (AWp.seq (AWp.seq ?_));obtain⟨r16,hr16,h⟩:=cG h;have ob1:=idA (((gM x14 false (x3,x5))==false)=true);have ob2:=bqA (gM x14 false (x3,x5)) false;have ob3:=idA (((jU x14 x3 x5 x12)==false)=true);have ob4:=bqA (jU x14 x3 x5 x12) false;have ob5:=idA ((((jU x14 x3 x5 x12)||(!(hM x10 (((12:Int)+x3),x4))))==false)=true);have ob6:=bqA ((jU x14 x3 x5 x12)||(!(hM x10 (((12:Int)+x3),x4)))) false;have ob7:=idA (((((jU x14 x3 x5 x12)||(!(hM x10 (((12:Int)+x3),x4))))||(iH r15))==false)=true);have ob8:=idA (((((jU x14 x3 x5 x12)||(!(hM x10 (((12:Int)+x3),x4))))||(iH r15))==false)=true);have ob9:=idA (((((jU x14 x3 x5 x12)||(!(hM x10 (((12:Int)+x3),x4))))||(iH r15))==false)=true);have ob10:=idA (((((jU x14 x3 x5 x12)||(!(hM x10 (((12:Int)+x3),x4))))||(iH r15))==false)=true);have ob11:=idA (((((jU x14 x3 x5 x12)||(!(hM x10 (((12:Int)+x3),x4))))||(iH r15))==false)=true);have ob12:=idA (((((jU x14 x3 x5 x12)||(!(hM x10 (((12:Int)+x3),x4))))||(iH r15))==false)=true);have ob13:=idA (((((jU x14 x3 x5 x12)||(!(hM x10 (((12:Int)+x3),x4))))||(iH r15))==false)=true);have ob14:=idA (((((jU x14 x3 x5 x12)||(!(hM x10 (((12:Int)+x3),x4))))||(iH r15))==false)=true);have ob15:=idA (((((jU x14 x3 x5 x12)||(!(hM x10 (((12:Int)+x3),x4))))||(iH r15))==false)=true);have ob16:=bqA (((jU x14 x3 x5 x12)||(!(hM x10 (((12:Int)+x3),x4))))||(iH r15)) false;refine cA [] [(5,⟨[.own 2007,.agg [.i x3,.i x5]],[2007],[2007],[(2007,bP bK bI eA false x14)],.bool (gM x14 false (x3,x5)),[],[],[]⟩),(27,⟨[aT r15.2.2.1,.agg [.i x3,.i x5,.str (gM x12 [] (x3,x5))]],[],[],[],.bool r16,[],[],[]⟩)] [0,3,6,9,83,1000001,1000002,1000003] [3,2000,2001,2002,2003,2004,2005,2006,2007] (ac6 (And.intro (fA (P:=Tryz.prog) Tryz.underlying113 bK kE113 bI eA false false (by kernel_rfl) (.tmp 57) (.tmp 58) 4 2007 x14 (x3,x5)) (eJ.same [.own 2007,.agg [.i x3,.i x5]])) (an1 ob1) ob2 (an1 ob3) ob4 (an1 ob5) (ac6 ob6 (an1 ob7) (an1 ob8) (an1 ob9) (an3 ob10 ob11 ob12) (And.intro (cpC fun hc=>(f89_ok _ _ _ _ _ (hr16 hc))) (an2 ob13 ob14)) (an2 (an1 ob15) ob16))) ?_;refine tN ?_;refine AWp.cond (b:=((((jU x14 x3 x5 x12)||(!(hM x10 (((12:Int)+x3),x4))))||(iH r15))||(!r16))) (by kernel_rfl) (fun hc1=> ?_) (fun hc1=> ?_)
 ·
  replace h:=aE hc1 h;refine aU [] [] ⟨129,[(4,.bool false)],(f66z4 x8 x9 x10 x11 x12 x13 x14),[2000],0⟩ trivial ?_;have hret:=Option.some.inj h;subst hret;refine AWp.ret (tR ?_);exact bR _ rfl ⟨rfl,rfl⟩ rfl
 ·
  replace h:=aF hc1 h;refine AWp.skip (tN ?_);refine aU [] [] ⟨129,[(0,.ptr 2000 0),(3,.ptr 3 0),(6,.i ((12:Int)+x3)),(9,.str (gM x10 [] (((12:Int)+x3),x4))),(13,.nils),(1000001,.tab .u64 Lib.pow10Tab),(1000002,bF),(1000003,bF)],(f66z3 x1 x2 x3 x4 x5 x6 x7 x8 x9 x10 x11 x12 x13 x14),[2000],0⟩ trivial ?_;obtain⟨K1,hK1,h⟩:=aS h;refine AWp.join (α:=List Ty0) (fun(l19:List Ty0)=>⟨129,(f66z11 x10 x3 x4),[(3,.cells 51 (xI x1 x2 x3 x4 x5 x6 x7)),(2000,.cells 115 (uV)),(2001,bP (V.int .i64) 0 dP [] x8),(2002,bP (V.int .i64) 0 dV false x9),(2003,bP aM bI cC [] x10),(2004,bP (V.int .i64) 0 dU 0 x11),(2005,bP aM bI cC [] x12),(2006,bP bN bB eD false x13),(2007,bP bK bI eA false x14),(5013,aG l19)],[2000],0⟩) (fun x=>K1 x=some r) ?_ ?_
  ·
   refine aU [] [] ⟨129,[(0,.ptr 2000 0),(3,.ptr 3 0),(6,.i ((12:Int)+x3)),(9,.str (gM x10 [] (((12:Int)+x3),x4))),(13,.nils),(85,.i x4),(86,.i (0:Int)),(1000001,.tab .u64 Lib.pow10Tab),(1000002,bF),(1000003,bF)],(f66z3 x1 x2 x3 x4 x5 x6 x7 x8 x9 x10 x11 x12 x13 x14),[2000],0⟩ trivial ?_;refine AWp.block ?_;refine AWp.loopL (α:=Nat×(Nat×List Ty0)) (fun x=>match x with|(_,n17,l18)=>⟨129,(f66z8 x3 x10 x4 n17),(f66z2 x1 x2 x3 x4 x5 x6 x7 x8 x9 x10 x11 x12 x13 x14 l18),[2000],0⟩) (fun x=>jJ x3 x4 x8 x9 x10 x11 x12 x13 x14 K1 x.1 x.2=some r) (fun x=>x.1) (bG,0,[]) (Le.trans (Le.trans (Le.nilOwn 13 5013 9 1 (cD eS [] []) rfl rfl (Nat.le_of_ble_eq_true rfl)) (LR (s':=⟨129,[(0,.ptr 2000 0),(3,.ptr 3 0),(6,.i ((12:Int)+x3)),(9,.str (gM x10 [] (((12:Int)+x3),x4))),(13,.own 5013),(85,.i x4),(86,.i (0:Int)),(1000001,.tab .u64 Lib.pow10Tab),(1000002,bF),(1000003,bF)],[(3,.cells 51 (xI x1 x2 x3 x4 x5 x6 x7)),(2000,.cells 115 (uV)),(2001,bP (V.int .i64) 0 dP [] x8),(2002,bP (V.int .i64) 0 dV false x9),(2003,bP aM bI cC [] x10),(2004,bP (V.int .i64) 0 dU 0 x11),(2005,bP aM bI cC [] x12),(2006,bP bN bB eD false x13),(2007,bP bK bI eA false x14),(5013,aG [])],[2000],0⟩))) (LR (s':=⟨129,[(0,.ptr 2000 0),(3,.ptr 3 0),(6,.i ((12:Int)+x3)),(9,.str (gM x10 [] (((12:Int)+x3),x4))),(13,.own 5013),(85,.i x4),(86,.i (0:Int)),(1000001,.tab .u64 Lib.pow10Tab),(1000002,bF),(1000003,bF)],[(3,.cells 51 (xI x1 x2 x3 x4 x5 x6 x7)),(2000,.cells 115 (uV)),(2001,bP (V.int .i64) 0 dP [] x8),(2002,bP (V.int .i64) 0 dV false x9),(2003,bP aM bI cC [] x10),(2004,bP (V.int .i64) 0 dU 0 x11),(2005,bP aM bI cC [] x12),(2006,bP bN bB eD false x13),(2007,bP bK bI eA false x14),(5013,aG [])],[2000],0⟩))) h ?_
   rintro⟨k0,n17,l18⟩ h
   cases k0 with
   |zero=>exact nomatch (show none=some r from h)
   |succ k0=>
   obtain⟨C0,hC0⟩:∃C,C=jJ x3 x4 x8 x9 x10 x11 x12 x13 x14 K1 k0:=⟨_,rfl⟩;replace h:=(jJ.eq_2 ..).symm.trans h
   try rw[←hC0]at h
   refine aU [] [] ⟨129,[(0,.ptr 2000 0),(3,.ptr 3 0),(6,.i ((12:Int)+x3)),(9,.str (gM x10 [] (((12:Int)+x3),x4))),(13,.own 5013),(85,.i x4),(86,.i (n17:Int)),(87,.bool (decide ((n17:Int)<x4))),(1000001,.tab .u64 Lib.pow10Tab),(1000002,bF),(1000003,bF)],(f66z2 x1 x2 x3 x4 x5 x6 x7 x8 x9 x10 x11 x12 x13 x14 l18),[2000],0⟩ trivial ?_;refine AWp.seq ?_;refine AWp.cond (b:=(decide ((n17:Int)<x4))) (by kernel_rfl) (fun hc2=> ?_) (fun hc2=> ?_)
   ·
    replace h:=aE hc2 h;refine AWp.skip (tN (AWp.seq (AWp.block ?_)));refine bJ [] [] [0,3,6,9,13,14,85,86,1000001,1000002,1000003] [3,2000,2001,2002,2003,2004,2005,2006,2007,5013] trivial ?_;refine bJ [] [(7,⟨[.own 2003,.agg [.i ((12:Int)+x3),.i (n17:Int)]],[2003],[2003],[(2003,bP aM bI cC [] x10)],.tup [.str (gM x10 [] (((12:Int)+x3),(n17:Int))),.bool (hM x10 (((12:Int)+x3),(n17:Int)))],[],[],[]⟩)] [0,3,6,9,13,15,16,85,86,1000001,1000002,1000003] [3,2000,2001,2002,2003,2004,2005,2006,2007,5013] (an1 (And.intro (dQ (P:=Tryz.prog) Tryz.underlying110 aM wS bI cC [] [] (by kernel_rfl) (.tmp 93) (.tmp 96) 118 2003 x10 (((12:Int)+x3),(n17:Int))) (eJ.same [.own 2003,.agg [.i ((12:Int)+x3),.i (n17:Int)]]))) ?_;refine AWp.seq ?_;refine bJ [] [] [0,3,6,9,13,15,85,86,101,1000001,1000002,1000003] [3,2000,2001,2002,2003,2004,2005,2006,2007,5013] trivial ?_;refine AWp.cond (b:=(!(hM x10 (((12:Int)+x3),(n17:Int))))) (by kernel_rfl) (fun hc3=> ?_) (fun hc3=> ?_)
    ·
     replace h:=aE hc3 h;refine aU [] [] ⟨129,[(4,.bool false)],(f66z4 x8 x9 x10 x11 x12 x13 x14),[2000],0⟩ trivial ?_;have hret:=Option.some.inj h;subst hret;refine AWp.ret (tR (kR (tR (tR (kR (aY ?_))))));exact bR _ rfl ⟨rfl,rfl⟩ rfl
    ·
     replace h:=aF hc3 h;refine AWp.skip (tN ?_);obtain⟨ob17,h⟩:=aB h;refine aZ [] [] ⟨129,(f66z8 x3 x10 x4 n17),[(3,.cells 51 (xI x1 x2 x3 x4 x5 x6 x7)),(2000,.cells 115 (uV)),(2001,bP (V.int .i64) 0 dP [] x8),(2002,bP (V.int .i64) 0 dV false x9),(2003,bP aM bI cC [] x10),(2004,bP (V.int .i64) 0 dU 0 x11),(2005,bP aM bI cC [] x12),(2006,bP bN bB eD false x13),(2007,bP bK bI eA false x14),(5013,.rows 9 1 ((l18).length+1) (gF (l18).length (cD eS [] l18) (dH 1 [.str (gM x10 [] (((12:Int)+x3),(n17:Int)))])))],[2000],0⟩ (an1 ob17) ?_;refine kN (tN ?_);refine AWp.le (Le.mk (s':=⟨129,(f66z8 x3 x10 x4 n17),(f66z6 x1 x2 x3 x4 x5 x6 x7 x8 x9 x10 x11 x12 x13 x14 l18 n17),[2000],0⟩) rfl rfl ⟨.refl _,.refl _,.refl _,.refl _,.refl _,.refl _,.refl _,.refl _,.refl _,.refl _,trivial⟩ ⟨⟨_,rfl,.refl _⟩,⟨_,rfl,.refl _⟩,⟨_,rfl,.refl _⟩,⟨_,rfl,.refl _⟩,⟨_,rfl,.refl _⟩,⟨_,rfl,.refl _⟩,⟨_,rfl,.refl _⟩,⟨_,rfl,.refl _⟩,⟨_,rfl,.refl _⟩,⟨_,rfl,(BLe.of (RL.app (RL.self _) (RL.lst (enc:=eS) [(gM x10 [] (((12:Int)+x3),(n17:Int)))] rfl rfl (fun _=>rfl))))⟩,trivial⟩) ?_;obtain⟨ob18p,h⟩:=aB h;have ob18: -9223372036854775808≤((n17:Int)+(1:Int))∧((n17:Int)+(1:Int))≤9223372036854775807:=⟨by omega,ob18p⟩;refine aZ [] [] ⟨129,[(0,.ptr 2000 0),(3,.ptr 3 0),(6,.i ((12:Int)+x3)),(9,.str (gM x10 [] (((12:Int)+x3),x4))),(13,.own 5013),(85,.i x4),(86,.i (((n17+1):Nat):Int)),(1000001,.tab .u64 Lib.pow10Tab),(1000002,bF),(1000003,bF)],(f66z6 x1 x2 x3 x4 x5 x6 x7 x8 x9 x10 x11 x12 x13 x14 l18 n17),[2000],0⟩ (an1 ob18) ?_;rw[hC0]at h;exact lN (_,(n17+1),(l18++[(gM x10 [] (((12:Int)+x3),(n17:Int)))])) LR h (Nat.lt_succ_self _)
   ·
    replace h:=aF hc2 h;refine AWp.exit (tE (tE (kS ?_)));exact jN (l18) LR h
  ·
   rintro l19 h;replace h:=(congrFun hK1 _).symm.trans h;refine AWp.seq ?_;refine AWp.le (Le.trans (Le.freeze 5013 rfl rfl) (LR (s':=⟨129,[(3,.ptr 3 0),(9,.str (gM x10 [] (((12:Int)+x3),x4))),(13,cS l19),(1000001,.tab .u64 Lib.pow10Tab),(1000002,bF),(1000003,bF)],(f66z3 x1 x2 x3 x4 x5 x6 x7 x8 x9 x10 x11 x12 x13 x14),[2000],0⟩))) ?_;obtain⟨r20,hr20,h⟩:=bind_ok h;obtain⟨r21,hr21,h⟩:=bind_ok h;refine cA [] [(1,⟨[cS l19],[],[],[],.agg [aV r20.1,aT r20.2],[],[],[1,2,3]⟩),(3,⟨[.agg [aV r20.1,aT r20.2],.str (gM x10 [] (((12:Int)+x3),x4))],[],[],[(6001,bH r21.2.2)],.tup [.agg [aV r21.1,aT r21.2.1],.own 6001],[6001],[],[1,2,3]⟩)] [3,18,1000001,1000002,1000003] [3,2000,2001,2002,2003,2004,2005,2006,2007,6001] (an3 (cpT (f91_ok _ _ hr20)) (cpT (aH.ren (bA 3000 6001) (aD 3000 6001) rfl (f90_ok _ _ _ _ hr21))) trivial) ?_;refine tN (AWp.seq ?_);obtain⟨r22,hr22,h⟩:=bind_ok h;refine cA [] [(2,⟨[aT r21.2.2,.fn (.func 93) [.ptr 3 0]],[3],[3],[(3,.cells 51 (qpt r22.2))],.i r22.1,[],[6001],[]⟩)] [3,18,19,1000001,1000002,1000003] [3,2000,2001,2002,2003,2004,2005,2006,2007,6001] (an1 (cpL (c:=true) [(6001,bH r21.2.2)] [6001] [.own 6001,.fn (.func 93) [.ptr 3 0]] (fun _=>(aH.ren (bA 2000 3) (aD 2000 3) rfl (f92_ok _ _ _ _ _ _ _ _ _ hr22))) (fun _=>⟨.refl _,.refl _,trivial⟩) (.inr ⟨rfl,⟨rfl,trivial⟩⟩))) ?_;refine tN (AWp.seq ?_);obtain⟨ob19,h⟩:=aB h;have ob20:=idA ((uU r22)=true);have ob21:=idA ((uU r22)=true);have ob22:=idA ((uU r22)=true);obtain⟨ob23,h⟩:=aB h;have ob24:=idA ((uU r22)=true);have ob25:=idA ((uU r22)=true);have ob26:=idA ((uU r22)=true);have ob27:=idA ((uU r22)=true);have ob28:true=true→(decide (r22.1≥(0:Int)))=true→(uU r22)=true:=fun _ h=>beq_iff_eq.2 h;refine aZ [] [] ⟨129,[(4,.bool ((decide (r22.1≥(0:Int)))&&(((r21.2.2.getD ((r22.1).toNat) bB).2.2)==r22.2.2.2.2.2.2.2)))],(f66z4 x8 x9 x10 x11 x12 x13 x14),[2000],0⟩ (an6 (And.intro ob19 (an2 ob20 ob21)) (an1 ob22) (And.intro ob23 (an1 ob24)) (an1 ob25) (an2 ob26 ob27) ob28) ?_;refine tN ?_;have hret:=Option.some.inj h;subst hret;refine AWp.ret ?_;exact bR _ rfl ⟨rfl,rfl⟩ rfl
abbrev aA6 (x1 x2 x3 x4 x5:Int) (x6 x7:List UInt8):List V:=[.int .i64 x1,.int .i64 x2,.int .i64 x3,.int .i64 x4,.int .i64 x5,.str x6,.str x7,.opq,.opq,.opq,.opq,.opq,.opq,.opq,.opq,.opq,.opq,.opq,.opq,.opq,.opq,.opq,.opq,.opq,.opq,.opq,.opq,.opq]
abbrev pS (x1 x2 x3 x4 x5:Int) (x6 x7:List UInt8) (x8:List Tq5) (x9:List Tq4) (x10:List Ty1) (x11:List Tq2) (x12:List Ty1) (x13:List (Tq0×Bool)) (x14:List (Tq2×Bool)):aK:=[(3,.cells 51 (aA6 x1 x2 x3 x4 x5 x6 x7)),(2000,.cells 115 [.own 2001,.own 2002,.own 2003,.own 2004,.own 2005,.own 2006,.own 2007]),(2001,bP (V.int .i64) 0 dP [] x8),(2002,bP (V.int .i64) 0 dV false x9),(2003,bP aM (default:Tq2) cC [] x10),(2004,bP (V.int .i64) 0 dU 0 x11),(2005,bP aM (default:Tq2) cC [] x12),(2006,bP bN (default:Tq0) eD false x13),(2007,bP bK (default:Tq2) eA false x14)]
abbrev f43z2 (x8:List Tq5) (x9:List Tq4) (x10:List Ty1) (x11:List Tq2) (x12:List Ty1) (x13:List (Tq0×Bool)) (x14:List (Tq2×Bool)):aK:=[(2000,.cells 115 [.own 2001,.own 2002,.own 2003,.own 2004,.own 2005,.own 2006,.own 2007]),(2001,bP (V.int .i64) 0 dP [] x8),(2002,bP (V.int .i64) 0 dV false x9),(2003,bP aM (default:Tq2) cC [] x10),(2004,bP (V.int .i64) 0 dU 0 x11),(2005,bP aM (default:Tq2) cC [] x12),(2006,bP bN (default:Tq0) eD false x13),(2007,bP bK (default:Tq2) eA false x14)]
abbrev f43z3 (r17:Bool×(List Tq5)×(List Tq4)×Ty8×(List Tq2)×Ty8×Ty5×Ty6):aK:=[(2000,.cells 115 [.own 2001,.own 2002,.own 2003,.own 2004,.own 2005,.own 2006,.own 2007]),(2001,bP (V.int .i64) 0 dP [] r17.2.1),(2002,bP (V.int .i64) 0 dV false r17.2.2.1),(2003,bP aM (default:Tq2) cC [] r17.2.2.2.1),(2004,bP (V.int .i64) 0 dU 0 r17.2.2.2.2.1),(2005,bP aM (default:Tq2) cC [] r17.2.2.2.2.2.1),(2006,bP bN (default:Tq0) eD false r17.2.2.2.2.2.2.1),(2007,bP bK (default:Tq2) eA false r17.2.2.2.2.2.2.2)]
abbrev f43z4 :List (Nat×V):=[(0,.ptr 2000 0),(3,.ptr 3 0),(1000001,.tab .u64 Lib.pow10Tab),(1000002,bF),(1000003,bF)]
abbrev f43z5 (l18:List Tq5) (l19:List Tq4) (l20:List Ty1) (l21:List Tq2) (l22:List Ty1) (l23:List (Tq0×Bool)) (l24:List (Tq2×Bool)):aK:=[(2000,.cells 115 [.own 2001,.own 2002,.own 2003,.own 2004,.own 2005,.own 2006,.own 2007]),(2001,bP (V.int .i64) 0 dP [] l18),(2002,bP (V.int .i64) 0 dV false l19),(2003,bP aM (default:Tq2) cC [] l20),(2004,bP (V.int .i64) 0 dU 0 l21),(2005,bP aM (default:Tq2) cC [] l22),(2006,bP bN (default:Tq0) eD false l23),(2007,bP bK (default:Tq2) eA false l24)]
abbrev f43z6 :List (Nat×V):=[(1000001,.tab .u64 Lib.pow10Tab),(1000002,bF),(1000003,bF)]
abbrev f43z7 :=Ty8
def f43 (x1 x2 x3 x4 x5:Int) (x6 x7:List UInt8) (x8:List Tq5) (x9:List Tq4) (x10:List Ty1) (x11:List Tq2) (x12:List Ty1) (x13:List (Tq0×Bool)) (x14:List (Tq2×Bool)):Option Ty12:=
 jn (fun(_:Unit)=>
 jn (fun((l18,l19,l20,l21,l22,l23,l24):(List Tq5)×(List Tq4)×Ty8×(List Tq2)×Ty8×Ty5×Ty6)=>
 some ((0:Int),l18,l19,l20,l21,l22,l23,l24)
 ) fun(K3:Ty3→Option Ty12)=>
 gW ((x2==(2:Int))==true) (f57 x1 x2 x3 x4 x5 x6 x7) fun(r16:Bool)=>
 if((x2==(2:Int))&&r16)=true then(
 (f66 x1 x2 x3 x4 x5 x6 x7 x8 x9 x10 x11 x12 x13 x14).bind fun(r17:Bool×(List Tq5)×(List Tq4)×Ty8×(List Tq2)×Ty8×Ty5×Ty6)=>
 if(!r17.1)then(
 some ((3:Int),r17.2.1,r17.2.2.1,r17.2.2.2.1,r17.2.2.2.2.1,r17.2.2.2.2.2.1,r17.2.2.2.2.2.2.1,r17.2.2.2.2.2.2.2)
 )else(
 K3 (r17.2.1,r17.2.2.1,r17.2.2.2.1,r17.2.2.2.2.1,r17.2.2.2.2.2.1,r17.2.2.2.2.2.2.1,r17.2.2.2.2.2.2.2)
 )
 )else(
 K3 (x8,x9,x10,x11,x12,x13,x14)
 )
 ) fun(K1:Unit→Option Ty12)=>
 (f50 x1 x2 x3 x4 x5 x6 x7).bind fun(r15:Tq4)=>
 if r15.2 then(
 jn (fun(_:Unit)=>
 if(x2==(3:Int))=true then(
 if(x4 !=(gM x11 (0:Int) x3))then(
 some ((2:Int),x8,x9,x10,x11,x12,x13,x14)
 )else(
 K1 ()
 )
 )else(
 K1 ()
 )
 ) fun(K2:Unit→Option Ty12)=>
 if(hM x8 x4)=true then(
 if(!((gM x8 [] x4)==x6))=true then(
 some ((1:Int),x8,x9,x10,x11,x12,x13,x14)
 )else(
 if(gM x9 false x4)then(
 some ((1:Int),x8,x9,x10,x11,x12,x13,x14)
 )else(
 K2 ()
 )
 )
 )else(
 chk (false=true→false=true→(!((gM x8 [] x4)==x6))=false→false=true)<|
 K2 ()
 )
 )else(
 K1 ()
 )
theorem f43_ok (x1 x2 x3 x4 x5:Int) (x6 x7:List UInt8) (x8:List Tq5) (x9:List Tq4) (x10:List Ty1) (x11:List Tq2) (x12:List Ty1) (x13:List (Tq0×Bool)) (x14:List (Tq2×Bool)) (r:Int×(List Tq5)×(List Tq4)×Ty8×(List Tq2)×Ty8×Ty5×Ty6) (h:f43 x1 x2 x3 x4 x5 x6 x7 x8 x9 x10 x11 x12 x13 x14=some r):aH Tryz.prog 43 [(1,.tab .u64 Lib.pow10Tab),(2,bF),(3,bF)] [2000] [(2000,.cells 115 [.own 2001,.own 2002,.own 2003,.own 2004,.own 2005,.own 2006,.own 2007]),(2001,bP (V.int .i64) 0 dP [] x8),(2002,bP (V.int .i64) 0 dV false x9),(2003,bP aM (default:Tq2) cC [] x10),(2004,bP (V.int .i64) 0 dU 0 x11),(2005,bP aM (default:Tq2) cC [] x12),(2006,bP bN (default:Tq0) eD false x13),(2007,bP bK (default:Tq2) eA false x14)] [.ptr 2000 0,.agg [.int .i64 x1,.int .i64 x2,.int .i64 x3,.int .i64 x4,.int .i64 x5,.str x6,.str x7,.opq,.opq,.opq,.opq,.opq,.opq,.opq,.opq,.opq,.opq,.opq,.opq,.opq,.opq,.opq,.opq,.opq,.opq,.opq,.opq,.opq]] (.int .i64 r.1) [(2000,.cells 115 [.own 2001,.own 2002,.own 2003,.own 2004,.own 2005,.own 2006,.own 2007]),(2001,bP (V.int .i64) 0 dP [] r.2.1),(2002,bP (V.int .i64) 0 dV false r.2.2.1),(2003,bP aM (default:Tq2) cC [] r.2.2.2.1),(2004,bP (V.int .i64) 0 dU 0 r.2.2.2.2.1),(2005,bP aM (default:Tq2) cC [] r.2.2.2.2.2.1),(2006,bP bN (default:Tq0) eD false r.2.2.2.2.2.2.1),(2007,bP bK (default:Tq2) eA false r.2.2.2.2.2.2.2)]:=by
 unfold f43 at h;refine aH.body 0 _ _ Tryz.func43 rfl Tryz.ntmps43 rfl rfl ?_;refine aU [] [] ⟨69,(f43z4),(pS x1 x2 x3 x4 x5 x6 x7 x8 x9 x10 x11 x12 x13 x14),[2000],0⟩ trivial ?_;obtain⟨K1,hK1,h⟩:=aS h;refine AWp.join (fun(x:Unit)=>match x with|()=>⟨69,(f43z4),(pS x1 x2 x3 x4 x5 x6 x7 x8 x9 x10 x11 x12 x13 x14),[2000],0⟩) (fun x=>K1 x=some r) ?_ ?_
 ·
  refine AWp.seq ?_;obtain⟨r15,hr15,h⟩:=bind_ok h;refine cA [] [(1,⟨[.agg (aA6 x1 x2 x3 x4 x5 x6 x7)],[],[],[],.tup [.i r15.1,.bool r15.2],[],[],[]⟩)] [0,3,6,1000001,1000002,1000003] [3,2000,2001,2002,2003,2004,2005,2006,2007] (an1 (cpT (aAc _ _ _ _ _ _ _ _ hr15))) ?_;refine tN ?_;refine aU [] [] ⟨69,[(0,.ptr 2000 0),(3,.ptr 3 0),(14,.bool r15.2),(1000001,.tab .u64 Lib.pow10Tab),(1000002,bF),(1000003,bF)],(pS x1 x2 x3 x4 x5 x6 x7 x8 x9 x10 x11 x12 x13 x14),[2000],0⟩ trivial ?_;refine AWp.cond (b:=r15.2) (by kernel_rfl) (fun hc1=> ?_) (fun hc1=> ?_)
  ·
   replace h:=aE hc1 h;obtain⟨K2,hK2,h⟩:=aS h;refine AWp.join (fun(x:Unit)=>match x with|()=>⟨69,(f43z4),(pS x1 x2 x3 x4 x5 x6 x7 x8 x9 x10 x11 x12 x13 x14),[2000],0⟩) (fun x=>K2 x=some r) ?_ ?_
   ·
    refine aU [] [(6,⟨[.own 2001,.i x4],[2001],[2001],[(2001,bP (V.int .i64) 0 dP [] x8)],.tup [.str (gM x8 [] x4),.bool (hM x8 x4)],[],[],[]⟩)] ⟨69,[(0,.ptr 2000 0),(3,.ptr 3 0),(7,.str (gM x8 [] x4)),(8,.bool (hM x8 x4)),(1000001,.tab .u64 Lib.pow10Tab),(1000002,bF),(1000003,bF)],(pS x1 x2 x3 x4 x5 x6 x7 x8 x9 x10 x11 x12 x13 x14),[2000],0⟩ (an1 (And.intro (dQ (P:=Tryz.prog) Tryz.underlying108 (V.int .i64) kE108 0 dP [] [] (by kernel_rfl) (.tmp 19) (.tmp 21) 118 2001 x8 x4) (eJ.same [.own 2001,.i x4]))) ?_;refine AWp.seq ?_;by_cases hg4_1:(hM x8 x4)=true
    ·
     replace h:=uB hg4_1 h;by_cases hg4_6:(!((gM x8 [] x4)==x6))=true
     ·
      replace h:=uB hg4_6 h;have ob0:=idA (true=true);have ob1:=idA (true=true);have ob2:=idA (true=true);have ob3:=idA (true=true);have ob4:=idA (false=true);have ob5:=idA (false=true);have ob6:=idA (false=true);have ob7:=idA (false=true);have ob8:true=true→true=true→true=false→false=true:=by first|decide|omega|simp|(intro h;cases h)
      have ob9:=idA (true=true);have ob10:true=true→true=true→true=true:=fun _ h=>h;refine aZ [] [(1,⟨[],[],[],[],(.bool true),[],[0],[]⟩),(6,⟨[],[],[],[],(.opt true (.bool true)),[],[0],[]⟩),(13,⟨[],[],[],[],.bool (gM x9 false x4),[],[],[]⟩)] ⟨69,[(0,.ptr 2000 0),(3,.ptr 3 0),(40,.bool true),(1000001,.tab .u64 Lib.pow10Tab),(1000002,bF),(1000003,bF)],(pS x1 x2 x3 x4 x5 x6 x7 x8 x9 x10 x11 x12 x13 x14),[2000],0⟩ (ac6 (show((.bool (hM x8 x4)):V)=(.bool true)from(congrArg (fun x=>((.bool x):V)) hg4_1)) (an1 ob0) (an2 ob1 ob2) (And.intro (an1 ob3) (show((.opt true (.bool (!((gM x8 [] x4)==x6)))):V)=(.opt true (.bool true))from(congrArg (fun x=>((.opt true (.bool x)):V)) hg4_6))) (an1 ob4) (an1 ob5) (an5 (an1 ob6) (an1 ob7) trivial (And.intro ob8 (an1 ob9)) ob10)) ?_;refine tN ?_;refine AWp.cond (b:=true) (by kernel_rfl) (fun hc=> ?_) (fun hc=> ?_)
      ·
       clear hc;refine aU [] [] ⟨69,[(4,.i (1:Int))],(f43z2 x8 x9 x10 x11 x12 x13 x14),[2000],0⟩ trivial ?_;have hret:=Option.some.inj h;subst hret;refine AWp.ret (aY (aY ?_));exact bR _ rfl ⟨rfl,rfl⟩ rfl
      ·
       cases hc
     ·
      replace h:=uC hg4_6 h;have ob0:=idA (true=true);have ob1:=idA (true=true);have ob2:=idA (true=true);have ob3:=idA (true=true);have ob4:=idA (true=true);have ob5:=idA (true=true);have ob6:=idA (true=true);have ob7:=idA (true=true);have ob8:=idA (true=true);have ob9:=idA (true=true);have ob10:true=true→True:=by first|decide|omega|simp|(intro h;cases h)
      have ob11:=idA (true=true);have ob12:true=true→true=true→true=true:=fun _ h=>h;refine aZ [] [(1,⟨[],[],[],[],(.bool true),[],[0],[]⟩),(6,⟨[],[],[],[],(.opt true (.bool false)),[],[0],[]⟩),(13,⟨[.own 2002,.i x4],[2002],[2002],[(2002,bP (V.int .i64) 0 dV false x9)],.bool (gM x9 false x4),[],[],[]⟩)] ⟨69,[(0,.ptr 2000 0),(3,.ptr 3 0),(40,.bool (gM x9 false x4)),(1000001,.tab .u64 Lib.pow10Tab),(1000002,bF),(1000003,bF)],(pS x1 x2 x3 x4 x5 x6 x7 x8 x9 x10 x11 x12 x13 x14),[2000],0⟩ (ac6 (show((.bool (hM x8 x4)):V)=(.bool true)from(congrArg (fun x=>((.bool x):V)) hg4_1)) (an1 ob0) (an2 ob1 ob2) (And.intro (an1 ob3) (show((.opt true (.bool (!((gM x8 [] x4)==x6)))):V)=(.opt true (.bool false))from(congrArg (fun x=>((.opt true (.bool x)):V)) (Bool.eq_false_iff.2 hg4_6)))) (an1 ob4) (an1 ob5) (an5 (an1 ob6) (an1 ob7) (And.intro (And.intro (fA (P:=Tryz.prog) Tryz.underlying109 (V.int .i64) kE109 0 dV false false (by kernel_rfl) (.tmp 35) (.tmp 37) 4 2002 x9 x4) (eJ.same [.own 2002,.i x4])) (an2 ob8 ob9)) (And.intro ob10 (an1 ob11)) ob12)) ?_;refine tN ?_;refine AWp.cond (b:=(gM x9 false x4)) (by kernel_rfl) (fun hc4=> ?_) (fun hc4=> ?_)
      ·
       replace h:=aE hc4 h;refine aU [] [] ⟨69,[(4,.i (1:Int))],(f43z2 x8 x9 x10 x11 x12 x13 x14),[2000],0⟩ trivial ?_;have hret:=Option.some.inj h;subst hret;refine AWp.ret (aY (aY ?_));exact bR _ rfl ⟨rfl,rfl⟩ rfl
      ·
       replace h:=aF hc4 h;refine AWp.skip ?_;exact jN () LR h
    ·
     replace h:=uC hg4_1 h;have ob0:=idA (false=true);have ob1:=idA (false=true);have ob2:=idA (false=true);have ob3:=idA (false=true);have ob4:=idA (false=true);have ob5:=idA (false=true);have ob6:=idA (false=true);have ob7:=idA (false=true);obtain⟨ob8,h⟩:=aB h;have ob9:=idA (false=true);have ob10:true=true→false=true→false=true:=fun _ h=>h;refine aZ [] [(1,⟨[],[],[],[],(.bool false),[],[0],[]⟩),(13,⟨[],[],[],[],.bool (gM x9 false x4),[],[],[]⟩)] ⟨69,[(0,.ptr 2000 0),(3,.ptr 3 0),(40,.bool false),(1000001,.tab .u64 Lib.pow10Tab),(1000002,bF),(1000003,bF)],(pS x1 x2 x3 x4 x5 x6 x7 x8 x9 x10 x11 x12 x13 x14),[2000],0⟩ (ac6 (show((.bool (hM x8 x4)):V)=(.bool false)from(congrArg (fun x=>((.bool x):V)) (Bool.eq_false_iff.2 hg4_1))) (an1 ob0) (an2 ob1 ob2) (an1 ob3) (an1 ob4) (an1 ob5) (an5 (an1 ob6) (an1 ob7) trivial (And.intro ob8 (an1 ob9)) ob10)) ?_;refine tN ?_;refine AWp.cond (b:=false) (by kernel_rfl) (fun hc=> ?_) (fun hc=> ?_)
     ·
      cases hc
     ·
      clear hc;refine AWp.skip ?_;exact jN () LR h
   ·
    rintro⟨⟩ h;replace h:=(congrFun hK2 _).symm.trans h;refine AWp.seq ?_;by_cases hg6_3:(x2==(3:Int))=true
    ·
     replace h:=uB hg6_3 h;have ob13:=idA (true=true);have ob14:=idA (true=true);have ob15:=idA (true=true);have ob16:=idA (true=true);have ob17:=idA (true=true);have ob18:=idA (true=true);have ob19:=idA (true=true);have ob20:=idA (true=true);have ob21:true=true→true=true→true=true:=fun _ h=>h;refine aZ [] [(3,⟨[],[],[],[],(.bool true),[],[0],[]⟩),(12,⟨[.own 2004,.i x3],[2004],[2004],[(2004,bP (V.int .i64) 0 dU 0 x11)],.i (gM x11 (0:Int) x3),[],[],[]⟩)] ⟨69,[(0,.ptr 2000 0),(3,.ptr 3 0),(55,.bool (x4 !=(gM x11 (0:Int) x3))),(1000001,.tab .u64 Lib.pow10Tab),(1000002,bF),(1000003,bF)],(pS x1 x2 x3 x4 x5 x6 x7 x8 x9 x10 x11 x12 x13 x14),[2000],0⟩ (ac6 (show((.bool (x2==(3:Int))):V)=(.bool true)from(congrArg (fun x=>((.bool x):V)) hg6_3)) (an1 ob13) (an1 ob14) (an1 ob15) (an1 ob16) (an1 ob17) (an3 (And.intro (And.intro (fA (P:=Tryz.prog) Tryz.underlying111 (V.int .i64) kE111 0 dU 0 (0:Int) (by kernel_rfl) (.tmp 50) (.tmp 52) 3 2004 x11 x3) (eJ.same [.own 2004,.i x3])) (an2 ob18 ob19)) (an1 ob20) ob21)) ?_;refine tN ?_;refine AWp.cond (b:=(x4 !=(gM x11 (0:Int) x3))) (by kernel_rfl) (fun hc6=> ?_) (fun hc6=> ?_)
     ·
      replace h:=aE hc6 h;refine aU [] [] ⟨69,[(4,.i (2:Int))],(f43z2 x8 x9 x10 x11 x12 x13 x14),[2000],0⟩ trivial ?_;have hret:=Option.some.inj h;subst hret;refine AWp.ret (aY ?_);exact bR _ rfl ⟨rfl,rfl⟩ rfl
     ·
      replace h:=aF hc6 h;refine AWp.skip ?_;exact jN () LR h
    ·
     replace h:=uC hg6_3 h;have ob13:=idA (false=true);have ob14:=idA (false=true);have ob15:=idA (false=true);have ob16:=idA (false=true);have ob17:=idA (false=true);have ob18:=idA (false=true);have ob19:=idA (false=true);have ob20:true=true→false=true→false=true:=fun _ h=>h;refine aZ [] [(3,⟨[],[],[],[],(.bool false),[],[0],[]⟩),(12,⟨[],[],[],[],.i (gM x11 (0:Int) x3),[],[],[]⟩)] ⟨69,[(0,.ptr 2000 0),(3,.ptr 3 0),(55,.bool false),(1000001,.tab .u64 Lib.pow10Tab),(1000002,bF),(1000003,bF)],(pS x1 x2 x3 x4 x5 x6 x7 x8 x9 x10 x11 x12 x13 x14),[2000],0⟩ (ac6 (show((.bool (x2==(3:Int))):V)=(.bool false)from(congrArg (fun x=>((.bool x):V)) (Bool.eq_false_iff.2 hg6_3))) (an1 ob13) (an1 ob14) (an1 ob15) (an1 ob16) (an1 ob17) (an3 trivial (an2 ob18 ob19) ob20)) ?_;refine tN ?_;refine AWp.cond (b:=false) (by kernel_rfl) (fun hc=> ?_) (fun hc=> ?_)
     ·
      cases hc
     ·
      clear hc;refine AWp.skip ?_;exact jN () LR h
  ·
   replace h:=aF hc1 h;refine AWp.skip ?_;exact jN () LR h
 ·
  rintro⟨⟩ h;replace h:=(congrFun hK1 _).symm.trans h;obtain⟨K3,hK3,h⟩:=aS h;refine AWp.join (fun(x:(List Tq5)×(List Tq4)×(f43z7)×(List Tq2)×(f43z7)×Ty5×Ty6)=>match x with|(l18,l19,l20,l21,l22,l23,l24)=>⟨69,(f43z6),(f43z5 l18 l19 l20 l21 l22 l23 l24),[2000],0⟩) (fun x=>K3 x=some r) ?_ ?_
  ·
   refine AWp.seq ?_;obtain⟨r16,hr16,h⟩:=cG h;by_cases hg8_7:((x2==(2:Int))&&r16)=true
   ·
    replace h:=uB hg8_7 h;obtain⟨r17,hr17,h⟩:=bind_ok h;have ob22:=idA (((x2==(2:Int))==true)=true);have ob23:=bqA (x2==(2:Int)) true;have ob24:=idA (true=true);have ob25:=idA (true=true);have ob26:true=true→true=true→true=true:=fun _ h=>h;refine aZ [] [(5,⟨[.agg (aA6 x1 x2 x3 x4 x5 x6 x7)],[],[],[],.bool r16,[],[],[]⟩),(7,⟨[],[],[],[],(.bool true),[],[0],[]⟩),(10,⟨[.ptr 2000 0,.agg (aA6 x1 x2 x3 x4 x5 x6 x7)],[2000,2001,2002,2003,2004,2005,2006,2007],[2000],(f43z3 r17),.bool r17.1,[2001,2002,2003,2004,2005,2006,2007],[],[1,2,3]⟩)] ⟨69,[(68,.bool (!r17.1)),(1000001,.tab .u64 Lib.pow10Tab),(1000002,bF),(1000003,bF)],(f43z3 r17),[2000],0⟩ (an5 (And.intro (cpC fun hc=>(uX _ _ _ _ _ _ _ _ (hr16 hc))) (an1 ob22)) ob23 (show((.bool ((x2==(2:Int))&&r16)):V)=(.bool true)from(congrArg (fun x=>((.bool x):V)) hg8_7)) (And.intro (cpT (f66_ok _ _ _ _ _ _ _ _ _ _ _ _ _ _ _ hr17)) (an2 ob24 ob25)) ob26) ?_;refine tN ?_;refine AWp.cond (b:=(!r17.1)) (by kernel_rfl) (fun hc8=> ?_) (fun hc8=> ?_)
    ·
     replace h:=aE hc8 h;refine aU [] [] ⟨69,[(4,.i (3:Int))],(f43z3 r17),[2000],0⟩ trivial ?_;have hret:=Option.some.inj h;subst hret;refine AWp.ret (aY ?_);exact bR _ rfl ⟨rfl,rfl⟩ rfl
    ·
     replace h:=aF hc8 h;refine AWp.skip ?_;exact jN (r17.2.1,r17.2.2.1,r17.2.2.2.1,r17.2.2.2.2.1,r17.2.2.2.2.2.1,r17.2.2.2.2.2.2.1,r17.2.2.2.2.2.2.2) LR h
   ·
    replace h:=uC hg8_7 h;have ob22:=idA (((x2==(2:Int))==true)=true);have ob23:=bqA (x2==(2:Int)) true;have ob24:=idA (false=true);have ob25:=idA (false=true);have ob26:=idA (false=true);have ob27:true=true→false=true→false=true:=fun _ h=>h;refine aZ [] [(5,⟨[.agg (aA6 x1 x2 x3 x4 x5 x6 x7)],[],[],[],.bool r16,[],[],[]⟩),(7,⟨[],[],[],[],(.bool false),[],[0],[]⟩),(10,⟨[],[],[],[],.bool false,[],[],[]⟩)] ⟨69,[(68,.bool false),(1000001,.tab .u64 Lib.pow10Tab),(1000002,bF),(1000003,bF)],(f43z2 x8 x9 x10 x11 x12 x13 x14),[2000],0⟩ (an6 (And.intro (cpC fun hc=>(uX _ _ _ _ _ _ _ _ (hr16 hc))) (an1 ob22)) ob23 (show((.bool ((x2==(2:Int))&&r16)):V)=(.bool false)from(congrArg (fun x=>((.bool x):V)) (Bool.eq_false_iff.2 hg8_7))) (And.intro (show(pD Tryz.prog false 66 [] [] [] [] [] [.ptr 2000 0,.agg (aA6 x1 x2 x3 x4 x5 x6 x7)] [] (.bool false) [])from⟨nofun,nofun,.inl rfl⟩) (an2 ob24 ob25)) (an1 ob26) ob27) ?_;refine tN ?_;refine AWp.cond (b:=false) (by kernel_rfl) (fun hc=> ?_) (fun hc=> ?_)
    ·
     cases hc
    ·
     clear hc;refine AWp.skip ?_;exact jN (x8,x9,x10,x11,x12,x13,x14) LR h
  ·
   rintro⟨l18,l19,l20,l21,l22,l23,l24⟩ h;replace h:=(congrFun hK3 _).symm.trans h;refine aU [] [] ⟨69,[(4,.i (0:Int))],(f43z5 l18 l19 l20 l21 l22 l23 l24),[2000],0⟩ trivial ?_;have hret:=Option.some.inj h;subst hret;refine AWp.ret ?_;exact bR _ rfl ⟨rfl,rfl⟩ rfl
abbrev f42z0 (r16:Int×(List Tq5)×(List Tq4)×Ty8×(List Tq2)×Ty8×Ty5×Ty6):aK:=[(2000,.cells 115 [.own 2001,.own 2002,.own 2003,.own 2004,.own 2005,.own 2006,.own 2007]),(2001,bP (V.int .i64) 0 dP [] r16.2.1),(2002,bP (V.int .i64) 0 dV false r16.2.2.1),(2003,bP aM (default:Tq2) cC [] r16.2.2.2.1),(2004,bP (V.int .i64) 0 dU 0 r16.2.2.2.2.1),(2005,bP aM (default:Tq2) cC [] r16.2.2.2.2.2.1),(2006,bP bN (default:Tq0) eD false r16.2.2.2.2.2.2.1),(2007,bP bK (default:Tq2) eA false r16.2.2.2.2.2.2.2),(2008,.cells 3 [.int .i64 r16.1])]
def f42 (x1 x2 x3 x4 x5:Int) (x6 x7:List UInt8) (x8:List Tq5) (x9:List Tq4) (x10:List Ty1) (x11:List Tq2) (x12:List Ty1) (x13:List (Tq0×Bool)) (x14:List (Tq2×Bool)) (x15:Int):Option (Bool×(List Tq5)×(List Tq4)×Ty8×(List Tq2)×Ty8×Ty5×Ty6×Int):=
 (f43 x1 x2 x3 x4 x5 x6 x7 x8 x9 x10 x11 x12 x13 x14).bind fun(r16:Int×(List Tq5)×(List Tq4)×Ty8×(List Tq2)×Ty8×Ty5×Ty6)=>
 some ((r16.1 !=(0:Int)),r16.2.1,r16.2.2.1,r16.2.2.2.1,r16.2.2.2.2.1,r16.2.2.2.2.2.1,r16.2.2.2.2.2.2.1,r16.2.2.2.2.2.2.2,r16.1)
theorem f42_ok (x1 x2 x3 x4 x5:Int) (x6 x7:List UInt8) (x8:List Tq5) (x9:List Tq4) (x10:List Ty1) (x11:List Tq2) (x12:List Ty1) (x13:List (Tq0×Bool)) (x14:List (Tq2×Bool)) (x15:Int) (r:Bool×(List Tq5)×(List Tq4)×Ty8×(List Tq2)×Ty8×Ty5×Ty6×Int) (h:f42 x1 x2 x3 x4 x5 x6 x7 x8 x9 x10 x11 x12 x13 x14 x15=some r):aH Tryz.prog 42 [(1,.tab .u64 Lib.pow10Tab),(2,bF),(3,bF)] [2000,2008] [(2000,.cells 115 [.own 2001,.own 2002,.own 2003,.own 2004,.own 2005,.own 2006,.own 2007]),(2001,bP (V.int .i64) 0 dP [] x8),(2002,bP (V.int .i64) 0 dV false x9),(2003,bP aM (default:Tq2) cC [] x10),(2004,bP (V.int .i64) 0 dU 0 x11),(2005,bP aM (default:Tq2) cC [] x12),(2006,bP bN (default:Tq0) eD false x13),(2007,bP bK (default:Tq2) eA false x14),(2008,.cells 3 [.int .i64 x15])] [.ptr 2000 0,.agg [.int .i64 x1,.int .i64 x2,.int .i64 x3,.int .i64 x4,.int .i64 x5,.str x6,.str x7,.opq,.opq,.opq,.opq,.opq,.opq,.opq,.opq,.opq,.opq,.opq,.opq,.opq,.opq,.opq,.opq,.opq,.opq,.opq,.opq,.opq],.ptr 2008 0] (.bool r.1) [(2000,.cells 115 [.own 2001,.own 2002,.own 2003,.own 2004,.own 2005,.own 2006,.own 2007]),(2001,bP (V.int .i64) 0 dP [] r.2.1),(2002,bP (V.int .i64) 0 dV false r.2.2.1),(2003,bP aM (default:Tq2) cC [] r.2.2.2.1),(2004,bP (V.int .i64) 0 dU 0 r.2.2.2.2.1),(2005,bP aM (default:Tq2) cC [] r.2.2.2.2.2.1),(2006,bP bN (default:Tq0) eD false r.2.2.2.2.2.2.1),(2007,bP bK (default:Tq2) eA false r.2.2.2.2.2.2.2.1),(2008,.cells 3 [.int .i64 r.2.2.2.2.2.2.2.2])]:=by
 unfold f42 at h;refine aH.body 0 _ _ Tryz.func42 rfl Tryz.ntmps42 rfl rfl ?_;refine bJ [] [] [0,2,4,1000001,1000002,1000003] [4,2000,2001,2002,2003,2004,2005,2006,2007,2008] trivial ?_;refine AWp.seq ?_;obtain⟨r16,hr16,h⟩:=bind_ok h;refine cA [] [(2,⟨[.ptr 2000 0,.agg (qpc x1 x2 x3 x4 x5 x6 x7)],[2000,2001,2002,2003,2004,2005,2006,2007],[2000],((2000,.cells 115 [.own 2001,.own 2002,.own 2003,.own 2004,.own 2005,.own 2006,.own 2007])::qmp 2001 r16.2.1 r16.2.2.1 r16.2.2.2.1 r16.2.2.2.2.1 r16.2.2.2.2.2.1 r16.2.2.2.2.2.2.1 r16.2.2.2.2.2.2.2),.i r16.1,[2001,2002,2003,2004,2005,2006,2007],[],[1,2,3]⟩)] [2,1000001,1000002,1000003] [2000,2001,2002,2003,2004,2005,2006,2007,2008] (an2 (cpT (f43_ok _ _ _ _ _ _ _ _ _ _ _ _ _ _ _ hr16)) trivial) ?_;refine tN ?_;refine aU [] [] ⟨11,[(5,.bool (r16.1 !=(0:Int)))],(f42z0 r16),[2000,2008],0⟩ trivial ?_;have hret:=Option.some.inj h;subst hret;refine AWp.ret ?_;exact bR _ rfl ⟨rfl,rfl⟩ rfl
abbrev mX (x1 x2 x3 x4 x5:Int) (x6 x7:List UInt8):List V:=[.int .i64 x1,.int .i64 x2,.int .i64 x3,.int .i64 x4,.int .i64 x5,.str x6,.str x7,.opq,.opq,.opq,.opq,.opq,.opq,.opq,.opq,.opq,.opq,.opq,.opq,.opq,.opq,.opq,.opq,.opq,.opq,.opq,.opq,.opq]
abbrev f45z1 (x1 x2 x3 x4 x5:Int) (x6 x7:List UInt8) (x8:List Tq5) (x9:List Tq4) (x10:List Ty1) (x11:List Tq2) (x12:List Ty1) (x13:List (Tq0×Bool)) (x14:List (Tq2×Bool)):aK:=[(3,.cells 51 (mX x1 x2 x3 x4 x5 x6 x7)),(2000,.cells 115 [.own 2001,.own 2002,.own 2003,.own 2004,.own 2005,.own 2006,.own 2007]),(2001,bP (V.int .i64) 0 dP [] x8),(2002,bP (V.int .i64) 0 dV false x9),(2003,bP aM (default:Tq2) cC [] x10),(2004,bP (V.int .i64) 0 dU 0 x11),(2005,bP aM (default:Tq2) cC [] x12),(2006,bP bN (default:Tq0) eD false x13),(2007,bP bK (default:Tq2) eA false x14)]
abbrev jW :List V:=[.own 2001,.own 2002,.own 2003,.own 2004,.own 2005,.own 2006,.own 2007]
abbrev f45z3 (x1 x2 x3 x4 x5:Int) (x6 x7:List UInt8) (l16:List Tq5) (l17:List Tq4) (x10:List Ty1) (x11:List Tq2) (x12:List Ty1) (x13:List (Tq0×Bool)) (x14:List (Tq2×Bool)):aK:=[(3,.cells 51 (mX x1 x2 x3 x4 x5 x6 x7)),(2000,.cells 115 (jW)),(2001,bP (V.int .i64) 0 dP [] l16),(2002,bP (V.int .i64) 0 dV false l17),(2003,bP aM (default:Tq2) cC [] x10),(2004,bP (V.int .i64) 0 dU 0 x11),(2005,bP aM (default:Tq2) cC [] x12),(2006,bP bN (default:Tq0) eD false x13),(2007,bP bK (default:Tq2) eA false x14)]
abbrev f45z4 (x1 x2 x3 x4 x5:Int) (x6 x7:List UInt8) (l19:List Tq5) (l20:List Tq4) (l21:List Ty1) (l22:List Tq2) (x12:List Ty1) (x13:List (Tq0×Bool)) (x14:List (Tq2×Bool)):aK:=[(3,.cells 51 (mX x1 x2 x3 x4 x5 x6 x7)),(10,.cells 145 [.int .i64 x3,.int .i64 x5]),(2000,.cells 115 (jW)),(2001,bP (V.int .i64) 0 dP [] l19),(2002,bP (V.int .i64) 0 dV false l20),(2003,bP aM (default:Tq2) cC [] l21),(2004,bP (V.int .i64) 0 dU 0 l22),(2005,bP aM (default:Tq2) cC [] x12),(2006,bP bN (default:Tq0) eD false (eP x13 (x3,x5,x6) true)),(2007,bP bK (default:Tq2) eA false x14)]
abbrev f45z5 (x1 x2 x3 x4 x5:Int) (x6 x7:List UInt8) (l16:List Tq5) (l17:List Tq4) (l18:List Ty1) (x11:List Tq2) (x12:List Ty1) (x13:List (Tq0×Bool)) (x14:List (Tq2×Bool)):aK:=[(3,.cells 51 (mX x1 x2 x3 x4 x5 x6 x7)),(2000,.cells 115 (jW)),(2001,bP (V.int .i64) 0 dP [] l16),(2002,bP (V.int .i64) 0 dV false l17),(2003,bP aM (default:Tq2) cC [] l18),(2004,bP (V.int .i64) 0 dU 0 x11),(2005,bP aM (default:Tq2) cC [] x12),(2006,bP bN (default:Tq0) eD false x13),(2007,bP bK (default:Tq2) eA false x14)]
abbrev f45z6 :List (Nat×V):=[(0,.ptr 2000 0),(3,.ptr 3 0)]
abbrev f45z7 (r15:Tq4):List (Nat×V):=[(0,.ptr 2000 0),(3,.ptr 3 0),(4,.int .i64 r15.1)]
abbrev xK (x3 x5:Int):List V:=[.int .i64 x3,.int .i64 x5]
def f45 (x1 x2 x3 x4 x5:Int) (x6 x7:List UInt8) (x8:List Tq5) (x9:List Tq4) (x10:List Ty1) (x11:List Tq2) (x12:List Ty1) (x13:List (Tq0×Bool)) (x14:List (Tq2×Bool)):Option Ty3:=
 jn (fun((l19,l20,l21,l22):(List Tq5)×(List Tq4)×Ty8×(List Tq2))=>
 gW ((x2==(1:Int))==true) (f57 x1 x2 x3 x4 x5 x6 x7) fun(r23:Bool)=>
 if((x2==(1:Int))&&r23)then(
 if(!(hM x12 (x3,x5)))then(
 some (l19,l20,l21,l22,(eP x12 (x3,x5) x6),(eP x13 (x3,x5,x6) true),x14)
 )else(
 some (l19,l20,l21,l22,x12,(eP x13 (x3,x5,x6) true),x14)
 )
 )else(
 gW ((x2==(2:Int))==true) (f57 x1 x2 x3 x4 x5 x6 x7) fun(r24:Bool)=>
 if((x2==(2:Int))&&r24)then(
 some (l19,l20,l21,l22,x12,x13,(eP x14 (x3,x5) true))
 )else(
 some (l19,l20,l21,l22,x12,x13,x14)
 )
 )
 ) fun(K1:((List Tq5)×(List Tq4)×Ty8×(List Tq2))→Option Ty3)=>
 (f50 x1 x2 x3 x4 x5 x6 x7).bind fun(r15:Tq4)=>
 if r15.2 then(
 jn (fun((l16,l17):(List Tq5)×(List Tq4))=>
 jn (fun(l18:List Ty1)=>
 if(x2==(3:Int))then(
 chk (-9223372036854775808≤((gM x11 (0:Int) x3)+(1:Int))∧((gM x11 (0:Int) x3)+(1:Int))≤9223372036854775807)<|
 K1 (l16,l17,l18,(eP x11 x3 ((gM x11 (0:Int) x3)+(1:Int))))
 )else(
 K1 (l16,l17,l18,x11)
 )
 ) fun(K3:Ty8→Option Ty3)=>
 if(!(hM x10 (r15.1,x4)))then(
 K3 (eP x10 (r15.1,x4) x6)
 )else(
 K3 x10
 )
 ) fun(K2:((List Tq5)×(List Tq4))→Option Ty3)=>
 if(!(hM x8 x4))then(
 K2 ((eP x8 x4 x6),x9)
 )else(
 if(!((gM x8 [] x4)==x6))then(
 K2 (x8,(eP x9 x4 true))
 )else(
 K2 (x8,x9)
 )
 )
 )else(
 K1 (x8,x9,x10,x11)
 )
theorem f45_ok (x1 x2 x3 x4 x5:Int) (x6 x7:List UInt8) (x8:List Tq5) (x9:List Tq4) (x10:List Ty1) (x11:List Tq2) (x12:List Ty1) (x13:List (Tq0×Bool)) (x14:List (Tq2×Bool)) (r:(List Tq5)×(List Tq4)×Ty8×(List Tq2)×Ty8×Ty5×Ty6) (h:f45 x1 x2 x3 x4 x5 x6 x7 x8 x9 x10 x11 x12 x13 x14=some r):aH Tryz.prog 45 [] [2000] [(2000,.cells 115 [.own 2001,.own 2002,.own 2003,.own 2004,.own 2005,.own 2006,.own 2007]),(2001,bP (V.int .i64) 0 dP [] x8),(2002,bP (V.int .i64) 0 dV false x9),(2003,bP aM (default:Tq2) cC [] x10),(2004,bP (V.int .i64) 0 dU 0 x11),(2005,bP aM (default:Tq2) cC [] x12),(2006,bP bN (default:Tq0) eD false x13),(2007,bP bK (default:Tq2) eA false x14)] [.ptr 2000 0,.agg [.int .i64 x1,.int .i64 x2,.int .i64 x3,.int .i64 x4,.int .i64 x5,.str x6,.str x7,.opq,.opq,.opq,.opq,.opq,.opq,.opq,.opq,.opq,.opq,.opq,.opq,.opq,.opq,.opq,.opq,.opq,.opq,.opq,.opq,.opq]] (.tup []) [(2000,.cells 115 [.own 2001,.own 2002,.own 2003,.own 2004,.own 2005,.own 2006,.own 2007]),(2001,bP (V.int .i64) 0 dP [] r.1),(2002,bP (V.int .i64) 0 dV false r.2.1),(2003,bP aM (default:Tq2) cC [] r.2.2.1),(2004,bP (V.int .i64) 0 dU 0 r.2.2.2.1),(2005,bP aM (default:Tq2) cC [] r.2.2.2.2.1),(2006,bP bN (default:Tq0) eD false r.2.2.2.2.2.1),(2007,bP bK (default:Tq2) eA false r.2.2.2.2.2.2)]:=by
 unfold f45 at h;refine aH.body 0 _ _ Tryz.func45 rfl Tryz.ntmps45 rfl rfl ?_;refine aU [] [] ⟨139,(f45z6),(f45z1 x1 x2 x3 x4 x5 x6 x7 x8 x9 x10 x11 x12 x13 x14),[2000],0⟩ trivial ?_;obtain⟨K1,hK1,h⟩:=aS h;refine AWp.join (fun(x:(List Tq5)×(List Tq4)×Ty8×(List Tq2))=>match x with|(l19,l20,l21,l22)=>⟨139,(f45z6),((3,.cells 51 (mX x1 x2 x3 x4 x5 x6 x7))::(2000,.cells 115 (jW))::qmp 2001 l19 l20 l21 l22 x12 x13 x14),[2000],0⟩) (fun x=>K1 x=some r) ?_ ?_
 ·
  refine AWp.seq ?_;obtain⟨r15,hr15,h⟩:=bind_ok h;refine cA [] [(1,⟨[.agg (mX x1 x2 x3 x4 x5 x6 x7)],[],[],[],.tup [.i r15.1,.bool r15.2],[],[],[]⟩)] [0,3,4,5] [3,2000,2001,2002,2003,2004,2005,2006,2007] (an1 (cpT (aAc _ _ _ _ _ _ _ _ hr15))) ?_;refine tN ?_;refine aU [] [] ⟨139,[(0,.ptr 2000 0),(3,.ptr 3 0),(4,.i r15.1),(18,.bool r15.2)],(f45z1 x1 x2 x3 x4 x5 x6 x7 x8 x9 x10 x11 x12 x13 x14),[2000],0⟩ trivial ?_;refine AWp.cond (b:=r15.2) (by kernel_rfl) (fun hc1=> ?_) (fun hc1=> ?_)
  ·
   replace h:=aE hc1 h;obtain⟨K2,hK2,h⟩:=aS h;refine AWp.join (fun(x:(List Tq5)×(List Tq4))=>match x with|(l16,l17)=>⟨139,(f45z7 r15),(f45z3 x1 x2 x3 x4 x5 x6 x7 l16 l17 x10 x11 x12 x13 x14),[2000],0⟩) (fun x=>K2 x=some r) ?_ ?_
   ·
    refine bJ [] [(6,⟨[.own 2001,.i x4],[2001],[2001],[(2001,bP (V.int .i64) 0 dP [] x8)],.tup [.str (gM x8 [] x4),.bool (hM x8 x4)],[],[],[]⟩)] [0,3,4,6,7] [3,2000,2001,2002,2003,2004,2005,2006,2007] (an1 (And.intro (dQ (P:=Tryz.prog) Tryz.underlying108 (V.int .i64) kE108 0 dP [] [] (by kernel_rfl) (.tmp 23) (.tmp 25) 118 2001 x8 x4) (eJ.same [.own 2001,.i x4]))) ?_;refine bJ [] [] [0,3,4,6,30] [3,2000,2001,2002,2003,2004,2005,2006,2007] trivial ?_;refine AWp.cond (b:=(!(hM x8 x4))) (by kernel_rfl) (fun hc2=> ?_) (fun hc2=> ?_)
    ·
     replace h:=aE hc2 h;refine aZ [] [(8,⟨[.own 2001,.i x4,.str x6],[2001],[2001],[(2001,bP (V.int .i64) 0 dP [] (eP x8 x4 x6))],.any,[],[],[]⟩)] ⟨139,(f45z7 r15),[(3,.cells 51 (mX x1 x2 x3 x4 x5 x6 x7)),(2000,.cells 115 (jW)),(2001,bP (V.int .i64) 0 dP [] (eP x8 x4 x6)),(2002,bP (V.int .i64) 0 dV false x9),(2003,bP aM bI cC [] x10),(2004,bP (V.int .i64) 0 dU 0 x11),(2005,bP aM bI cC [] x12),(2006,bP bN bB eD false x13),(2007,bP bK bI eA false x14)],[2000],0⟩ (an1 (And.intro (eX Tryz.underlying108 (V.int .i64) kE108 (.mapUpdate 108 (.tmp 34) (.tmp 36) (.tmp 38)) (.tmp 34) (.tmp 36) (.tmp 38) (.inr rfl) 0 dP [] (fun _=>rfl) 0 2001 x8 x4 x6) (eJ.same [.own 2001,.i x4,.str x6]))) ?_;exact jN ((eP x8 x4 x6),x9) LR h
    ·
     replace h:=aF hc2 h;refine aU [] [] ⟨139,[(0,.ptr 2000 0),(3,.ptr 3 0),(4,.i r15.1),(42,.bool (!((gM x8 [] x4)==x6)))],(f45z1 x1 x2 x3 x4 x5 x6 x7 x8 x9 x10 x11 x12 x13 x14),[2000],0⟩ trivial ?_;refine AWp.cond (b:=(!((gM x8 [] x4)==x6))) (by kernel_rfl) (fun hc3=> ?_) (fun hc3=> ?_)
     ·
      replace h:=aE hc3 h;refine aZ [] [(6,⟨[.own 2002,.i x4,.bool true],[2002],[2002],[(2002,bP (V.int .i64) 0 dV false (eP x9 x4 true))],.any,[],[],[]⟩)] ⟨139,(f45z7 r15),[(3,.cells 51 (mX x1 x2 x3 x4 x5 x6 x7)),(2000,.cells 115 (jW)),(2001,bP (V.int .i64) 0 dP [] x8),(2002,bP (V.int .i64) 0 dV false (eP x9 x4 true)),(2003,bP aM bI cC [] x10),(2004,bP (V.int .i64) 0 dU 0 x11),(2005,bP aM bI cC [] x12),(2006,bP bN bB eD false x13),(2007,bP bK bI eA false x14)],[2000],0⟩ (an1 (And.intro (eX Tryz.underlying109 (V.int .i64) kE109 (.mapUpdate 109 (.tmp 46) (.tmp 48) (.const (.bool true))) (.tmp 46) (.tmp 48) (.const (.bool true)) (.inr rfl) 0 dV false (fun _=>rfl) 0 2002 x9 x4 true) (eJ.same [.own 2002,.i x4,.bool true]))) ?_;exact jN (x8,(eP x9 x4 true)) LR h
     ·
      replace h:=aF hc3 h;refine AWp.skip ?_;exact jN (x8,x9) LR h
   ·
    rintro⟨l16,l17⟩ h;replace h:=(congrFun hK2 _).symm.trans h;obtain⟨K3,hK3,h⟩:=aS h;refine AWp.join (α:=List Ty1) (fun(l18:List Ty1)=>⟨139,(f45z6),(f45z5 x1 x2 x3 x4 x5 x6 x7 l16 l17 l18 x11 x12 x13 x14),[2000],0⟩) (fun x=>K3 x=some r) ?_ ?_
    ·
     refine bJ [] [(8,⟨[.own 2003,.agg [.i r15.1,.i x4]],[2003],[2003],[(2003,bP aM bI cC [] x10)],.tup [.str (gM x10 [] (r15.1,x4)),.bool (hM x10 (r15.1,x4))],[],[],[]⟩)] [0,3,4,9] [3,2000,2001,2002,2003,2004,2005,2006,2007] (an1 (And.intro (dQ (P:=Tryz.prog) Tryz.underlying110 aM wS bI cC [] [] (by kernel_rfl) (.tmp 53) (.tmp 57) 118 2003 x10 (r15.1,x4)) (eJ.same [.own 2003,.agg [.i r15.1,.i x4]]))) ?_;refine aU [] [] ⟨139,[(0,.ptr 2000 0),(3,.ptr 3 0),(4,.i r15.1),(62,.bool (!(hM x10 (r15.1,x4))))],(f45z3 x1 x2 x3 x4 x5 x6 x7 l16 l17 x10 x11 x12 x13 x14),[2000],0⟩ trivial ?_;refine AWp.cond (b:=(!(hM x10 (r15.1,x4)))) (by kernel_rfl) (fun hc4=> ?_) (fun hc4=> ?_)
     ·
      replace h:=aE hc4 h;refine aZ [] [(10,⟨[.own 2003,.agg [.i r15.1,.i x4],.str x6],[2003],[2003],[(2003,bP aM bI cC [] (eP x10 (r15.1,x4) x6))],.any,[],[],[]⟩)] ⟨139,(f45z6),[(3,.cells 51 (mX x1 x2 x3 x4 x5 x6 x7)),(2000,.cells 115 (jW)),(2001,bP (V.int .i64) 0 dP [] l16),(2002,bP (V.int .i64) 0 dV false l17),(2003,bP aM bI cC [] (eP x10 (r15.1,x4) x6)),(2004,bP (V.int .i64) 0 dU 0 x11),(2005,bP aM bI cC [] x12),(2006,bP bN bB eD false x13),(2007,bP bK bI eA false x14)],[2000],0⟩ (an1 (And.intro (eX Tryz.underlying110 aM wS (.mapUpdate 110 (.tmp 66) (.tmp 70) (.tmp 72)) (.tmp 66) (.tmp 70) (.tmp 72) (.inr rfl) bI cC [] (fun _=>rfl) 0 2003 x10 (r15.1,x4) x6) (eJ.same [.own 2003,.agg [.i r15.1,.i x4],.str x6]))) ?_;exact jN ((eP x10 (r15.1,x4) x6)) LR h
     ·
      replace h:=aF hc4 h;refine AWp.skip ?_;exact jN (x10) LR h
    ·
     rintro l18 h;replace h:=(congrFun hK3 _).symm.trans h;refine aU [] [] ⟨139,[(0,.ptr 2000 0),(3,.ptr 3 0),(75,.bool (x2==(3:Int)))],(f45z5 x1 x2 x3 x4 x5 x6 x7 l16 l17 l18 x11 x12 x13 x14),[2000],0⟩ trivial ?_;refine AWp.cond (b:=(x2==(3:Int))) (by kernel_rfl) (fun hc5=> ?_) (fun hc5=> ?_)
     ·
      replace h:=aE hc5 h;obtain⟨ob0,h⟩:=aB h;refine aZ [] [(6,⟨[.own 2004,.i x3],[2004],[2004],[(2004,bP (V.int .i64) 0 dU 0 x11)],.i (gM x11 (0:Int) x3),[],[],[]⟩),(8,⟨[.own 2004,.i x3,.i ((gM x11 (0:Int) x3)+(1:Int))],[2004],[2004],[(2004,bP (V.int .i64) 0 dU 0 (eP x11 x3 ((gM x11 (0:Int) x3)+(1:Int))))],.any,[],[],[]⟩)] ⟨139,(f45z6),[(3,.cells 51 (mX x1 x2 x3 x4 x5 x6 x7)),(2000,.cells 115 (jW)),(2001,bP (V.int .i64) 0 dP [] l16),(2002,bP (V.int .i64) 0 dV false l17),(2003,bP aM bI cC [] l18),(2004,bP (V.int .i64) 0 dU 0 (eP x11 x3 ((gM x11 (0:Int) x3)+(1:Int)))),(2005,bP aM bI cC [] x12),(2006,bP bN bB eD false x13),(2007,bP bK bI eA false x14)],[2000],0⟩ (an3 (And.intro (fA (P:=Tryz.prog) Tryz.underlying111 (V.int .i64) kE111 0 dU 0 (0:Int) (by kernel_rfl) (.tmp 79) (.tmp 81) 3 2004 x11 x3) (eJ.same [.own 2004,.i x3])) ob0 (And.intro (eX Tryz.underlying111 (V.int .i64) kE111 (.mapUpdate 111 (.tmp 79) (.tmp 81) (.tmp 83)) (.tmp 79) (.tmp 81) (.tmp 83) (.inr rfl) 0 dU 0 (fun _=>rfl) 0 2004 x11 x3 ((gM x11 (0:Int) x3)+(1:Int))) (eJ.same [.own 2004,.i x3,.i ((gM x11 (0:Int) x3)+(1:Int))]))) ?_;exact jN (l16,l17,l18,(eP x11 x3 ((gM x11 (0:Int) x3)+(1:Int)))) LR h
     ·
      replace h:=aF hc5 h;refine AWp.skip ?_;exact jN (l16,l17,l18,x11) LR h
  ·
   replace h:=aF hc1 h;refine AWp.skip ?_;exact jN (x8,x9,x10,x11) LR h
 ·
  rintro⟨l19,l20,l21,l22⟩ h;replace h:=(congrFun hK1 _).symm.trans h;refine bJ [] [] [0,3,10] [3,10,2000,2001,2002,2003,2004,2005,2006,2007] (an1 trivial) ?_;refine AWp.block (AWp.seq ?_);obtain⟨r23,hr23,h⟩:=cG h;have ob1:=idA (((x2==(1:Int))==true)=true);have ob2:=bqA (x2==(1:Int)) true;refine cA [] [(5,⟨[.agg (mX x1 x2 x3 x4 x5 x6 x7)],[],[],[],.bool r23,[],[],[]⟩)] [0,3,10,89] [3,10,2000,2001,2002,2003,2004,2005,2006,2007] (an2 (And.intro (cpC fun hc=>(uX _ _ _ _ _ _ _ _ (hr23 hc))) (an1 ob1)) ob2) ?_;refine tN ?_;refine AWp.cond (b:=((x2==(1:Int))&&r23)) (by kernel_rfl) (fun hc6=> ?_) (fun hc6=> ?_)
  ·
   replace h:=aE hc6 h;refine bJ [] [(11,⟨[.own 2006,.agg [.i x3,.i x5,.str x6],.bool true],[2006],[2006],[(2006,bP bN bB eD false (eP x13 (x3,x5,x6) true))],.any,[],[],[]⟩)] [0,3,10] [3,10,2000,2001,2002,2003,2004,2005,2006,2007] (an1 (And.intro (eX Tryz.underlying112 bN kE112 (.mapUpdate 112 (.tmp 100) (.tmp 107) (.const (.bool true))) (.tmp 100) (.tmp 107) (.const (.bool true)) (.inr rfl) bB eD false (fun _=>rfl) 0 2006 x13 (x3,x5,x6) true) (eJ.same [.own 2006,.agg [.i x3,.i x5,.str x6],.bool true]))) ?_;refine bJ [] [(5,⟨[.own 2005,.agg (xK x3 x5)],[2005],[2005],[(2005,bP aM bI cC [] x12)],.tup [.str (gM x12 [] (x3,x5)),.bool (hM x12 (x3,x5))],[],[],[]⟩)] [0,3,10,12] [3,10,2000,2001,2002,2003,2004,2005,2006,2007] (an1 (And.intro (dQ (P:=Tryz.prog) Tryz.underlying110 aM wS bI cC [] [] (by kernel_rfl) (.tmp 112) (.tmp 113) 118 2005 x12 (x3,x5)) (eJ.same [.own 2005,.agg (xK x3 x5)]))) ?_;refine aU [] [] ⟨139,[(0,.ptr 2000 0),(3,.ptr 3 0),(10,.ptr 10 0),(118,.bool (!(hM x12 (x3,x5))))],(f45z4 x1 x2 x3 x4 x5 x6 x7 l19 l20 l21 l22 x12 x13 x14),[2000],0⟩ trivial ?_;refine AWp.cond (b:=(!(hM x12 (x3,x5)))) (by kernel_rfl) (fun hc7=> ?_) (fun hc7=> ?_)
   ·
    replace h:=aE hc7 h;refine aZ [] [(7,⟨[.own 2005,.agg (xK x3 x5),.str x6],[2005],[2005],[(2005,bP aM bI cC [] (eP x12 (x3,x5) x6))],.any,[],[],[]⟩)] ⟨139,[],[(2000,.cells 115 (jW)),(2001,bP (V.int .i64) 0 dP [] l19),(2002,bP (V.int .i64) 0 dV false l20),(2003,bP aM bI cC [] l21),(2004,bP (V.int .i64) 0 dU 0 l22),(2005,bP aM bI cC [] (eP x12 (x3,x5) x6)),(2006,bP bN bB eD false (eP x13 (x3,x5,x6) true)),(2007,bP bK bI eA false x14)],[2000],0⟩ (an1 (And.intro (eX Tryz.underlying110 aM wS (.mapUpdate 110 (.tmp 122) (.tmp 123) (.tmp 125)) (.tmp 122) (.tmp 123) (.tmp 125) (.inr rfl) bI cC [] (fun _=>rfl) 0 2005 x12 (x3,x5) x6) (eJ.same [.own 2005,.agg (xK x3 x5),.str x6]))) ?_;refine kN ?_;have hret:=Option.some.inj h;subst hret;exact nI (LR (s':=⟨139,[],[(2000,.cells 115 (jW)),(2001,bP (V.int .i64) 0 dP [] l19),(2002,bP (V.int .i64) 0 dV false l20),(2003,bP aM bI cC [] l21),(2004,bP (V.int .i64) 0 dU 0 l22),(2005,bP aM bI cC [] (eP x12 (x3,x5) x6)),(2006,bP bN bB eD false (eP x13 (x3,x5,x6) true)),(2007,bP bK bI eA false x14)],[2000],0⟩)) (fQ _ rfl ⟨rfl,rfl⟩ rfl)
   ·
    replace h:=aF hc7 h;refine AWp.skip (kN ?_);have hret:=Option.some.inj h;subst hret;exact nI (LR (s':=⟨139,[],[(2000,.cells 115 (jW)),(2001,bP (V.int .i64) 0 dP [] l19),(2002,bP (V.int .i64) 0 dV false l20),(2003,bP aM bI cC [] l21),(2004,bP (V.int .i64) 0 dU 0 l22),(2005,bP aM bI cC [] x12),(2006,bP bN bB eD false (eP x13 (x3,x5,x6) true)),(2007,bP bK bI eA false x14)],[2000],0⟩)) (fQ _ rfl ⟨rfl,rfl⟩ rfl)
  ·
   replace h:=aF hc6 h;refine AWp.seq ?_;obtain⟨r24,hr24,h⟩:=cG h;have ob3:=idA (((x2==(2:Int))==true)=true);have ob4:=bqA (x2==(2:Int)) true;refine aZ [] [(5,⟨[.agg (mX x1 x2 x3 x4 x5 x6 x7)],[],[],[],.bool r24,[],[],[]⟩)] ⟨139,[(0,.ptr 2000 0),(10,.ptr 10 0),(126,.bool ((x2==(2:Int))&&r24))],((10,.cells 145 (xK x3 x5))::(2000,.cells 115 (jW))::qmp 2001 l19 l20 l21 l22 x12 x13 x14),[2000],0⟩ (an2 (And.intro (cpC fun hc=>(uX _ _ _ _ _ _ _ _ (hr24 hc))) (an1 ob3)) ob4) ?_;refine tN ?_;refine AWp.cond (b:=((x2==(2:Int))&&r24)) (by kernel_rfl) (fun hc8=> ?_) (fun hc8=> ?_)
   ·
    replace h:=aE hc8 h;refine aZ [] [(5,⟨[.own 2007,.agg (xK x3 x5),.bool true],[2007],[2007],[(2007,bP bK bI eA false (eP x14 (x3,x5) true))],.any,[],[],[]⟩)] ⟨139,[],[(2000,.cells 115 (jW)),(2001,bP (V.int .i64) 0 dP [] l19),(2002,bP (V.int .i64) 0 dV false l20),(2003,bP aM bI cC [] l21),(2004,bP (V.int .i64) 0 dU 0 l22),(2005,bP aM bI cC [] x12),(2006,bP bN bB eD false x13),(2007,bP bK bI eA false (eP x14 (x3,x5) true))],[2000],0⟩ (an1 (And.intro (eX Tryz.underlying113 bK kE113 (.mapUpdate 113 (.tmp 137) (.tmp 138) (.const (.bool true))) (.tmp 137) (.tmp 138) (.const (.bool true)) (.inr rfl) bI eA false (fun _=>rfl) 0 2007 x14 (x3,x5) true) (eJ.same [.own 2007,.agg (xK x3 x5),.bool true]))) ?_;refine kN ?_;have hret:=Option.some.inj h;subst hret;exact nI (LR (s':=⟨139,[],[(2000,.cells 115 (jW)),(2001,bP (V.int .i64) 0 dP [] l19),(2002,bP (V.int .i64) 0 dV false l20),(2003,bP aM bI cC [] l21),(2004,bP (V.int .i64) 0 dU 0 l22),(2005,bP aM bI cC [] x12),(2006,bP bN bB eD false x13),(2007,bP bK bI eA false (eP x14 (x3,x5) true))],[2000],0⟩)) (fQ _ rfl ⟨rfl,rfl⟩ rfl)
   ·
    replace h:=aF hc8 h;refine AWp.skip (kN ?_);have hret:=Option.some.inj h;subst hret;exact nI (LR (s':=⟨139,[],((2000,.cells 115 (jW))::qmp 2001 l19 l20 l21 l22 x12 x13 x14),[2000],0⟩)) (fQ _ rfl ⟨rfl,rfl⟩ rfl)
end Go.Abs
