/- Part 18 of the proof: Chta, Cntta, Taa, Tab, TaF, Map54, TaD, TaE, TaG, TaH, TaI, Chtb, TaJ. -/
import Derived.Test.YtjgboohpholnbaaDoorTpagnZ17
namespace Go.Abs
/-! f73a, f71a -/
theorem kP (L:List Nat) (i:Nat) (K:BitVec 16→Option Tq2) (hL:L.length≤12) (hi:i<4096):∀c k n w,n+c=L.length→c<k→gO (L.map fun i:Nat=>(i:Int)) (i:Int) K k (w,n)=K (wP (L.drop n) (i/2^n) w)
 |0,k,n,w,hc,hk=>by
  obtain⟨k,rfl⟩:∃q,k=q+1:=⟨k-1,by omega⟩
  rw[gO.eq_2,cH (by rw[dI];omega),List.drop_eq_nil_of_le (by omega)]
  rfl
 |c+1,k,n,w,hc,hk=>by
  obtain⟨k,rfl⟩:∃q,k=q+1:=⟨k-1,by omega⟩
  have hu:IntKind.bits .u32=32:=rfl
  have hlt:i/2^n<4096:=Nat.lt_of_le_of_lt (Nat.div_le_self _ _) hi
  rw[gO.eq_2,cG (by rw[dI];omega),cD,aC (by rw[dI];omega),aC (by rw[dI];omega),aC (by rw[hu];omega),mp_get L n (by omega),divc,and1 hlt,getD_drop L n 0 (by omega),wP,Nat.div_div_eq_div_mul,←Nat.pow_succ,Int.toNat_natCast]
  by_cases hb:i/2^n%2=1
  ·rw[cG hb,if_pos hb,aC (by omega)]
   dsimp only
   rw[aC (by omega),kP L i K hL hi c k (n+1) _ (by omega) (by omega)]
  ·rw[cH hb,if_neg hb]
   dsimp only
   rw[aC (by omega),kP L i K hL hi c k (n+1) _ (by omega) (by omega)]
theorem zI (Y:Tq1→BitVec 16→Option (Nat×Tq1)) (g:Tq1→BitVec 16→Nat×Tq1) (Inv:Tq1→Prop) (hY:∀st x,Inv st→Y st x=some (g st x)) (hI:∀st x,Inv st→(g st x).1=0→Inv (g st x).2) (M:List Nat) (hM:M.length≤12) (K1:Tq3→Option Tq2)
  (t:List Nat) (a k:Nat) (st:Tq1) (hc:jW M.length a t=true) (hk:t.length+1<k) (hi:Inv st):
  eM Y (M.map fun i:Nat=>(i:Int)) K1 k ((a:Int),st.2.2.2,st.2.1,st.1,st.2.2.1,0)=if(dP g ((a::t).map fun j=>wP M j 0#16) st).1=0 then(fun st:Tq1=>K1 (st.2.2.2,st.2.1,st.1,st.2.2.1,0)) (dP g ((a::t).map fun j=>wP M j 0#16) st).2 else some (false,dP g ((a::t).map fun j=>wP M j 0#16) st):=by
 refine xZ (fun k i st=>eM Y (M.map fun i:Nat=>(i:Int)) K1 k (i,st.2.2.2,st.2.1,st.1,st.2.2.1,0)) g Inv (fun st=>K1 (st.2.2.2,st.2.1,st.1,st.2.2.1,0)) (fun r=>some (false,r)) M hI ?_ ?_ t a k st hc hk hi
 ·intro k i st hi he;obtain⟨p1,p2,p3⟩:=qC hM;have hu:IntKind.bits .u32=32:=rfl;show eM Y _ K1 (k+1) _=_;rw[eM.eq_2,dI,aC (by rw[hu];omega),cH (by omega)]
 ·intro k a st hi ha hg;obtain⟨p1,p2,p3⟩:=qC hM;have hu:IntKind.bits .u32=32:=rfl;have ha':a<4096:=by have:=Nat.pow_le_pow_right (n:=2) (by decide) hM;omega
  show eM Y _ K1 (k+1) _=_;rw[eM.eq_2,dI,aC (by rw[hu];omega),cG (by omega),cD,kP M a _ hM ha' M.length bG 0 _ (by omega) (fuel_lt (by omega)),cD,aC rfl,show(BitVec.ofInt 16 0)=0#16 from rfl,List.drop_zero,Nat.pow_zero,Nat.div_one,hY _ _ hi,aD];by_cases hz:(g st (wP M a 0#16)).1=0
  ·rw[if_pos hz,if_pos hz,if_neg (by simp)];dsimp only;by_cases h0:a=0
   ·rw[if_pos (by simp;omega),if_pos h0]
   ·rw[if_neg (by simp;omega),if_neg h0];have hg:=hg.resolve_left h0;unfold gosC sH at hg;simp only[Bool.and_eq_true,decide_eq_true_eq]at hg;rw[aC hg.1,aC hg.2,aC (by rw[hu];omega)];unfold gosN sH;rfl
  ·rw[if_neg hz,if_neg hz,if_pos (by simp)]
theorem f73a_eq (Y:Tq1→BitVec 16→Option (Nat×Tq1)) (g:Tq1→BitVec 16→Nat×Tq1) (Inv:Tq1→Prop) (hY:∀st x,Inv st→Y st x=some (g st x)) (hI:∀st x,Inv st→(g st x).1=0→Inv (g st x).2) (s:BitVec 16) (hs:s.toNat<4096) (n:Nat) (hn:n≤sz s) (st:Tq1) (hi:Inv st):
  f73a Y s (n:Int) st.1 st.2.1 st.2.2.1 st.2.2.2=some (decide ((dP g (bS s n) st).1=0),dP g (bS s n) st):=by
 have hm:(gB s.toNat 16).length=sz s:=by rw[dM,oM]
 have hM:(gB s.toNat 16).length≤12:=by
  have h:=fun i (h:i∈gB s.toNat 16)=>(List.mem_filter.1 h)
  have hsub:gB s.toNat 16=(gB s.toNat 12):=by
   have hb:∀i,12≤i→¬s.toNat/2^i%2=1:=by
    intro i hi;have:s.toNat/2^i=0:=Nat.div_eq_of_lt (Nat.lt_of_lt_of_le hs (Nat.pow_le_pow_right (n:=2) (by decide) hi));omega
   rw[bX,bX,bX,bX,if_neg (hb 15 (by omega)),if_neg (hb 14 (by omega)),if_neg (hb 13 (by omega)),if_neg (hb 12 (by omega))];simp
  rw[hsub,dM];exact qZ _ _
 obtain⟨a,t,e1,e2,e3,e4⟩:=gOK_of (hm▸hM) hn;have hu:IntKind.bits .u32=32:=rfl;have hp:=(qC (m:=n) (by omega));unfold f73a;rw[f93_eq s hs,aD,if_neg (by rw[List.length_map,hm];simp;omega),cD,Int.toNat_natCast,aC ⟨by omega,by rw[hu];omega,by omega,by omega⟩,aC (by omega)];have ea:(1:Int) *2^n-1=(a:Int):=by rw[hp.2.2];omega
 rw[ea];rw[←hm]at e1 e3;have e5:=mS s n;rw[←hm,e1]at e5;refine(zI Y g Inv hY hI _ hM _ t a bG st e3 (fuel_lt (by omega)) hi).trans ?_;rw[e5];by_cases hz:(dP g (bS s n) st).1=0
 ·rw[if_pos hz,decide_eq_true hz];show some (true,0,_)=_;rw[←hz]
 ·rw[if_neg hz,decide_eq_false hz]
theorem f71a_eq (Y:Tq1→BitVec 16→Option (Nat×Tq1)) (g:Tq1→BitVec 16→Nat×Tq1) (Inv:Tq1→Prop) (hY:∀st x,Inv st→Y st x=some (g st x)) (hI:∀st x,Inv st→(g st x).1=0→Inv (g st x).2) (s:BitVec 16) (hs:s.toNat<4096) (hw:∀st,Inv st→st.2.2.2=s) (st:Tq1) (hi:Inv st):
  f71a Y st.1 st.2.1 st.2.2.1 st.2.2.2=some (dP g (bN s) st):=by
 unfold f71a;rw[iP];refine pW (fun k n st=>dS Y k (n,st.2.2.2,st.2.1,st.1,st.2.2.1,0)) g Inv some s hI ?_ ?_ (sz s+1) bG 0 st (by omega) (fuel_lt (by have:=szle s;omega)) hi
 ·intro k st hi;have hst:=hw st hi;show dS Y (k+1) _=_;rw[dS.eq_2,aC rfl,hst,lH,aD,cH (by omega)];rw[←hst]
 ·intro k n st hi hn;have hst:=hw st hi;show dS Y (k+1) _=_;rw[dS.eq_2,aC rfl,hst,lH,aD,cG (by omega)];have e:=f73a_eq Y g Inv hY hI s hs n hn st hi;rw[hst]at e;rw[e,aD];have hb:=szle s;by_cases hz:(dP g (bS s n) st).1=0
  ·rw[if_pos hz,if_pos (decide_eq_true hz),aC (by omega)];show dS Y k _=dS Y k _;rw[hz]
  ·rw[if_neg hz,if_neg (by simp[hz])]
/-! f73, f71 -/
theorem oD (L:List Nat) (i:Nat) (K:BitVec 16→Option Ty5) (hL:L.length≤12) (hi:i<4096):∀c k n w,n+c=L.length→c<k→lF (L.map fun i:Nat=>(i:Int)) (i:Int) K k (w,n)=K (wP (L.drop n) (i/2^n) w)
 |0,k,n,w,hc,hk=>by
  obtain⟨k,rfl⟩:∃q,k=q+1:=⟨k-1,by omega⟩
  rw[lF.eq_2,cH (by rw[dI];omega),List.drop_eq_nil_of_le (by omega)]
  rfl
 |c+1,k,n,w,hc,hk=>by
  obtain⟨k,rfl⟩:∃q,k=q+1:=⟨k-1,by omega⟩
  have hu:IntKind.bits .u32=32:=rfl
  have hlt:i/2^n<4096:=Nat.lt_of_le_of_lt (Nat.div_le_self _ _) hi
  rw[lF.eq_2,cG (by rw[dI];omega),cD,aC (by rw[dI];omega),aC (by rw[dI];omega),aC (by rw[hu];omega),mp_get L n (by omega),divc,and1 hlt,getD_drop L n 0 (by omega),wP,Nat.div_div_eq_div_mul,←Nat.pow_succ,Int.toNat_natCast]
  by_cases hb:i/2^n%2=1
  ·rw[cG hb,if_pos hb,aC (by omega)]
   dsimp only
   rw[aC (by omega),oD L i K hL hi c k (n+1) _ (by omega) (by omega)]
  ·rw[cH hb,if_neg hb]
   dsimp only
   rw[aC (by omega),oD L i K hL hi c k (n+1) _ (by omega) (by omega)]
theorem f73_L0_eq (Y:Ty2→BitVec 16→Option (Nat×Ty2)) (g:Ty2→BitVec 16→Nat×Ty2) (Inv:Ty2→Prop) (hY:∀st x,Inv st→Y st x=some (g st x)) (hI:∀st x,Inv st→(g st x).1=0→Inv (g st x).2) (M:List Nat) (hM:M.length≤12) (K1:(BitVec 16×Int×Ty4×Int×List (BitVec 16)×Nat)→Option Ty5)
  (t:List Nat) (a k:Nat) (st:Ty2) (hc:jW M.length a t=true) (hk:t.length+1<k) (hi:Inv st):
  gP Y (M.map fun i:Nat=>(i:Int)) K1 k ((a:Int),st.2.2.2.2,st.2.2.1,st.1,st.2.1,st.2.2.2.1,0)=if(dP g ((a::t).map fun j=>wP M j 0#16) st).1=0 then(fun st:Ty2=>K1 (st.2.2.2.2,st.2.2.1,st.1,st.2.1,st.2.2.2.1,0)) (dP g ((a::t).map fun j=>wP M j 0#16) st).2 else some (false,dP g ((a::t).map fun j=>wP M j 0#16) st):=by
 refine xZ (fun k i st=>gP Y (M.map fun i:Nat=>(i:Int)) K1 k (i,st.2.2.2.2,st.2.2.1,st.1,st.2.1,st.2.2.2.1,0)) g Inv (fun st=>K1 (st.2.2.2.2,st.2.2.1,st.1,st.2.1,st.2.2.2.1,0)) (fun r=>some (false,r)) M hI ?_ ?_ t a k st hc hk hi
 ·intro k i st hi he;obtain⟨p1,p2,p3⟩:=qC hM;have hu:IntKind.bits .u32=32:=rfl;show gP Y _ K1 (k+1) _=_;rw[gP.eq_2,dI,aC (by rw[hu];omega),cH (by omega)]
 ·intro k a st hi ha hg;obtain⟨p1,p2,p3⟩:=qC hM;have hu:IntKind.bits .u32=32:=rfl;have ha':a<4096:=by have:=Nat.pow_le_pow_right (n:=2) (by decide) hM;omega
  show gP Y _ K1 (k+1) _=_;rw[gP.eq_2,dI,aC (by rw[hu];omega),cG (by omega),cD,oD M a _ hM ha' M.length bG 0 _ (by omega) (fuel_lt (by omega)),cD,aC rfl,show(BitVec.ofInt 16 0)=0#16 from rfl,List.drop_zero,Nat.pow_zero,Nat.div_one,hY _ _ hi,aD];by_cases hz:(g st (wP M a 0#16)).1=0
  ·rw[if_pos hz,if_pos hz,if_neg (by simp)];dsimp only;by_cases h0:a=0
   ·rw[if_pos (by simp;omega),if_pos h0]
   ·rw[if_neg (by simp;omega),if_neg h0];have hg:=hg.resolve_left h0;unfold gosC sH at hg;simp only[Bool.and_eq_true,decide_eq_true_eq]at hg;rw[aC hg.1,aC hg.2,aC (by rw[hu];omega)];unfold gosN sH;rfl
  ·rw[if_neg hz,if_neg hz,if_pos (by simp)]
theorem f73_eq (Y:Ty2→BitVec 16→Option (Nat×Ty2)) (g:Ty2→BitVec 16→Nat×Ty2) (Inv:Ty2→Prop) (hY:∀st x,Inv st→Y st x=some (g st x)) (hI:∀st x,Inv st→(g st x).1=0→Inv (g st x).2) (s:BitVec 16) (hs:s.toNat<4096) (n:Nat) (hn:n≤sz s) (st:Ty2) (hi:Inv st):
  f73 Y s (n:Int) st.1 st.2.1 st.2.2.1 st.2.2.2.1 st.2.2.2.2=some (decide ((dP g (bS s n) st).1=0),dP g (bS s n) st):=by
 have hm:(gB s.toNat 16).length=sz s:=by rw[dM,oM]
 have hM:(gB s.toNat 16).length≤12:=by
  have h:=fun i (h:i∈gB s.toNat 16)=>(List.mem_filter.1 h)
  have hsub:gB s.toNat 16=(gB s.toNat 12):=by
   have hb:∀i,12≤i→¬s.toNat/2^i%2=1:=by
    intro i hi;have:s.toNat/2^i=0:=Nat.div_eq_of_lt (Nat.lt_of_lt_of_le hs (Nat.pow_le_pow_right (n:=2) (by decide) hi));omega
   rw[bX,bX,bX,bX,if_neg (hb 15 (by omega)),if_neg (hb 14 (by omega)),if_neg (hb 13 (by omega)),if_neg (hb 12 (by omega))];simp
  rw[hsub,dM];exact qZ _ _
 obtain⟨a,t,e1,e2,e3,e4⟩:=gOK_of (hm▸hM) hn;have hu:IntKind.bits .u32=32:=rfl;have hp:=(qC (m:=n) (by omega));unfold f73;rw[f93_eq s hs,aD,if_neg (by rw[List.length_map,hm];simp;omega),cD,Int.toNat_natCast,aC ⟨by omega,by rw[hu];omega,by omega,by omega⟩,aC (by omega)];have ea:(1:Int) *2^n-1=(a:Int):=by rw[hp.2.2];omega
 rw[ea];rw[←hm]at e1 e3;have e5:=mS s n;rw[←hm,e1]at e5;refine(f73_L0_eq Y g Inv hY hI _ hM _ t a bG st e3 (fuel_lt (by omega)) hi).trans ?_;rw[e5];by_cases hz:(dP g (bS s n) st).1=0
 ·rw[if_pos hz,decide_eq_true hz];show some (true,0,_)=_;rw[←hz]
 ·rw[if_neg hz,decide_eq_false hz]
theorem f71_eq (Y:Ty2→BitVec 16→Option (Nat×Ty2)) (g:Ty2→BitVec 16→Nat×Ty2) (Inv:Ty2→Prop) (hY:∀st x,Inv st→Y st x=some (g st x)) (hI:∀st x,Inv st→(g st x).1=0→Inv (g st x).2) (s:BitVec 16) (hs:s.toNat<4096) (hw:∀st,Inv st→st.2.2.2.2=s) (st:Ty2) (hi:Inv st):
  f71 Y st.1 st.2.1 st.2.2.1 st.2.2.2.1 st.2.2.2.2=some (dP g (bN s) st):=by
 unfold f71;rw[iP];refine pW (fun k n st=>fX Y k (n,st.2.2.2.2,st.2.2.1,st.1,st.2.1,st.2.2.2.1,0)) g Inv some s hI ?_ ?_ (sz s+1) bG 0 st (by omega) (fuel_lt (by have:=szle s;omega)) hi
 ·intro k st hi;have hst:=hw st hi;show fX Y (k+1) _=_;rw[fX.eq_2,aC rfl,hst,lH,aD,cH (by omega)];rw[←hst]
 ·intro k n st hi hn;have hst:=hw st hi;show fX Y (k+1) _=_;rw[fX.eq_2,aC rfl,hst,lH,aD,cG (by omega)];have e:=f73_eq Y g Inv hY hI s hs n hn st hi;rw[hst]at e;rw[e,aD];have hb:=szle s;by_cases hz:(dP g (bS s n) st).1=0
  ·rw[if_pos hz,if_pos (decide_eq_true hz),aC (by omega)];show fX Y k _=fX Y k _;rw[hz]
  ·rw[if_neg hz,if_neg (by simp[hz])]
end Go.Abs
namespace Go.Abs
end Go.Abs
namespace Go.Abs
/-! ### lists that are in order -/
theorem nV {l:List (BitVec 16)} {n:Nat} (h:n<l.length):l.getD n 0#16∈l:=by
 rw[List.getD_eq_getElem?_getD,List.getElem?_eq_getElem h];exact List.getElem_mem h
theorem wR (x:List (BitVec 16)) (h:okS x):∀(c n:Nat),n+c=x.length→uZ x c n=none
 |0,_,_=>rfl
 |c+1,n,hn=>by
  have h1:=h.2.2 _ (nV (l:=x) (n:=n) (by omega))
  rw[uZ,if_pos h1,wR x h c (n+1) (by omega),if_neg]
  intro e
  simp only[Bool.and_eq_true,decide_eq_true_eq,Bool.not_eq_true']at e
  have:=ltS_key.2 (pA h.1 (i:=n-1) (j:=n) (by omega) (by omega))
  rw[this]at e;exact absurd e.2 (by simp)
theorem f42_ok0 (x:List (BitVec 16)) (h:okS x) (hl:x.length≤400):f42 x=some 0:=by
 rw[f42_val x hl,wR x h _ 0 (by omega)];show(if bad1 x x.length 0=true then some 1 else some 0)=some (0:Int);rw[if_neg];intro e;obtain⟨m,j,_,hm,hj,hs⟩:=(yC x x.length 0 (by omega)).1 e;have e1:=h.2.1 _ (nV (l:=x) (n:=j) (by omega)) _ (nV hm) hs;have e2:=pA h.1 hj hm;rw[e1]at e2;omega
theorem f65a_eq (x:List (BitVec 16)) (s:BitVec 16) (hx:x.length≤65536):f65a x s=some (x.any (fun y=>(y&&&s)==0#16),s):=by
 unfold f65a f63a;rw[cD]
 rcases find_up (fun k n => eZ x (fun w6 => some ((-1 : Int), w6)) k (n, s)) x 0#16 (fun y => (y &&& s) == 0#16) (fun m => some ((m : Int), s)) (some ((-1 : Int), s)) (fun k n hn=>by
  show eZ x _ (k+1) (n,s)=_;rw[eZ.eq_2,cG (by omega)];unfold f81;rw[aD,aC (by omega)];dsimp only;rw[aC (by omega)]
  rfl) (fun k=>by
  show eZ x _ (k+1) (x.length,s)=_;rw[eZ.eq_2,cH (by omega)]) x.length bG 0 (by omega) (fuel_lt (by omega))with⟨m,_,_,_,h1,h2⟩|⟨h1,h2⟩
 ·rw[h1,aD];rw[List.drop_zero]at h2;rw[h2];simp
 ·rw[h1,aD];rw[List.drop_zero]at h2;rw[h2];simp
theorem f44_eq (x:List (BitVec 16)) (s:BitVec 16) (hx:x.length≤65536):f44 x s=some (yZ x s):=by
 unfold f44 yZ;rw[f65a_eq x s hx,aD];simp[List.any_eq_not_all_not]
abbrev S12 :=List (BitVec 16)×Int×List (BitVec 16)×BitVec 16
def g12 (x:List (BitVec 16)) (st:S12) (s:BitVec 16):Nat×S12:=
 if(yZ x s&& !acc st.2.2.1 s)=true then(if st.2.2.1.length+1>400 then(2,(st.1,3,st.2.2.1++[s],st.2.2.2))else(0,(st.1,st.2.1,st.2.2.1++[s],st.2.2.2)))else(0,st)
def I12 (x:List (BitVec 16)) (U:BitVec 16) (st:S12):Prop:=st.1=x∧st.2.2.1.length≤400∧st.2.2.2=U
theorem y12_eq (x:List (BitVec 16)) (U:BitVec 16) (hx:x.length≤65536) (st:S12) (s:BitVec 16) (hi:I12 x U st):fO st s=some (g12 x st s):=by
 obtain⟨l7,i6,l8,w5⟩:=st;obtain⟨h1,h2,h3⟩:=hi;dsimp only at h1 h2 h3;subst h1;show(f31 l8 s).bind _=_;unfold g12;dsimp only;rw[vT l8 s (by omega),aD]
 cases ha:acc l8 s with
 |true=>simp[rI]
 |false=>
  rw[show((!false)==true)=true from rfl,iG,f44_eq l7 s hx,aD]
  cases hh:yZ l7 s with
  |false=>simp
  |true=>
   simp only[Bool.not_false,Bool.and_self,if_true];rw[aC (by omega)];by_cases hl:l8.length+1>400
   ·rw[if_pos hl,cG (by simp;omega)]
   ·rw[if_neg hl,cH (by simp;omega)]
theorem i12_keep (x:List (BitVec 16)) (U:BitVec 16) (st:S12) (s:BitVec 16) (hi:I12 x U st) (hz:(g12 x st s).1=0):I12 x U (g12 x st s).2:=by
 obtain⟨h1,h2,h3⟩:=hi;unfold g12 at hz⊢;by_cases hc:(yZ x s&& !acc st.2.2.1 s)=true
 ·rw[if_pos hc]at hz⊢;by_cases hl:st.2.2.1.length+1>400
  ·rw[if_pos hl]at hz;cases hz
  ·rw[if_neg hl];exact⟨h1,by simp;omega,h3⟩
 ·rw[if_neg hc];exact⟨h1,h2,h3⟩
theorem f12_eq (x:List (BitVec 16)) (h:okS x) (hl:x.length≤400) (hd:(vW x).length≤400):f12 x=some (0,vW x):=by
 have hU:(iA x).toNat<4096:=supp_lt x 0#16 (by decide) h.2.2;have hi:I12 x (iA x) (x,0,[],iA x):=⟨rfl,by simp,rfl⟩;have e:=f71a_eq fO (g12 x) (I12 x (iA x)) (fun st s hi=>y12_eq x _ (by omega) st s hi) (fun st s hi hz=>i12_keep x _ st s hi hz) (iA x) hU (fun st hi=>hi.2.2) (x,0,[],iA x) hi
 have r:dP (g12 x) (bN (iA x)) (x,0,[],iA x)=(0,(x,0,vW x,iA x)):=by
  unfold vW eY at hd⊢;generalize bN (iA x)=L at hd⊢
  exact qA (g12 x) (yZ x) (fun st : S12 => st.2.2.1) (fun st l => (st.1, st.2.1, l, st.2.2.2)) 400 (fun st s hs=>by
   unfold g12;unfold eH at hs⊢;by_cases hc:(yZ x s&& !acc st.2.2.1 s)=true
   ·rw[if_pos hc]at hs⊢;rw[if_pos hc,if_neg (by simp at hs;omega)]
   ·rw[if_neg hc,if_neg hc]) (fun _ _=>rfl) (fun _ _ _=>rfl) (fun _=>rfl) L (x,0,[],iA x) hd
 unfold f12;rw[f42_ok0 x h hl,aD,if_neg (by simp),f43_eq x (by omega),aD,show List.foldl (fun w a=>w|||a) 0#16 x=iA x from rfl];unfold f28;rw[aD];rw[r]at e;dsimp only at e;rw[e,aD];dsimp only;rw[aC (by simp),if_pos rfl]
/-! ### Equal, Contains, Coterie -/
theorem uF (x y:List (BitVec 16)) (K:Unit→Option Bool) (hx:x.length≤65536) (hxy:x.length=y.length):∀c k n,n+c=x.length→c<k→lQ x y K k n=if x.drop n=y.drop n then K ()else some false
 |0,k,n,hn,hk=>by
  obtain⟨k,rfl⟩:∃q,k=q+1:=⟨k-1,by omega⟩
  rw[lQ.eq_2,cH (by omega),List.drop_eq_nil_of_le (by omega),List.drop_eq_nil_of_le (by omega),if_pos rfl]
 |c+1,k,n,hn,hk=>by
  obtain⟨k,rfl⟩:∃q,k=q+1:=⟨k-1,by omega⟩
  rw[lQ.eq_2,cG (by omega),aC (by omega),aC (by omega),getD_drop x n 0#16 (by omega),getD_drop y n 0#16 (by omega)]
  by_cases h:x.getD n 0#16=y.getD n 0#16
  ·rw[if_neg (by rw[h];simp),aC (by omega),uF x y K hx hxy c k (n+1) (by omega) (by omega),h]
   simp only[List.cons.injEq,true_and]
  ·rw[if_pos (by simpa using h),if_neg (by simp only[List.cons.injEq];exact fun e=>h e.1)]
theorem f14_eq (x y:List (BitVec 16)) (hx:x.length≤65536):f14 x y=some (decide (x=y)):=by
 unfold f14;by_cases h:x.length=y.length
 ·rw[if_neg (by simp[h]),cD,uF x y _ hx h x.length bG 0 (by omega) (fuel_lt (by omega)),List.drop_zero,List.drop_zero];by_cases e:x=y<;>simp[e]
 ·rw[if_pos (by simp;omega),decide_eq_false (fun e=>h (by rw[e]))]
end Go.Abs
namespace Go.Abs
abbrev Nod :=Int×Int×Int×List Int×List Int
def wtP (ws:List Int) (k:Nat):Int:=if ws.length=0 then 1 else ws.getD k 0
def rH (b:List Bool) (ws:List Int):List Int→Nat→Int→Int
 |[],_,acc=>acc
 |kid::t,k,acc=>rH b ws t (k+1) (if b.getD kid.toNat false=true then acc+wtP ws k else acc)
def mI (b:List Bool) (n:Nod) (s:BitVec 16):Bool:=if n.1=1 then(((s>>>n.2.1.toNat)&&&(BitVec.ofInt 16 1))==(BitVec.ofInt 16 1))else decide (n.2.2.1≤rH b n.2.2.2.1 n.2.2.2.2 0 0)
def valsP (l:List Nod) (s:BitVec 16):List Bool:=l.foldl (fun b n=>b++[mI b n s]) []
def bQ (l:List Nod) (root:Int) (s:BitVec 16):Bool:=(valsP l s).getD root.toNat false
def okN (n:Nod) (i:Nat):Bool:=decide (0≤n.2.1)&&decide (n.2.1<12)&&n.2.2.2.1.all (fun w=>decide (0≤w∧w≤1000))&&(decide (n.2.2.2.1.length=0)||decide (n.2.2.2.1.length=n.2.2.2.2.length))&&n.2.2.2.2.all (fun k=>decide (0≤k∧k<i))&&decide (n.2.2.2.2.length≤1000000)
def okL :List Nod→Nat→Bool
 |[],_=>true
 |n::l,i=>okN n i&&okL l (i+1)
theorem vD :∀(l:List Nod) (i j:Nat),okL l i=true→j<l.length→okN (l.getD j default) (i+j)=true
 |[],_,_,_,h=>by simp at h
 |n::l,i,0,h,_=>by simp only[okL,Bool.and_eq_true]at h;simpa using h.1
 |n::l,i,j+1,h,hj=>by
  simp only[okL,Bool.and_eq_true]at h
  have:=vD l (i+1) j h.2 (by simpa using hj)
  rw[List.getD_cons_succ]
  rw[show i+(j+1)=i+1+j by omega];exact this
theorem mT (s:BitVec 16):∀(l:List Nod) (b:List Bool),(l.foldl (fun b n=>b++[mI b n s]) b).length=b.length+l.length
 |[],_=>rfl
 |n::l,b=>by rw[List.foldl_cons,mT s l];simp;omega
theorem oZ (b c:List Bool) (ws:List Int):∀(ks:List Int) (k:Nat) (acc:Int),(∀x,x∈ks→b.getD x.toNat false=c.getD x.toNat false)→rH b ws ks k acc=rH c ws ks k acc
 |[],_,_,_=>rfl
 |x::ks,k,acc,h=>by
  rw[rH,rH,h x (List.mem_cons_self ..),oZ b c ws ks _ _ fun y hy=>h y (List.mem_cons_of_mem _ hy)]
theorem wtP_b {ws:List Int} (h:∀w,w∈ws→0≤w∧w≤1000) (k:Nat) (hk:ws.length=0∨k<ws.length):0≤wtP ws k∧wtP ws k≤1000:=by
 unfold wtP;by_cases h0:ws.length=0
 ·rw[if_pos h0];omega
 ·rw[if_neg h0];have hk:=hk.resolve_left h0;refine h _ ?_;rw[List.getD_eq_getElem?_getD,List.getElem?_eq_getElem hk];exact List.getElem_mem hk
theorem f36_eq (a b c:Int) (ws ks:List Int) (k:Nat) (hk:ws.length=0∨k<ws.length):f36 a b c ws ks (k:Int)=some (wtP ws k):=by
 unfold f36 wtP;by_cases h0:ws.length=0
 ·rw[if_pos (by rw[beq_iff_eq];omega),if_pos h0]
 ·have hk:=hk.resolve_left h0;rw[if_neg (by rw[beq_iff_eq];omega),if_neg h0,aC (by omega),Int.toNat_natCast]
theorem getD_take_lt {α:Type} (x:List α) (n m:Nat) (d:α) (h:m<n):(x.take n).getD m d=x.getD m d:=by
 simp[List.getD_eq_getElem?_getD,List.getElem?_take,h]
theorem oF (x:List Nod) (m n4:Nat) (l5:List Bool) (K:Int→Option Bool) (n:Nod) (hn:(x.take m).getD n4 default=n) (h60:l5.length=60) (ho:okN n n4=true) (h4:n4<60) (x2:Int) (hx2:(x2+1).toNat=m):
  ∀(c k n8:Nat) (acc:Int),n8+c=n.2.2.2.2.length→c<k→0≤acc→acc≤1000 *n8→lK x x2 n4 l5 K k (acc,n8)=K (rH l5 n.2.2.2.1 (n.2.2.2.2.drop n8) n8 acc)
 |0,k,n8,acc,hc,hk,_,_=>by
  obtain⟨k,rfl⟩:∃q,k=q+1:=⟨k-1,by omega⟩
  rw[lK.eq_2,hx2,hn,cH (by omega),List.drop_eq_nil_of_le (by omega)];rfl
 |c+1,k,n8,acc,hc,hk,h0,h1=>by
  obtain⟨k,rfl⟩:∃q,k=q+1:=⟨k-1,by omega⟩
  have ho':=ho
  unfold okN at ho'
  simp only[Bool.and_eq_true,Bool.or_eq_true,decide_eq_true_eq,List.all_eq_true]at ho'
  obtain⟨⟨⟨⟨⟨h2,h3⟩,hw⟩,hwl⟩,hkk⟩,hmil⟩:=ho'
  have hlt:n8<n.2.2.2.2.length:=by omega
  have hkid:=hkk (n.2.2.2.2.getD n8 0) (by rw[List.getD_eq_getElem?_getD,List.getElem?_eq_getElem hlt];exact List.getElem_mem hlt)
  have hwk:n.2.2.2.1.length=0∨n8<n.2.2.2.1.length:=by omega
  have hb:=wtP_b hw n8 hwk
  rw[lK.eq_2,hx2,hn,cG (by omega),cD,aC (by omega),aC (by omega),aC (by omega),getD_drop n.2.2.2.2 n8 0 hlt,rH]
  by_cases hv:l5.getD (n.2.2.2.2.getD n8 0).toNat false=true
  ·rw[if_pos hv,if_pos hv,f36_eq _ _ _ _ _ _ hwk,aD,aC (by omega)]
   dsimp only
   rw[aC (by omega),oF x m n4 l5 K n hn h60 ho h4 x2 hx2 c k (n8+1) _ (by omega) (by omega) (by omega) (by omega)]
  ·rw[if_neg hv,if_neg hv]
   dsimp only
   rw[aC (by omega),oF x m n4 l5 K n hn h60 ho h4 x2 hx2 c k (n8+1) _ (by omega) (by omega) (by omega) (by omega)]
theorem set_app {α:Type} (b:List α) (z v:α) (m:Nat) (h:b.length<m):(b++List.replicate (m-b.length) z).set b.length v=(b++[v])++List.replicate (m-(b++[v]).length) z:=by
 obtain⟨q,hq⟩:∃q,m-b.length=q+1:=⟨m-b.length-1,by omega⟩;have e:m-(b++[v]).length=q:=by simp;omega
 rw[hq,e,List.replicate_succ,List.set_append_right _ _ (Nat.le_refl _),Nat.sub_self,List.set_cons_zero,List.append_assoc];rfl
theorem xD (b:List Bool) (m j:Nat):(b++List.replicate m false).getD j false=b.getD j false:=by
 by_cases h:j<b.length
 ·simp[List.getD_eq_getElem?_getD,List.getElem?_append_left h]
 ·have h':=Nat.le_of_not_lt h;simp only[List.getD_eq_getElem?_getD,List.getElem?_append_right h',List.getElem?_eq_none h',List.getElem?_replicate];split<;>rfl
theorem oG (x:List Nod) (x2:Int) (s:BitVec 16) (K:List Bool→Option Bool) (m:Nat) (hm:(x2+1).toNat=m) (hml:m≤x.length) (hm60:m≤60) (ho:okL x 0=true):
  ∀c k n4 b,n4+c=m→c<k→b.length=n4→lL x x2 s K k (n4,b++List.replicate (60-n4) false)=K ((((x.take m).drop n4).foldl (fun b n=>b++[mI b n s]) b)++List.replicate (60-m) false)
 |0,k,n4,b,hc,hk,hb=>by
  obtain⟨k,rfl⟩:∃q,k=q+1:=⟨k-1,by omega⟩
  rw[lL.eq_2,hm,cH (by omega),List.drop_eq_nil_of_le (by simp;omega)]
  rw[show n4=m by omega];rfl
 |c+1,k,n4,b,hc,hk,hb=>by
  obtain⟨k,rfl⟩:∃q,k=q+1:=⟨k-1,by omega⟩
  have hl:(x.take m).length=m:=by simp;omega
  have hn0:=vD x 0 n4 ho (by omega)
  rw[Nat.zero_add]at hn0
  generalize hn:(x.take m).getD n4 default=n
  have hne:x.getD n4 default=n:=by rw[←hn,getD_take_lt _ _ _ _ (by omega)]
  rw[hne]at hn0
  have ho':=hn0
  unfold okN at ho'
  simp only[Bool.and_eq_true,Bool.or_eq_true,decide_eq_true_eq,List.all_eq_true]at ho'
  obtain⟨⟨⟨⟨⟨h2,h3⟩,hw⟩,hwl⟩,hkk⟩,hmil⟩:=ho'
  have hlen:(b++List.replicate (60-n4) false).length=60:=by simp;omega
  rw[lL.eq_2,hm,cG (by omega),cD,aC (by omega),hn,getD_drop (x.take m) n4 default (by omega),hn,List.foldl_cons]
  have hset:∀v,(b++List.replicate (60-n4) false).set n4 v=(b++[v])++List.replicate (60-(n4+1)) false:=fun v=>by
   have:=set_app b false v 60 (by omega)
   rw[hb]at this
   rw[this];congr 2;simp[hb]
  by_cases h1:n.1=1
  ·rw[if_pos (by simpa using h1),aC (by omega),aC (by omega),aC (by omega)]
   dsimp only
   rw[aC (by omega),hset,oG x x2 s K m hm hml hm60 ho c k (n4+1) _ (by omega) (by omega) (by simp[hb])]
   unfold mI
   rw[if_pos h1]
  ·rw[if_neg (by simpa using h1),cD,oF x m n4 _ _ n hn hlen hn0 (by omega) x2 hm n.2.2.2.2.length bG 0 0 (by omega) (fuel_lt (by omega)) (by omega) (by omega),aC (by omega),aC (by omega)]
   dsimp only
   rw[aC (by omega),hset,oG x x2 s K m hm hml hm60 ho c k (n4+1) _ (by omega) (by omega) (by simp[hb])]
   unfold mI
   rw[if_neg h1,List.drop_zero,oZ _ b _ _ _ _ fun y _=>xD b _ _]
theorem rM (s:BitVec 16):∀(l:List Nod) (b:List Bool) (j:Nat),j<b.length→(l.foldl (fun b n=>b++[mI b n s]) b).getD j false=b.getD j false
 |[],_,_,_=>rfl
 |n::l,b,j,h=>by
  rw[List.foldl_cons,rM s l _ j (by simp;omega)]
  simp[List.getD_eq_getElem?_getD,List.getElem?_append_left h]
theorem f30_eq (x:List Nod) (x2:Int) (s:BitVec 16) (ho:okL x 0=true) (h0:0≤x2) (h1:x2<x.length) (h60:x.length≤60):f30 x x2 s=some (bQ x x2 s):=by
 unfold f30;have e:List.replicate 60 (false:Bool)=[]++List.replicate (60-0) false:=rfl;rw[cD,aC (by omega),aC (by omega),e,oG x x2 s _ (x2+1).toNat rfl (by omega) (by omega) ho (x2+1).toNat bG 0 [] (by omega) (fuel_lt (by omega)) rfl,List.drop_zero];have hl:((x.take (x2+1).toNat).foldl (fun b n=>b++[mI b n s]) []).length=(x2+1).toNat:=by rw[mT];simp;omega
 rw[aC (by omega),aC (by simp;omega),xD];unfold bQ valsP;have e2:x=x.take (x2+1).toNat++x.drop (x2+1).toNat:=(List.take_append_drop ..).symm
 conv=>rhs;rw[e2,List.foldl_append,rM s _ _ _ (by rw[hl];omega)]
/-! ### Family -/
abbrev S8 :=List Nod×Int×Int×List (BitVec 16)×BitVec 16
def g8 (p:BitVec 16→Bool) (st:S8) (s:BitVec 16):Nat×S8:=
 if(p s&& !acc st.2.2.2.1 s)=true then(if st.2.2.2.1.length=400 then(2,(st.1,st.2.1,3,st.2.2.2.1,st.2.2.2.2))else(0,(st.1,st.2.1,st.2.2.1,st.2.2.2.1++[s],st.2.2.2.2)))else(0,st)
def I8 (x:List Nod) (x2:Int) (U:BitVec 16) (st:S8):Prop:=st.1=x∧st.2.1=x2∧st.2.2.2.1.length≤400∧st.2.2.2.2=U
def okE (x:List Nod) (x2:Int):Prop:=okL x 0=true∧0≤x2∧x2<x.length∧x.length≤60
theorem y8_eq (x:List Nod) (x2:Int) (U:BitVec 16) (ho:okE x x2) (st:S8) (s:BitVec 16) (hi:I8 x x2 U st):gK st s=some (g8 (bQ x x2) st s):=by
 obtain⟨l8,i9,i7,l10,w6⟩:=st;obtain⟨h1,h2,h3,h4⟩:=hi;dsimp only at h1 h2 h3 h4;subst h1;subst h2;show(f30 l8 i9 s).bind _=_;unfold g8;dsimp only;rw[f30_eq l8 i9 s ho.1 ho.2.1 ho.2.2.1 ho.2.2.2,aD]
 cases hh:bQ l8 i9 s with
 |false=>simp[rI]
 |true=>
  rw[show((!true)==false)=true from rfl,iG,vT l10 s (by omega),aD]
  cases ha:acc l10 s with
  |true=>simp
  |false=>
   simp only[Bool.not_true,Bool.or_self,Bool.false_eq_true,if_false,Bool.not_false,Bool.and_self,if_true];by_cases hl:l10.length=400
   ·rw[if_pos (by simp;omega),if_pos hl]
   ·rw[if_neg (by simp;omega),if_neg hl,aC (by omega)]
theorem i8_keep (x:List Nod) (x2:Int) (U:BitVec 16) (p:BitVec 16→Bool) (st:S8) (s:BitVec 16) (hi:I8 x x2 U st) (hz:(g8 p st s).1=0):I8 x x2 U (g8 p st s).2:=by
 obtain⟨h1,h2,h3,h4⟩:=hi;unfold g8 at hz⊢;by_cases hc:(p s&& !acc st.2.2.2.1 s)=true
 ·rw[if_pos hc]at hz⊢;by_cases hl:st.2.2.2.1.length=400
  ·rw[if_pos hl]at hz;cases hz
  ·rw[if_neg hl];exact⟨h1,h2,by simp;omega,h4⟩
 ·rw[if_neg hc];exact⟨h1,h2,h3,h4⟩
def cX (x:List Nod):BitVec 16:=x.foldl (fun(w:BitVec 16) (n:Nod)=>if n.1=1 then w|||((BitVec.ofInt 16 1)<<<n.2.1.toNat)else w) 0#16
theorem f29_eq (x:List Nod) (x2:Int) (ho:okL x 0=true) (hx:x.length≤60):f29 x x2=some (cX x):=by
 unfold f29;rw[cD]
 have:∀c k n w,n+c=x.length→c<k→lM x (fun w6=>some w6) k (w,n)=some ((x.drop n).foldl (fun(w:BitVec 16) (n:Nod)=>if n.1=1 then w|||((BitVec.ofInt 16 1)<<<n.2.1.toNat)else w) w):=by
  intro c
  induction c with
  |zero=>
   intro k n w hn hk;obtain⟨k,rfl⟩:∃q,k=q+1:=⟨k-1,by omega⟩
   rw[lM.eq_2,cH (by omega),List.drop_eq_nil_of_le (by omega)];rfl
  |succ c ih=>
   intro k n w hn hk;obtain⟨k,rfl⟩:∃q,k=q+1:=⟨k-1,by omega⟩;have hn0:=vD x 0 n ho (by omega);unfold okN at hn0;simp only[Bool.and_eq_true,decide_eq_true_eq]at hn0;have h2:=hn0.1.1.1.1.1;rw[lM.eq_2,cG (by omega),cD,aC (by omega),getD_drop x n default (by omega),List.foldl_cons];by_cases h1:(x.getD n default).1=1
   ·rw[if_pos (by simpa using h1),if_pos h1,aC h2];dsimp only;rw[aC (by omega),ih k (n+1) _ (by omega) (by omega)]
   ·rw[if_neg (by simpa using h1),if_neg h1];dsimp only;rw[aC (by omega),ih k (n+1) _ (by omega) (by omega)]
 have:=this x.length bG 0 (BitVec.ofInt 16 0) (by omega) (fuel_lt (by omega));rw[this,List.drop_zero];rfl
theorem f8_eq (x:List Nod) (x2:Int) (hv:f27 x x2=some 0) (ho:okE x x2) (hU:(cX x).toNat<4096) (hd:(eY (bQ x x2) (bN (cX x))).length≤400):f8 x x2=some (eY (bQ x x2) (bN (cX x)),0):=by
 have hi:I8 x x2 (cX x) (x,x2,0,[],cX x):=⟨rfl,rfl,by simp,rfl⟩;have e:=f71_eq gK (g8 (bQ x x2)) (I8 x x2 (cX x)) (fun st s hi=>y8_eq x x2 _ ho st s hi) (fun st s hi hz=>i8_keep x x2 _ _ st s hi hz) (cX x) hU (fun st hi=>hi.2.2.2) (x,x2,0,[],cX x) hi
 have r:dP (g8 (bQ x x2)) (bN (cX x)) (x,x2,0,[],cX x)=(0,(x,x2,0,eY (bQ x x2) (bN (cX x)),cX x)):=by
  unfold eY at hd⊢;generalize bN (cX x)=L at hd⊢;generalize bQ x x2=p at hd⊢
  exact qA (g8 p) p (fun st : S8 => st.2.2.2.1) (fun st l => (st.1, st.2.1, st.2.2.1, l, st.2.2.2.2)) 400 (fun st s hs=>by
   unfold g8;unfold eH at hs⊢;by_cases hc:(p s&& !acc st.2.2.2.1 s)=true
   ·rw[if_pos hc]at hs⊢;rw[if_pos hc,if_neg (by simp at hs;omega)]
   ·rw[if_neg hc,if_neg hc]) (fun _ _=>rfl) (fun _ _ _=>rfl) (fun _=>rfl) L (x,x2,0,[],cX x) hd
 unfold f8;rw[hv,aD,if_neg (by simp),f29_eq x x2 ho.1 ho.2.2.2,aD];unfold f28;rw[aD];rw[r]at e;dsimp only at e;rw[e,aD];dsimp only;rw[aC (by simp),if_pos rfl]
end Go.Abs
namespace Go.Abs
theorem pN (p:BitVec 16→Bool) (U:BitVec 16):(eY p (bN U)).Pairwise fun x y=>key x<key y:=by
 rw[kL p _ (dD U)];exact jC _
theorem nZ {p q:BitVec 16→Bool} {U:BitVec 16} (h:∀s,sub s U=true→p s=q s):eY p (bN U)=eY q (bN U):=by
 rw[kL p _ (dD U),kL q _ (dD U)];generalize hL:bN U=L;rw[List.filter_congr fun s hs=>h s (fF.1 (by rw[hL];exact hs))]
theorem rP (a b:BitVec 16):sub (a&&&b) a=true:=cO.2 fun i hi h=>by rw[BitVec.getLsbD_and,Bool.and_eq_true]at h;exact h.1
theorem nA (a b:BitVec 16):sub (a&&&b) b=true:=cO.2 fun i hi h=>by rw[BitVec.getLsbD_and,Bool.and_eq_true]at h;exact h.2
theorem zV {a b:BitVec 16} (h:sub a b=true):a&&&b=a:=by
 apply BitVec.eq_of_getLsbD_eq;intro i hi;rw[BitVec.getLsbD_and]
 cases e:a.getLsbD i with
 |false=>rfl
 |true=>rw[cO.1 h i hi e];rfl
theorem xG (p:BitVec 16→Bool) {U V:BitVec 16} (hV:sub V U=true) (hp:∀s,p s=p (s&&&V)):eY p (bN U)=eY p (bN V):=by
 refine iQ (fun _ _=>qK) _ _ (fun a=> ?_) (pN _ _) (pN _ _);rw[qJ,qJ];constructor
 ·rintro⟨⟨h1,h2⟩,h3⟩
  have e:a&&&V=a:=Classical.byContradiction fun hne=>by
   have:=h3 (a&&&V) (dE (nA a V) hV) (by rw[←hp];exact h2) hne;rw[rP]at this;cases this
  refine⟨⟨by rw[←e];exact nA a V,h2⟩,fun b hb hh hne=>h3 b (dE hb hV) hh hne⟩
 ·rintro⟨⟨h1,h2⟩,h3⟩;refine⟨⟨dE h1 hV,h2⟩,fun b hb hh hne=> ?_⟩
  cases e:sub b a with
  |false=>rfl
  |true=>rw[←e];exact h3 b (dE e h1) hh hne
theorem fam_below (p:BitVec 16→Bool) (U s:BitVec 16) (hs:sub s U=true) (hp:p s=true):∃y,y∈eY p (bN U)∧sub y s=true:=by
 rw[kL p _ (dD U)];exact vG _ _ s (Nat.le_refl _) (List.mem_filter.2 ⟨fF.2 hs,hp⟩)
theorem supp_in (x:List (BitVec 16)) (U:BitVec 16):∀(w:BitVec 16),sub w U=true→(∀a,a∈x→sub a U=true)→sub (x.foldl (fun w a=>w|||a) w) U=true:=by
 induction x with
 |nil=>intro w h _;exact h
 |cons a x ih=>
  intro w h h2;refine ih _ ?_ fun b hb=>h2 b (List.mem_cons_of_mem _ hb);rw[sub_or,h,h2 a (List.mem_cons_self ..)];rfl
theorem in_supp (x:List (BitVec 16)):∀(w:BitVec 16),sub w (x.foldl (fun w a=>w|||a) w)=true∧∀a,a∈x→sub a (x.foldl (fun w a=>w|||a) w)=true:=by
 induction x with
 |nil=>intro w;exact⟨pX _,by simp⟩
 |cons a x ih=>
  intro w;have hl:sub w (w|||a)=true:=cO.2 fun i hi h=>by rw[BitVec.getLsbD_or,h];rfl
  have hr:sub a (w|||a)=true:=cO.2 fun i hi h=>by rw[BitVec.getLsbD_or,h];simp
  obtain⟨h1,h2⟩:=ih (w|||a);refine⟨dE hl h1,fun b hb=> ?_⟩;rcases List.mem_cons.1 hb with rfl|hb
  ·exact dE hr h1
  ·exact h2 b hb
theorem hits_all {x:List (BitVec 16)} {s:BitVec 16}:yZ x s=true↔∀y,y∈x→(y&&&s)≠0#16:=by
 unfold yZ;rw[List.all_eq_true];constructor
 ·intro h y hy e;have:=h y hy;rw[e]at this;simp at this
 ·intro h y hy;simpa using h y hy
theorem lT (y t:BitVec 16):(y&&&t)=0#16↔sub y (~~~t)=true:=by
 rw[cO];constructor
 ·intro h i hi hy;have:=congrArg (fun w:BitVec 16=>w.getLsbD i) h;simp only[BitVec.getLsbD_and,hy,Bool.true_and,BitVec.getLsbD_zero]at this;rw[BitVec.getLsbD_not,this,decide_eq_true hi];rfl
 ·intro h;apply BitVec.eq_of_getLsbD_eq;intro i hi;rw[BitVec.getLsbD_and,BitVec.getLsbD_zero]
  cases e:y.getLsbD i with
  |false=>rfl
  |true=>
   have:=h i hi e;simp only[BitVec.getLsbD_not,hi,decide_true,Bool.true_and,Bool.not_eq_true']at this;rw[this];rfl
theorem dual_fam (p:BitVec 16→Bool) (V:BitVec 16) (hm:∀s t,sub s t=true→p s=true→p t=true) (hp:∀s,p s=p (s&&&V)):vW (eY p (bN V))=eY (fun t=> !p (~~~t)) (bN V):=by
 have hin:∀y,y∈eY p (bN V)→sub y V=true:=fun y hy=>((qJ p V y).1 hy).1.1;have hS:sub (iA (eY p (bN V))) V=true:=supp_in _ V 0#16 (cO.2 fun i hi h=>by simp at h) hin;have hi:=(in_supp (eY p (bN V)) 0#16).2
 have hh:∀t,yZ (eY p (bN V)) t= !p (~~~t):=fun t=>by
  rw[Bool.eq_iff_iff,hits_all,Bool.not_eq_true'];constructor
  ·intro h;rw[Bool.eq_false_iff];intro e;obtain⟨y,hy,hs⟩:=fam_below p V ((~~~t)&&&V) (nA _ _) (by rw[←hp];exact e);exact h y hy ((lT y t).2 (dE hs (rP _ _)))
  ·intro h y hy e;have:=hm y (~~~t) ((lT y t).1 e) ((qJ p V y).1 hy).1.2;rw[h]at this;cases this
 unfold vW;rw[←xG (yZ (eY p (bN V))) hS ?_]
 ·exact nZ fun s _=>hh s
 ·intro s;unfold yZ;rw[Bool.eq_iff_iff,List.all_eq_true,List.all_eq_true]
  have e:∀y,y∈eY p (bN V)→(y&&&(s&&&iA (eY p (bN V))))=y&&&s:=fun y hy=>by
   have h2:y&&&iA (eY p (bN V))=y:=zV (hi y hy);rw[BitVec.and_comm s,←BitVec.and_assoc,h2]
  constructor
  ·intro h y hy;rw[e y hy];exact h y hy
  ·intro h y hy;rw[←e y hy];exact h y hy
end Go.Abs
namespace Go.Abs
section
variable {α β:Type} [DecidableEq α]
theorem sR (x:α):∀(l:List (α×β)) (i:Nat),jE x (l.map (·.1)) i=none→∀p,p∈l→x≠p.1
 |[],_,_,p,hp=>by cases hp
 |q::l,i,h,p,hp=>by
  simp only[List.map_cons,jE]at h
  by_cases e:x=q.1
  ·rw[if_pos e]at h;cases h
  ·rw[if_neg e]at h
   rcases List.mem_cons.1 hp with rfl|hp
   ·exact e
   ·exact sR x l (i+1) h p hp
theorem sQ (x:α):∀(l:List (α×β)) (i j:Nat),jE x (l.map (·.1)) i=some j→∃A p B,l=A++p::B∧j=i+A.length∧x=p.1∧∀q,q∈A→x≠q.1
 |[],_,_,h=>by cases h
 |q::l,i,j,h=>by
  simp only[List.map_cons,jE]at h
  by_cases e:x=q.1
  ·rw[if_pos e]at h;cases h
   exact⟨[],q,l,rfl,rfl,e,by simp⟩
  ·rw[if_neg e]at h
   obtain⟨A,p,B,h1,h2,h3,h4⟩:=sQ x l (i+1) j h
   refine⟨q::A,p,B,by rw[h1];rfl,by simp;omega,h3,fun r hr=> ?_⟩
   rcases List.mem_cons.1 hr with rfl|hr
   ·exact e
   ·exact h4 r hr
theorem nY (x:α):∀(A:List (α×β)) (B:List (α×β)),(∀q,q∈A→x≠q.1)→(A++B).find? (fun p=>decide (x=p.1))=B.find? (fun p=>decide (x=p.1))
 |[],_,_=>rfl
 |a::A,B,h=>by
  rw[List.cons_append,List.find?_cons]
  have:decide (x=a.1)=false:=decide_eq_false (h a (List.mem_cons_self ..))
  rw[this]
  exact nY x A B fun q hq=>h q (List.mem_cons_of_mem _ hq)
theorem xF (l:List (α×β)) (x k:α) (y:β):(mV l x y).find? (fun p=>decide (k=p.1))=if k=x then some (x,y)else l.find? (fun p=>decide (k=p.1)):=by
 unfold mV
 cases hi:jE x (l.map (·.1)) 0 with
 |none=>
  have h:=sR x l 0 hi;simp only[];by_cases e:k=x
  ·subst e;rw[if_pos rfl,nY _ _ _ h,List.find?_cons];simp
  ·rw[if_neg e,List.find?_append]
   cases l.find? (fun p=>decide (k=p.1))with
   |some _=>rfl
   |none=>simp[e]
 |some j=>
  obtain⟨A,p,B,rfl,h2,h3,h4⟩:=sQ x l 0 j hi;have ej:j=A.length:=by omega
  subst ej;simp only[]
  have es:(A++p::B).set A.length (x,y)=A++(x,y)::B:=by
   rw[List.set_append_right _ _ (Nat.le_refl _)];simp
  rw[es];by_cases e:k=x
  ·subst e;rw[if_pos rfl,nY _ _ _ h4,List.find?_cons];simp
  ·rw[if_neg e,List.find?_append,List.find?_append,List.find?_cons,List.find?_cons];have h5:decide (k=x)=false:=decide_eq_false e;have h6:decide (k=p.1)=false:=decide_eq_false (fun h=>e (by rw[h,h3]));simp only[h5,h6]
theorem gM_upd (l:List (α×β)) (x k:α) (y z:β):gM (mV l x y) z k=if k=x then y else gM l z k:=by
 unfold gM;rw[xF];by_cases e:k=x
 ·rw[if_pos e,if_pos e]
 ·rw[if_neg e,if_neg e]
theorem hM_find (l:List (α×β)) (k:α):hM l k=(l.find? (fun p=>decide (k=p.1))).isSome:=by
 unfold hM
 induction l with
 |nil=>rfl
 |cons a l ih=>
  rw[List.any_cons,List.find?_cons]
  cases decide (k=a.1)with
  |true=>rfl
  |false=>simpa using ih
theorem hM_upd (l:List (α×β)) (x k:α) (y:β):hM (mV l x y) k=(decide (k=x)||hM l k):=by
 rw[hM_find,hM_find,xF];by_cases e:k=x
 ·rw[if_pos e];simp[e]
 ·rw[if_neg e];simp[e]
end
end Go.Abs
namespace Go.Abs
abbrev Fk :=Int×Int×Int
def srv (n:Int) (l:List Fk) (v:Int):Int:=if v<2 then n else(l.getD (v.toNat-2) default).1
def okF (n:Int) (l:List Fk) (j:Nat) (f:Fk):Prop:=(0≤f.1∧f.1<n)∧(0≤f.2.1∧f.2.1<j+2)∧(0≤f.2.2∧f.2.2<j+2)∧f.2.1≠f.2.2∧f.1<srv n l f.2.1∧f.1<srv n l f.2.2
def OrdF (n:Int) (l:List Fk):Prop:=l.Nodup∧∀j f,l[j]? =some f→okF n l j f
def AtM (l:List Fk) (m:List (Fk×Int)):Prop:=∀f,(hM m f=true→2≤gM m 0 f∧l[(gM m 0 f).toNat-2]? =some f)∧(hM m f=false→f∉l)
theorem vK {α:Type} {l:List α} {j:Nat} {f:α} (h:l[j]? =some f) (e:List α):(l++e)[j]? =some f:=by
 have hj:j<l.length:=by
  apply Classical.byContradiction;intro hn;rw[List.getElem?_eq_none (by omega)]at h;cases h
 rw[List.getElem?_append_left hj];exact h
theorem sT {α:Type} {l:List α} {j:Nat} {f:α} (h:l[j]? =some f):j<l.length:=by
 apply Classical.byContradiction;intro hn;rw[List.getElem?_eq_none (by omega)]at h;cases h
theorem kD (n:Int) (l e:List Fk) (v:Int) (h:v<l.length+2):srv n (l++e) v=srv n l v:=by
 unfold srv;by_cases h2:v<2
 ·rw[if_pos h2,if_pos h2]
 ·rw[if_neg h2,if_neg h2];congr 1;have:v.toNat-2<l.length:=by omega
  simp[List.getD_eq_getElem?_getD,List.getElem?_append_left this]
theorem uY (n:Int) {l:List Fk} {v:Int} {f:Fk} (h2:2≤v) (h:l[v.toNat-2]? =some f):srv n l v=f.1:=by
 unfold srv;rw[if_neg (by omega)];simp[List.getD_eq_getElem?_getD,h]
inductive Vis (l:List Fk):Int→Nat→Nat→Prop
 |old {v:Int} {k:Nat}:v<k→Vis l v k k
 |new {v:Int} {k k1 k2:Nat} {f:Fk}:(k:Int)≤v→l[v.toNat-2]? =some f→Vis l f.2.1 k k1→Vis l f.2.2 k1 k2→v=(k2:Int)→Vis l v k (k2+1)
theorem Vis.app {l:List Fk} {v:Int} {k k':Nat} (h:Vis l v k k') (e:List Fk):Vis (l++e) v k k':=by
 induction h with
 |old h=>exact .old h
 |new h1 h2 _ _ h5 ih1 ih2=>exact .new h1 (vK h2 e) ih1 ih2 h5
theorem Vis.inv {l:List Fk} {v:Int} {k k':Nat} (h:Vis l v k k') (hv:v<k):k'=k:=by
 cases h with
 |old _=>rfl
 |new h1 _ _ _ _=>omega
def bitS (s:BitVec 16) (i:Int):Bool:=(((s>>>i.toNat)&&&(BitVec.ofInt 16 1))==(BitVec.ofInt 16 1))
theorem hP (s:BitVec 16) (n:Nat):(((s>>>n)&&&(BitVec.ofInt 16 1))==(BitVec.ofInt 16 1))=s.getLsbD n:=by
 have e:((s>>>n)&&&(BitVec.ofInt 16 1)).toNat=s.toNat/2^n%2:=by
  rw[BitVec.toNat_and,BitVec.toNat_ushiftRight,Nat.shiftRight_eq_div_pow];exact Nat.and_one_is_mod _
 show _=s.toNat.testBit n;rw[Nat.testBit_eq_decide_div_mod_eq,Bool.eq_iff_iff,beq_iff_eq,decide_eq_true_iff];constructor
 ·intro h;rw[←e,h];rfl
 ·intro h;exact BitVec.eq_of_toNat_eq (by rw[e,h];rfl)
theorem rF (s:BitVec 16) (i:Int):bitS s i=s.getLsbD i.toNat:=hP s i.toNat
inductive Ev (l:List Fk) (s:BitVec 16):Int→Bool→Prop
 |leaf {v:Int}:v<2→Ev l s v (v==1)
 |node {v:Int} {f:Fk} {b:Bool}:2≤v→l[v.toNat-2]? =some f→Ev l s (if bitS s f.1=true then f.2.2 else f.2.1) b→Ev l s v b
theorem Ev.app {l:List Fk} {s:BitVec 16} {v:Int} {b:Bool} (h:Ev l s v b) (e:List Fk):Ev (l++e) s v b:=by
 induction h with
 |leaf h=>exact .leaf h
 |node h1 h2 _ ih=>exact .node h1 (vK h2 e) ih
theorem Ev.fn {l:List Fk} {s:BitVec 16} {v:Int} {b:Bool} (h:Ev l s v b):∀{c:Bool},Ev l s v c→b=c:=by
 induction h with
 |leaf h=>intro c hc;cases hc with
  |leaf _=>rfl
  |node h1 _ _=>omega
 |node h1 h2 _ ih=>intro c hc;cases hc with
  |leaf h=>omega
  |node _ h3 h4=>rw[h2]at h3;cases h3;exact ih h4
/-! ### growing -/
def lY (l:List Fk) (m:List (Fk×Int)) (s lo hi:Int):Int×List Fk×List (Fk×Int):=
 if lo=hi then(lo,l,m)else if hM m (s,lo,hi)=true then(gM m 0 (s,lo,hi),l,m)else((l.length:Int)+2,l++[(s,lo,hi)],mV m (s,lo,hi) ((l.length:Int)+2))
def Grown (n i:Int) (l:List Fk) (q:Int×List Fk×List (Fk×Int)):Prop:=
 (∃e,q.2.1=l++e∧∀f,f∈e→i≤f.1)∧OrdF n q.2.1∧AtM q.2.1 q.2.2∧(0≤q.1∧q.1<q.2.1.length+2)∧i≤srv n q.2.1 q.1∧Vis q.2.1 q.1 (l.length+2) (q.2.1.length+2)∧q.2.1.length+1≤l.length+2^(n-i).toNat
theorem Grown.mono {n i j:Int} {l:List Fk} {q:Int×List Fk×List (Fk×Int)} (h:Grown n i l q) (hj:j≤i):Grown n j l q:=by
 obtain⟨⟨e,h1,h2⟩,h3,h4,h5,h6,h7,h8⟩:=h;refine⟨⟨e,h1,fun f hf=>by have:=h2 f hf;omega⟩,h3,h4,h5,by omega,h7, ?_⟩;have:2^(n-i).toNat≤2^(n-j).toNat:=Nat.pow_le_pow_right (by decide) (by omega);omega
theorem fJ {n i:Int} {l:List Fk} {m:List (Fk×Int)} (ho:OrdF n l) (ha:AtM l m) {v:Int} (h0:0≤v) (h2:v<l.length+2) (hs:i≤srv n l v):Grown n i l (v,l,m):=by
 refine⟨⟨[],by simp,by simp⟩,ho,ha,⟨h0,h2⟩,hs,.old (by push_cast;exact h2), ?_⟩;have:0<2^(n-i).toNat:=Nat.pow_pos (by decide);dsimp only;omega
theorem atM_upd {l:List Fk} {m:List (Fk×Int)} (ha:AtM l m) (f:Fk):AtM (l++[f]) (mV m f ((l.length:Int)+2)):=by
 intro g;rw[hM_upd,gM_upd];by_cases e:g=f
 ·subst e;rw[if_pos rfl,decide_eq_true rfl];refine⟨fun _=>⟨by omega, ?_⟩,fun h=>by simp at h⟩;have:((l.length:Int)+2).toNat-2=l.length:=by omega
  rw[this];simp
 ·rw[if_neg e,decide_eq_false e,Bool.false_or];refine⟨fun h=>⟨((ha g).1 h).1,vK ((ha g).1 h).2 _⟩,fun h hg=> ?_⟩;rcases List.mem_append.1 hg with hg|hg
  ·exact(ha g).2 h hg
  ·exact e (by simpa using hg)
theorem pI {n s i:Int} {l:List Fk} {q1 q2:Int×List Fk×List (Fk×Int)} (h1:Grown n i l q1) (h2:Grown n i q1.2.1 q2) (hs:s<i) (h0:0≤s) (hn:s<n):Grown n s l (lY q2.2.1 q2.2.2 s q1.1 q2.1):=by
 obtain⟨r1,l1,m1⟩:=q1;obtain⟨r2,l2,m2⟩:=q2;obtain⟨⟨e1,p1,p2⟩,p3,p4,p5,p6,p7,p8⟩:=h1;obtain⟨⟨e2,t1,t2⟩,t3,t4,t5,t6,t7,t8⟩:=h2;dsimp only at p1 p3 p4 p5 p6 p7 p8 t1 t2 t3 t4 t5 t6 t7 t8⊢;have hl1:l.length≤l1.length:=by rw[p1];simp
 have hl2:l1.length≤l2.length:=by rw[t1];simp
 have p7':Vis l2 r1 (l.length+2) (l1.length+2):=by rw[t1];exact p7.app e2
 have p6':i≤srv n l2 r1:=by rw[t1,kD _ _ _ _ p5.2];exact p6
 have hpow:2^(n-i).toNat+2^(n-i).toNat≤2^(n-s).toNat:=by
  have hh:∀a b:Nat,a+1≤b→2^a+2^a≤2^b:=fun a b h=>by
   have:=Nat.pow_le_pow_right (n:=2) (by decide) h;rw[Nat.pow_succ]at this;omega
  by_cases hni:i≤n
  ·exact hh _ _ (by omega)
  ·have e0:(n-i).toNat=0:=by omega
   rw[e0];exact hh 0 _ (by omega)
 have hpos:0<2^(n-i).toNat:=Nat.pow_pos (by decide)
 have hex : ∃ e, l2 = l ++ e ∧ ∀ f, f ∈ e → i ≤ f.1 := ⟨e1++e2,by rw[t1,p1,List.append_assoc],fun f hf=>by
  rcases List.mem_append.1 hf with hf|hf
  ·exact p2 f hf
  ·exact t2 f hf⟩
 obtain⟨e,he,hei⟩:=hex;unfold lY;by_cases hr:r1=r2
 ·subst hr;rw[if_pos rfl];have:=t7.inv (by have:=p5.2;push_cast;omega);refine⟨⟨e,he,fun f hf=>by have:=hei f hf;omega⟩,t3,t4,⟨p5.1,by dsimp only;omega⟩,by dsimp only;omega, ?_,by dsimp only;omega⟩;dsimp only;rw[this];exact p7'
 ·rw[if_neg hr];by_cases hm:hM m2 (s,r1,r2)=true
  ·rw[if_pos hm];obtain⟨g1,g2⟩:=(t4 (s,r1,r2)).1 hm;generalize gM m2 0 (s,r1,r2)=w at g1 g2
   have hw:w.toNat-2<l.length:=by
    apply Classical.byContradiction;intro hn';rw[he,List.getElem?_append_right (by omega)]at g2;have:=hei _ (List.mem_of_getElem? g2);dsimp only at this;omega
   obtain⟨_,o1,o2,_⟩:=t3.2 _ _ g2;dsimp only at o1 o2;have v1:=p7.inv (by push_cast;omega);have v2:=t7.inv (by push_cast;omega);refine⟨⟨e,he,fun f hf=>by have:=hei f hf;omega⟩,t3,t4,⟨by omega,by dsimp only;omega⟩,by rw[uY n g1 g2];exact Int.le_refl _, ?_,by dsimp only;omega⟩;dsimp only;have:l2.length=l.length:=by omega
   rw[this];exact .old (by push_cast;omega)
  ·rw[if_neg hm];have hm':hM m2 (s,r1,r2)=false:=by simpa using hm
   have hnf:=(t4 (s,r1,r2)).2 hm';have ek:((l2.length:Int)+2).toNat-2=l2.length:=by omega
   have hget:(l2++[(s,r1,r2)])[((l2.length:Int)+2).toNat-2]? =some (s,r1,r2):=by rw[ek];simp
   refine⟨⟨e++[(s,r1,r2)],by dsimp only;rw[he,List.append_assoc],fun f hf=> ?_⟩,⟨?_,fun j f hf=> ?_⟩,atM_upd t4 _,⟨by dsimp only;omega,by simp only[List.length_append,List.length_cons,List.length_nil];push_cast;omega⟩, ?_, ?_, ?_⟩
   ·rcases List.mem_append.1 hf with hf|hf
    ·have:=hei f hf;omega
    ·have:f=(s,r1,r2):=by simpa using hf
     rw[this];exact Int.le_refl _
   ·rw[List.nodup_append];refine⟨t3.1,by simp,fun a ha b hb e=>hnf ?_⟩;have:b=(s,r1,r2):=by simpa using hb
    rw[←this,←e];exact ha
   ·by_cases hj:j<l2.length
    ·rw[List.getElem?_append_left hj]at hf;obtain⟨o1,o2,o3,o4,o5,o6⟩:=t3.2 j f hf;exact⟨o1,o2,o3,o4,by dsimp only;rw[kD _ _ _ _ (by omega)];exact o5,by dsimp only;rw[kD _ _ _ _ (by omega)];exact o6⟩
    ·have hj2:=sT hf;have ej:j=l2.length:=by simp at hj2;omega
     subst ej;have:f=(s,r1,r2):=by simpa using hf.symm
     subst this;refine⟨⟨h0,hn⟩,⟨p5.1,by dsimp only;omega⟩,⟨t5.1,by dsimp only;omega⟩,hr, ?_, ?_⟩
     ·dsimp only;rw[kD _ _ _ _ (by omega)];omega
     ·dsimp only;rw[kD _ _ _ _ (by omega)];omega
   ·dsimp only;rw[uY n (by omega) hget];exact Int.le_refl _
   ·dsimp only;have:=Vis.new (l:=l2++[(s,r1,r2)]) (v:=(l2.length:Int)+2) (k:=l.length+2) (k1:=l1.length+2) (k2:=l2.length+2) (by push_cast;omega) hget (p7'.app _) (t7.app _) (by push_cast;rfl);rw[show(l2++[(s,r1,r2)]).length+2=l2.length+2+1 by simp];exact this
   ·simp only[List.length_append,List.length_cons,List.length_nil];omega
theorem fork_ev {l:List Fk} {m:List (Fk×Int)} (ha:AtM l m) {s lo hi:Int} {x:BitVec 16} {b:Bool} (h:Ev l x (if bitS x s=true then hi else lo) b):Ev (lY l m s lo hi).2.1 x (lY l m s lo hi).1 b:=by
 unfold lY;by_cases hr:lo=hi
 ·rw[if_pos hr];subst hr;simpa using h
 ·rw[if_neg hr];by_cases hm:hM m (s,lo,hi)=true
  ·rw[if_pos hm];obtain⟨g1,g2⟩:=(ha _).1 hm;exact .node g1 g2 h
  ·rw[if_neg hm];dsimp only;have ek:((l.length:Int)+2).toNat-2=l.length:=by omega
   exact .node (f:=(s,lo,hi)) (by omega) (by rw[ek];simp) (h.app _)
theorem sS {n i:Int} {l:List Fk} {q:Int×List Fk×List (Fk×Int)} (h:Grown n i l q) {x:BitVec 16} {v:Int} {b:Bool} (he:Ev l x v b):Ev q.2.1 x v b:=by
 obtain⟨⟨e,h1,_⟩,_⟩:=h;rw[h1];exact he.app e
theorem wV (n:Int):OrdF n []:=⟨List.nodup_nil,fun j f h=>by simp at h⟩
theorem atM_nil :AtM [] []:=fun f=>⟨fun h=>by simp[hM]at h,fun _ h=>by simp at h⟩
def okD (n:Int) (l:List Fk) (r:Int):Prop:=OrdF n l∧(0≤r∧r<l.length+2)∧Vis l r 2 (l.length+2)∧(l.length=0∨r=l.length+1)
theorem sE {n i:Int} {q:Int×List Fk×List (Fk×Int)} (h:Grown n i [] q):okD n q.2.1 q.1:=by
 obtain⟨_,h3,_,h5,_,h7,_⟩:=h;refine⟨h3,h5,h7, ?_⟩
 cases h7':q.2.1.length with
 |zero=>exact .inl rfl
 |succ c=>
  right;rw[h7']at h7;generalize q.2.1=l at *
  cases h7 with
  |new _ _ _ _ he=>push_cast;omega
end Go.Abs
namespace Go.Abs
def okW (n:Nod) (i:Nat):Prop:=(0≤n.2.1∧n.2.1<6)∧(n.2.2.2.1.length=0∨n.2.2.2.1.length=n.2.2.2.2.length)∧(∀w,w∈n.2.2.2.1→1≤w∧w≤1000)∧(∀k,k∈n.2.2.2.2→0≤k∧k<i)∧n.2.2.2.2.length≤5∧((n.1=1∧n.2.2.1=0∧n.2.2.2.1=[]∧n.2.2.2.2=[])∨(n.1=2∧n.2.1=0∧0≤n.2.2.1∧n.2.2.1≤100000))
def okX (l:List Nod) (R:Int):Prop:=(∀j n,l[j]? =some n→okW n j)∧0≤R∧R<l.length∧l.length≤9
def uV (ws:List Int):List Int→Nat→Int→Int
 |[],_,a=>a
 |_::t,k,a=>uV ws t (k+1) (a+wtP ws k)
def cL (n:Nod):Nod:=if n.1=2 then(n.1,n.2.1,max 0 (uV n.2.2.2.1 n.2.2.2.2 0 0-n.2.2.1+1),n.2.2.2.1,n.2.2.2.2)else n
theorem mQ {ws:List Int} (h:∀w,w∈ws→1≤w∧w≤1000) (k:Nat):0≤wtP ws k∧wtP ws k≤1000:=by
 unfold wtP;by_cases h0:ws.length=0
 ·rw[if_pos h0];omega
 ·rw[if_neg h0,List.getD_eq_getElem?_getD]
  cases e:ws[k]? with
  |none=>simp
  |some w=>have:=h w (List.mem_of_getElem? e);simp only[Option.getD_some];omega
theorem wF {ws:List Int} (h:∀w,w∈ws→1≤w∧w≤1000):∀(ks:List Int) (k:Nat) (a:Int),0≤a→0≤uV ws ks k a∧uV ws ks k a≤a+1000 *ks.length
 |[],_,a,ha=>by simp[uV];omega
 |_::t,k,a,ha=>by
  have h1:=mQ h k
  have h2:=wF h t (k+1) (a+wtP ws k) (by omega)
  rw[uV,List.length_cons];push_cast;omega
theorem okW_dual {n:Nod} {i:Nat} (h:okW n i):okW (cL n) i:=by
 unfold cL;by_cases h2:n.1=2
 ·rw[if_pos h2];obtain⟨h1,h3,h4,h5,h6,h7⟩:=h;have hb:=wF h4 n.2.2.2.2 0 0 (by omega);refine⟨h1,h3,h4,h5,h6,.inr ⟨h2, ?_,by dsimp only;omega,by dsimp only;omega⟩⟩;rcases h7 with h7|h7
  ·omega
  ·exact h7.2.1
 ·rw[if_neg h2];exact h
theorem mH {l:List Nod} {R:Int} (h:okX l R):okX (l.map cL) R:=by
 obtain⟨h1,h2,h3,h4⟩:=h;refine⟨fun j n hn=> ?_,h2,by rw[List.length_map];exact h3,by rw[List.length_map];exact h4⟩;rw[List.getElem?_map]at hn
 cases e:l[j]? with
 |none=>rw[e]at hn;cases hn
 |some m=>rw[e]at hn;cases hn;exact okW_dual (h1 j m e)
theorem sum_not (b c:List Bool) (ws:List Int):∀(ks:List Int) (k:Nat) (a a':Int),(∀x,x∈ks→c.getD x.toNat false= !b.getD x.toNat false)→rH c ws ks k a+rH b ws ks k a'=uV ws ks k (a+a')
 |[],_,_,_,_=>rfl
 |x::ks,k,a,a',h=>by
  rw[rH,rH,uV,h x (List.mem_cons_self ..)]
  have ih:=fun p q=>sum_not b c ws ks (k+1) p q fun y hy=>h y (List.mem_cons_of_mem _ hy)
  cases b.getD x.toNat false with
  |true=>simp only[Bool.not_true,Bool.false_eq_true,if_false,if_true];rw[ih];congr 1;omega
  |false=>simp only[Bool.not_false,Bool.false_eq_true,if_false,if_true];rw[ih];congr 1;omega
theorem nod_dual {n:Nod} {i:Nat} {b c:List Bool} (h:okW n i) (hb:b.length=i) (hc:c=b.map not) (s:BitVec 16):mI c (cL n) s= !mI b n (~~~s):=by
 obtain⟨h1,h3,h4,h5,h6,h7⟩:=h;unfold cL;rcases h7 with h7|h7
 ·rw[if_neg (by omega)];unfold mI;rw[if_pos h7.1,if_pos h7.1,hP,hP,BitVec.getLsbD_not,decide_eq_true (show n.2.1.toNat<16 by omega),Bool.true_and,Bool.not_not]
 ·rw[if_pos h7.1];unfold mI;rw[if_neg (by dsimp only;omega),if_neg (by omega)];dsimp only
  have hs:=sum_not b c n.2.2.2.1 n.2.2.2.2 0 0 0 fun x hx=>by
   have:=h5 x hx;have hlt:x.toNat<b.length:=by omega
   rw[hc,List.getD_eq_getElem?_getD,List.getD_eq_getElem?_getD,List.getElem?_map,List.getElem?_eq_getElem hlt];rfl
  rw[show(0:Int)+0=0 from rfl]at hs;rw[Bool.eq_iff_iff,Bool.not_eq_true',decide_eq_true_iff,decide_eq_false_iff_not]
  have hp:∀(ks:List Int) (k:Nat) (a:Int),0≤a→0≤rH c n.2.2.2.1 ks k a:=by
   intro ks
   induction ks with
   |nil=>intro k a ha;exact ha
   |cons x ks ih=>
    intro k a ha;rw[rH];have:=mQ h4 k;split
    ·exact ih _ _ (by omega)
    ·exact ih _ _ ha
  have:=hp n.2.2.2.2 0 0 (by omega);omega
theorem rL (s:BitVec 16):∀(l:List Nod) (b c:List Bool),c=b.map not→(∀j n,l[j]? =some n→okW n (b.length+j))→(l.map cL).foldl (fun b n=>b++[mI b n s]) c=(l.foldl (fun b n=>b++[mI b n (~~~s)]) b).map not
 |[],b,c,hc,_=>hc
 |n::l,b,c,hc,h=>by
  rw[List.map_cons,List.foldl_cons,List.foldl_cons]
  refine rL s l _ _ ?_ fun j m hm=> ?_
  ·rw[nod_dual (h 0 n (by simp)) (by omega) hc s,List.map_append,hc];rfl
  ·have:=h (j+1) m (by simpa using hm)
   rw[List.length_append,List.length_cons,List.length_nil,show b.length+(0+1)+j=b.length+(j+1) by omega];exact this
theorem kJ {l:List Nod} {R:Int} (h:okX l R) (s:BitVec 16):bQ (l.map cL) R s= !bQ l R (~~~s):=by
 unfold bQ valsP;rw[rL s l [] [] rfl fun j n hn=>by simpa using h.1 j n hn];have hl:=mT (~~~s) l []
 have hlt:R.toNat<(l.foldl (fun b n=>b++[mI b n (~~~s)]) []).length:=by
  rw[hl];have:=h.2.1;have:=h.2.2.1;simp only[List.length_nil];omega
 rw[List.getD_eq_getElem?_getD,List.getD_eq_getElem?_getD,List.getElem?_map,List.getElem?_eq_getElem hlt];rfl
/-! ### monotone -/
theorem wM {b c:List Bool} {ws:List Int} (hw:∀w,w∈ws→1≤w∧w≤1000) (h:∀j,b.getD j false=true→c.getD j false=true):∀(ks:List Int) (k:Nat) (a a':Int),a≤a'→rH b ws ks k a≤rH c ws ks k a'
 |[],_,_,_,ha=>ha
 |x::ks,k,a,a',ha=>by
  rw[rH,rH]
  have h1:=mQ hw k
  refine wM hw h ks _ _ _ ?_
  by_cases e:b.getD x.toNat false=true
  ·rw[if_pos e,if_pos (h _ e)];omega
  ·rw[if_neg e];split<;>omega
theorem getD_snoc (b:List Bool) (v:Bool) (j:Nat):(b++[v]).getD j false=if j<b.length then b.getD j false else if j=b.length then v else false:=by
 rw[List.getD_eq_getElem?_getD,List.getD_eq_getElem?_getD];by_cases h:j<b.length
 ·rw[if_pos h,List.getElem?_append_left h]
 ·rw[if_neg h,List.getElem?_append_right (by omega)];by_cases e:j=b.length
  ·rw[if_pos e,e];simp
  ·rw[if_neg e,List.getElem?_eq_none (by simp;omega)];rfl
theorem nod_mono {n:Nod} {i:Nat} {b c:List Bool} {s t:BitVec 16} (hn:okW n i) (hs:sub s t=true) (h:∀j,b.getD j false=true→c.getD j false=true) (hp:mI b n s=true):mI c n t=true:=by
 unfold mI at hp⊢;by_cases h1:n.1=1
 ·rw[if_pos h1]at hp⊢;rw[hP]at hp⊢;exact cO.1 hs _ (by have:=hn.1;omega) hp
 ·rw[if_neg h1]at hp⊢;rw[decide_eq_true_iff]at hp⊢;exact Int.le_trans hp (wM hn.2.2.1 h _ _ _ _ (Int.le_refl _))
theorem rJ {s t:BitVec 16} (hs:sub s t=true):∀(l:List Nod) (b c:List Bool) (i:Nat),b.length=c.length→(∀j n,l[j]? =some n→okW n (i+j))→(∀j,b.getD j false=true→c.getD j false=true)→∀j,(l.foldl (fun b n=>b++[mI b n s]) b).getD j false=true→(l.foldl (fun b n=>b++[mI b n t]) c).getD j false=true
 |[],_,_,_,_,_,h=>h
 |n::l,b,c,i,hl,hn,h=>by
  rw[List.foldl_cons,List.foldl_cons]
  refine rJ hs l _ _ (i + 1) (by simp [hl]) (fun j m hm=>by
   have:=hn (j+1) m (by simpa using hm)
   rw[show i+1+j=i+(j+1) by omega];exact this) fun j hj=> ?_
  rw[getD_snoc]at hj⊢
  rw[←hl]
  by_cases e:j<b.length
  ·rw[if_pos e]at hj⊢;exact h j hj
  ·rw[if_neg e]at hj⊢
   by_cases e2:j=b.length
   ·rw[if_pos e2]at hj⊢;exact nod_mono (hn 0 n (by simp)) hs h hj
   ·rw[if_neg e2]at hj;cases hj
theorem yY {l:List Nod} {R:Int} (h:okX l R) (s t:BitVec 16) (hs:sub s t=true) (hp:bQ l R s=true):bQ l R t=true:=
 rJ hs l [] [] 0 rfl (fun j n hn=>by simpa using h.1 j n hn) (fun _ h=>h) _ hp
/-! ### the servers that matter -/
theorem wQ :∀(l:List Nod) (w:BitVec 16),(∀i,w.getLsbD i=true→(l.foldl (fun(w:BitVec 16) (n:Nod)=>if n.1=1 then w|||((BitVec.ofInt 16 1)<<<n.2.1.toNat)else w) w).getLsbD i=true)∧∀n,n∈l→n.1=1→n.2.1.toNat<16→(l.foldl (fun(w:BitVec 16) (n:Nod)=>if n.1=1 then w|||((BitVec.ofInt 16 1)<<<n.2.1.toNat)else w) w).getLsbD n.2.1.toNat=true
 |[],w=>⟨fun _ h=>h,by simp⟩
 |m::l,w=>by
  rw[List.foldl_cons]
  obtain⟨h1,h2⟩:=wQ l (if m.1=1 then w|||((BitVec.ofInt 16 1)<<<m.2.1.toNat)else w)
  refine⟨fun i hi=>h1 i ?_,fun n hn hk hlt=> ?_⟩
  ·split
   ·rw[BitVec.getLsbD_or,hi];rfl
   ·exact hi
  ·rcases List.mem_cons.1 hn with rfl|hn
   ·refine h1 _ ?_
    rw[if_pos hk,BitVec.getLsbD_or,BitVec.getLsbD_shiftLeft]
    simp[hlt]
   ·exact h2 n hn hk hlt
theorem nod_free {n:Nod} {i:Nat} {b:List Bool} {V:BitVec 16} (hn:okW n i) (hV:n.1=1→V.getLsbD n.2.1.toNat=true) (s:BitVec 16):mI b n (s&&&V)=mI b n s:=by
 unfold mI;by_cases h1:n.1=1
 ·rw[if_pos h1,if_pos h1,hP,hP,BitVec.getLsbD_and,hV h1,Bool.and_true]
 ·rw[if_neg h1,if_neg h1]
theorem rK {V:BitVec 16} (s:BitVec 16):∀(l:List Nod) (b:List Bool) (i:Nat),(∀j n,l[j]? =some n→okW n (i+j))→(∀n,n∈l→n.1=1→V.getLsbD n.2.1.toNat=true)→l.foldl (fun b n=>b++[mI b n (s&&&V)]) b=l.foldl (fun b n=>b++[mI b n s]) b
 |[],_,_,_,_=>rfl
 |n::l,b,i,hn,hV=>by
  rw[List.foldl_cons,List.foldl_cons,nod_free (hn 0 n (by simp)) (hV n (List.mem_cons_self ..)) s]
  exact rK s l _ (i + 1) (fun j m hm=>by
   have:=hn (j+1) m (by simpa using hm)
   rw[show i+1+j=i+(j+1) by omega];exact this) fun m hm=>hV m (List.mem_cons_of_mem _ hm)
theorem gZ {l:List Nod} {R:Int} (h:okX l R) (s:BitVec 16):bQ l R s=bQ l R (s&&&cX l):=by
 unfold bQ valsP;rw[rK s l [] 0 (fun j n hn=>by simpa using h.1 j n hn) fun n hn hk=> ?_];obtain⟨j,hj⟩:=List.getElem?_of_mem hn;exact(wQ l 0#16).2 n hn hk (by have:=(h.1 j n hj).1;omega)
theorem kF (l:List Nod):cX (l.map cL)=cX l:=by
 unfold cX;rw[List.foldl_map];congr 1;funext w n;unfold cL;by_cases h:n.1=2
 ·rw[if_pos h]
 ·rw[if_neg h]
theorem okL_of :∀(l:List Nod) (i:Nat),(∀j n,l[j]? =some n→okW n (i+j))→okL l i=true
 |[],_,_=>rfl
 |n::l,i,h=>by
  rw[okL,Bool.and_eq_true]
  refine ⟨?_,okL_of l (i+1) fun j m hm=>by
   have:=h (j+1) m (by simpa using hm)
   rw[show i+1+j=i+(j+1) by omega];exact this⟩
  obtain⟨h1,h3,h4,h5,h6,h7⟩:=h 0 n (by simp)
  unfold okN
  simp only[Bool.and_eq_true,Bool.or_eq_true,decide_eq_true_eq,List.all_eq_true]
  exact⟨⟨⟨⟨⟨h1.1,by omega⟩,fun w hw=>by have:=h4 w hw;omega⟩,h3⟩,fun k hk=>by have:=h5 k hk;omega⟩,by omega⟩
theorem okE_of {l:List Nod} {R:Int} (h:okX l R):okE l R:=⟨okL_of l 0 fun j n hn=>by simpa using h.1 j n hn,h.2.1,h.2.2.1,by have:=h.2.2.2;omega⟩
/-! ### families of duals -/
theorem fam_dual {l:List Nod} {R:Int} (h:okX l R):vW (eY (bQ l R) (bN (cX l)))=eY (bQ (l.map cL) R) (bN (cX (l.map cL))):=by
 rw[kF,dual_fam _ _ (yY h) (gZ h)];exact nZ fun s _=>(kJ h s).symm
theorem vJ {l:List Nod} {R:Int} (h:okX l R) (s:BitVec 16):bQ ((l.map cL).map cL) R s=bQ l R s:=by
 rw[kJ (mH h),kJ h,BitVec.not_not,Bool.not_not]
theorem fam_again {l:List Nod} {R:Int} (h:okX l R):eY (bQ ((l.map cL).map cL) R) (bN (cX ((l.map cL).map cL)))=eY (bQ l R) (bN (cX l)):=by
 rw[kF,kF];exact nZ fun s _=>vJ h s
end Go.Abs
namespace Go.Abs
abbrev Mp :=List (Fk×Int)
theorem f68_eq (n:Int) (l:List Fk) (r v:Int) (h0:0≤v) (h:v<l.length+2) (hl:l.length≤1000):f68 n l r v=some (srv n l v):=by
 unfold f68 srv;by_cases h2:v<2
 ·rw[if_pos (decide_eq_true h2),if_pos h2]
 ·rw[if_neg (by simpa using h2),if_neg h2,aC (by omega),aC (by omega),show(v-2).toNat=v.toNat-2 by omega]
theorem f40_eq (s lo hi:Int) (l:List Fk) (m:Mp) (hl:l.length≤1000):f40 s lo hi l m=some (lY l m s lo hi):=by
 unfold f40 lY
 have e:((((l++[(s,lo,hi)]).length+1:Nat)):Int)=(l.length:Int)+2:=by
  rw[List.length_append,List.length_cons,List.length_nil];push_cast;omega
 by_cases h:lo=hi
 ·rw[if_pos (by simpa using h),if_pos h]
 ·rw[if_neg (by simpa using h),if_neg h];by_cases h2:hM m (s,lo,hi)=true
  ·rw[if_pos h2,if_pos h2]
  ·rw[if_neg h2,if_neg h2,aC (by omega),aC (by simp;omega),e]
/-! ### a table grows -/
def agr (x s:BitVec 16) (i:Int):Prop:=∀j:Nat,(j:Int)<i→x.getLsbD j=s.getLsbD j
theorem qS (X:List Ty0) (R n:Int) (hn:n≤6) (p:BitVec 16→Bool)
  (hp:∀s:BitVec 16,s.toNat<4096→f34 X R s=some (p s,0)) (hfree:∀x s,agr x s n→p x=p s):
  ∀(c:Nat) (k:Nat) (i:Int) (s:BitVec 16) (l:List Fk) (m:Mp),i+c=n→0≤i→c<k→s.toNat<2^i.toNat→OrdF n l→AtM l m→l.length+2^c≤600→
   ∃r l' m',f76 k i s n X R l m=some (r,l',m')∧Grown n i l (r,l',m')∧∀x,agr x s i→Ev l' x r (p x)
 |0,k,i,s,l,m,hc,h0,hk,hs,ho,ha,hl=>by
  obtain⟨k,rfl⟩:∃q,k=q+1:=⟨k-1,by omega⟩
  have hin:i=n:=by omega
  subst hin
  have hs6:s.toNat<4096:=by
   have:2^i.toNat≤2^6:=Nat.pow_le_pow_right (by decide) (by omega)
   omega
  rw[f76.eq_2,if_pos (by simp)]
  unfold f33
  rw[hp s hs6,aD,aD]
  dsimp only
  unfold f77
  cases hb:p s with
  |true=>
   refine⟨1,l,m,by simp,fJ ho ha (by omega) (by omega) (by unfold srv;rw[if_pos (by omega)];exact Int.le_refl _),fun x hx=> ?_⟩
   rw[hfree x s hx,hb]
   exact Ev.leaf (v:=1) (by omega)
  |false=>
   refine⟨0,l,m,by simp,fJ ho ha (by omega) (by omega) (by unfold srv;rw[if_pos (by omega)];exact Int.le_refl _),fun x hx=> ?_⟩
   rw[hfree x s hx,hb]
   exact Ev.leaf (v:=0) (by omega)
 |c+1,k,i,s,l,m,hc,h0,hk,hs,ho,ha,hl=>by
  obtain⟨k,rfl⟩:∃q,k=q+1:=⟨k-1,by omega⟩
  have hp2:2^(c+1)=2^c+2^c:=by rw[Nat.pow_succ];omega
  have hpc:0<2^c:=Nat.pow_pos (by decide)
  have hcn:(n-(i+1)).toNat=c:=by omega
  have hi5:i.toNat≤5:=by omega
  have hpi:2^(i+1).toNat=2^i.toNat *2:=by rw[show(i+1).toNat=i.toNat+1 by omega,Nat.pow_succ]
  have hp5:2^i.toNat≤2^5:=Nat.pow_le_pow_right (by decide) hi5
  obtain⟨r1,l1,m1,e1,g1,v1⟩:=qS X R n hn p hp hfree c k (i+1) s l m (by omega) (by omega) (by omega) (by rw[hpi];omega) ho ha (by omega)
  have g1':=g1
  obtain⟨_,ho1,ha1,_,_,_,b1⟩:=g1'
  dsimp only at ho1 ha1 b1
  rw[hcn]at b1
  have hbit:∀j:Nat,(s|||((BitVec.ofInt 16 1)<<<i.toNat)).getLsbD j=(s.getLsbD j||decide (j=i.toNat)):=fun j=>by
   rw[BitVec.getLsbD_or,BitVec.getLsbD_shiftLeft]
   congr 1
   show _=decide (j=i.toNat)
   by_cases hj:j=i.toNat
   ·subst hj;simp;omega
   ·rw[decide_eq_false hj]
    by_cases hlt:j<i.toNat
    ·simp[hlt]
    ·have:j-i.toNat≠0:=by omega
     obtain⟨q,hq⟩:∃q,j-i.toNat=q+1:=⟨j-i.toNat-1,by omega⟩
     rw[hq]
     have:(BitVec.ofInt 16 1).getLsbD (q+1)=false:=by
      show(1#16).getLsbD (q+1)=false
      simp[BitVec.getLsbD,Nat.testBit_succ]
     rw[this];simp
  have hs2:(s|||((BitVec.ofInt 16 1)<<<i.toNat)).toNat<2^(i+1).toNat:=by
   rw[BitVec.toNat_or]
   refine Nat.or_lt_two_pow (by rw[hpi];omega) ?_
   rw[BitVec.toNat_shiftLeft,show(BitVec.ofInt 16 1).toNat=1 from rfl,Nat.shiftLeft_eq,Nat.one_mul]
   have:=Nat.mod_le (2^i.toNat) (2^16)
   rw[hpi];have:0<2^i.toNat:=Nat.pow_pos (by decide);omega
  obtain⟨r2,l2,m2,e2,g2,v2⟩:=qS X R n hn p hp hfree c k (i+1) (s|||((BitVec.ofInt 16 1)<<<i.toNat)) l1 m1 (by omega) (by omega) (by omega) hs2 ho1 ha1 (by omega)
  have g2':=g2
  obtain⟨_,ho2,ha2,_,_,_,b2⟩:=g2'
  dsimp only at ho2 ha2 b2
  rw[hcn]at b2
  have hg:=pI (s:=i) g1 g2 (by omega) h0 (by omega)
  refine⟨_,_,_, ?_,hg,fun x hx=>fork_ev ha2 ?_⟩
  ·rw[f76.eq_2,if_neg (by simp;omega),e1,aD,aC (by omega)]
   dsimp only
   rw[e2,aD]
   dsimp only
   rw[f40_eq _ _ _ _ _ (by omega),aD,aC (by omega),aC h0]
   rfl
  ·dsimp only
   have hbb:bitS x i=x.getLsbD i.toNat:=rF x i
   cases hxi:x.getLsbD i.toNat with
   |true=>
    rw[hbb,hxi,if_pos rfl]
    refine v2 x fun j hj=> ?_
    rw[hbit]
    by_cases hj2:j=i.toNat
    ·subst hj2;rw[hxi];simp
    ·rw[decide_eq_false hj2,Bool.or_false];exact hx j (by omega)
   |false=>
    rw[hbb,hxi,if_neg (by simp)]
    refine sS g2 (v1 x fun j hj=> ?_)
    by_cases hj2:j=i.toNat
    ·subst hj2
     rw[hxi]
     symm
     show s.toNat.testBit i.toNat=false
     exact Nat.testBit_lt_two_pow hs
    ·exact hx j (by omega)
/-! ### a diagram is valid -/
def lX (m next:Nat):List Bool:=(List.range m).map fun j=>decide (2≤j∧j<next)
theorem cY (m next:Nat):(lX m next).length=m:=by simp[lX]
theorem sM (m next j:Nat) (h:j<m):(lX m next).getD j false=decide (2≤j∧j<next):=by
 unfold lX;simp[List.getD_eq_getElem?_getD,h]
theorem leftL_set (m next:Nat) (h2:2≤next):(lX m next).set next true=lX m (next+1):=by
 apply List.ext_getElem?;intro j;rw[List.getElem?_set,cY];by_cases hj:next=j
 ·subst hj;rw[if_pos rfl];by_cases hm:next<m
  ·rw[if_pos hm];unfold lX;simp[hm];omega
  ·rw[if_neg hm,List.getElem?_eq_none (by rw[cY];omega)]
 ·rw[if_neg hj];by_cases hm:j<m
  ·have e:(2≤j∧j<next)↔(2≤j∧j<next+1):=by omega
   unfold lX;rw[List.getElem?_map,List.getElem?_map,List.getElem?_range hm];show some (decide _)=some (decide _);simp only[e]
  ·rw[List.getElem?_eq_none (by rw[cY];omega),List.getElem?_eq_none (by rw[cY];omega)]
theorem yW (m:Nat):List.replicate m false=lX m 2:=by
 apply List.ext_getElem?;intro j;unfold lX;by_cases hm:j<m
 ·have e:¬(2≤j∧j<2):=by omega
  rw[List.getElem?_map,List.getElem?_range hm];simp[hm,e]
 ·simp[hm]
theorem f94_spec (n:Int) (l:List Fk) (R:Int) (ho:OrdF n l) (hl:l.length≤1000) {v:Int} {a b:Nat} (hv:Vis l v a b):∀(k:Nat),0≤v→v<l.length+2→v.toNat<k→2≤a→
  f94 k v (lX (l.length+2) a) n l R (a:Int)=some (true,lX (l.length+2) b,n,l,R,(b:Int))∧a≤b∧b≤l.length+2∨¬a≤l.length+2:=by
 induction hv with
 | @old v c h=>
  intro k h0 h1 hk h2;by_cases ha:c≤l.length+2
  ·left;refine⟨?_,Nat.le_refl _,ha⟩;obtain⟨k,rfl⟩:∃q,k=q+1:=⟨k-1,by omega⟩;rw[f94.eq_2,aC (by intro;rw[cY];push_cast;omega),aC (by intro;rw[cY];omega),if_pos];rw[sM _ _ _ (by omega),Bool.or_eq_true,decide_eq_true_iff,decide_eq_true_iff];omega
  ·exact .inr ha
 | @new v c c1 c2 f h hf hv1 hv2 he ih1 ih2=>
  intro k h0 h1 hk h2;by_cases ha:c≤l.length+2
  ·left;obtain⟨k,rfl⟩:∃q,k=q+1:=⟨k-1,by omega⟩;obtain⟨_,o1,o2,_⟩:=ho.2 _ _ hf;have hj:=sT hf
   have hget:l.getD (v-2).toNat default=f:=by
    rw[show(v-2).toNat=v.toNat-2 by omega,List.getD_eq_getElem?_getD,hf];rfl
   obtain⟨e1,b1,b1'⟩:=(ih1 k (by omega) (by omega) (by omega) h2).resolve_right (by omega);obtain⟨e2,b2,b2'⟩:=(ih2 k (by omega) (by omega) (by omega) (by omega)).resolve_right (by omega);refine⟨?_,by omega,by omega⟩;rw[f94.eq_2,aC (by intro;rw[cY];push_cast;omega),aC (by intro;rw[cY];omega),if_neg,aC (by omega),aC (by omega),hget,e1,aD,if_neg (by simp)]
   ·dsimp only;rw[e2,aD];dsimp only;rw[if_neg (by subst he;simp),aC (by rw[cY];push_cast;omega),aC (by rw[cY];omega),aC (by omega),show v.toNat=c2 by omega,leftL_set _ _ (by omega)]
    push_cast;rfl
   ·rw[sM _ _ _ (by omega),Bool.or_eq_true,decide_eq_true_iff,decide_eq_true_iff];omega
  ·exact .inr ha
theorem f79_true {n:Int} {l:List Fk} {r:Int} (h:okD n l r) (hl:l.length≤700):f79 n l r=some true:=by
 obtain⟨ho,hr,hv,_⟩:=h;unfold f79;have hF:r.toNat<bG:=by unfold bG;omega
 obtain⟨e,_⟩:=(f94_spec n l r ho (by omega) hv bG hr.1 hr.2 hF (Nat.le_refl _)).resolve_right (by omega);rw[aC (by omega),aC (by omega),yW];rw[show((2:Nat):Int)=2 from rfl]at e;rw[e,aD];dsimp only;rw[aC (by intro;omega)];simp
end Go.Abs
namespace Go.Abs
theorem tD (N:Int) (l:List Fk) (r:Int) (K:Unit→Option Bool) (ho:OrdF N l) (hl:l.length≤700):∀(c k n:Nat) (m:List (Fk×Bool)),n+c=l.length→c<k→(∀f,gM m false f=true→f∈l.take n)→lE N l r K k (n,m)=K ()
 |0,k,n,m,hc,hk,_=>by
  obtain⟨k,rfl⟩:∃q,k=q+1:=⟨k-1,by omega⟩
  rw[lE.eq_2,if_neg (by simp;omega)]
 |c+1,k,n,m,hc,hk,hm=>by
  obtain⟨k,rfl⟩:∃q,k=q+1:=⟨k-1,by omega⟩
  have hn:n<l.length:=by omega
  have hf:l[n]? =some l[n]:=List.getElem?_eq_getElem hn
  have hget:l.getD n default=l[n]:=by rw[List.getD_eq_getElem?_getD,hf];rfl
  generalize l[n]=f at hf hget
  obtain⟨o1,o2,o3,o4,o5,o6⟩:=ho.2 _ _ hf
  have q1:decide (f.1<(0:Int))=false:=decide_eq_false (by omega)
  have q2:decide (f.1≥N)=false:=decide_eq_false (by omega)
  have q3:decide (f.2.1<(0:Int))=false:=decide_eq_false (by omega)
  have q4:decide (f.2.2<(0:Int))=false:=decide_eq_false (by omega)
  have q5:decide (f.2.1≥(((n+2):Nat):Int))=false:=decide_eq_false (by omega)
  have q6:decide (f.2.2≥(((n+2):Nat):Int))=false:=decide_eq_false (by omega)
  have q7:(f.2.1==f.2.2)=false:=by rw[Bool.eq_false_iff];intro h;exact o4 (by simpa using h)
  have q8:gM m false (f.1,f.2.1,f.2.2)=false:=by
   rw[Bool.eq_false_iff]
   intro h
   have hmem:=hm f h
   obtain⟨j,hj⟩:=List.getElem?_of_mem hmem
   have hjn:j<n:=by have:=sT hj;simp at this;omega
   rw[List.getElem?_take,if_pos hjn]at hj
   have hnd:=ho.1
   have:=(List.getElem?_inj (by omega) hnd).1 (hj.trans hf.symm)
   omega
  rw [lE.eq_2,if_pos (by simp;omega),aC (by omega),hget,q1,q2,q3,q4,q5,q6,q7,if_neg (by simp),aC (by intro;omega),aC (by intro;omega),q8,if_neg (by simp),f68_eq N l r _ (by omega) (by omega) (by omega),aD,
   show(decide (srv N l f.2.1≤f.1))=false from decide_eq_false (by omega),show((false:Bool)==false)=true from rfl,iG,f68_eq N l r _ (by omega) (by omega) (by omega),aD,show(decide (srv N l f.2.2≤f.1))=false from decide_eq_false (by omega),if_neg (by simp),aC (by omega)]
  refine tD N l r K ho hl c k (n+1) _ (by omega) (by omega) fun g hg=> ?_
  rw[gM_upd]at hg
  rw[List.take_add_one,hf]
  by_cases e:g=(f.1,f.2.1,f.2.2)
  ·exact List.mem_append_right _ (by rw[e];simp)
  ·rw[if_neg e]at hg
   exact List.mem_append_left _ (hm g hg)
theorem f78_true {N:Int} {l:List Fk} {r:Int} (ho:OrdF N l) (hl:l.length≤700):f78 N l r=some true:=by
 unfold f78;rw[cD];exact tD N l r _ ho hl l.length bG 0 [] (by omega) (fuel_lt (by omega)) fun f h=>by simp[gM]at h
theorem xS {N:Int} {l:List Fk} {r:Int} (h:okD N l r) (h0:0≤N) (h12:N≤12) (hl:l.length≤700):f37 N l r=some 0:=by
 obtain⟨ho,hr,hv,hlast⟩:=id h;have c1:decide ((((l).length:Nat):Int)>(765:Int))=false:=decide_eq_false (by omega);have c2:decide (r<(0:Int))=false:=decide_eq_false (by omega);have c3:decide (r>(((1+(l).length):Nat):Int))=false:=decide_eq_false (by omega)
 have c4:((decide ((((l).length:Nat):Int)>(0:Int)))&&(r !=(((1+(l).length):Nat):Int)))=false:=by
  rcases hlast with e|e
  ·rw[e];rfl
  ·rw[show(((1+(l).length):Nat):Int)=r by omega];simp
 unfold f37;rw[if_neg (by simp;omega),aC (by omega),c1,c2,c3,c4];rw[show(((false||false||false)||false)==false)=true from rfl,iG,f78_true ho hl,aD,show((((false||false||false)||false)|| !true)==false)=true from rfl,iG,f79_true h hl,aD,aC (by intro _ _ h3;rw[h3];rfl),if_neg (by simp)]
/-! ### what is accepted -/
theorem f47_L0_eq (l:List Fk) (N:Int) (x:BitVec 16) (K:Int→Option Bool) (ho:OrdF N l) (hl:l.length≤700) {v:Int} {b:Bool} (hv:Ev l x v b):∀k:Nat,v.toNat<k→v<l.length+2→∃w,jR l x K k v=K w∧b=(w==1):=by
 induction hv with
 | @leaf v h=>
  intro k hk _;obtain⟨k,rfl⟩:∃q,k=q+1:=⟨k-1,by omega⟩
  exact⟨v,by rw[jR.eq_2,if_neg (by simp;omega)],rfl⟩
 | @node v f b h2 hf _ ih=>
  intro k hk hlt;obtain⟨k,rfl⟩:∃q,k=q+1:=⟨k-1,by omega⟩;obtain⟨o1,o2,o3,_⟩:=ho.2 _ _ hf
  have hget:l.getD (v-2).toNat default=f:=by
   rw[show(v-2).toNat=v.toNat-2 by omega,List.getD_eq_getElem?_getD,hf];rfl
  have hj:=sT hf;rw[jR.eq_2,if_pos (by simp;omega),aC (by omega),aC (by omega),hget,aC (by omega)];by_cases hb:bitS x f.1=true
  ·rw[if_pos hb]at ih;obtain⟨w,h3,h4⟩:=ih k (by omega) (by omega);exact⟨w,(if_pos hb).trans h3,h4⟩
  ·rw[if_neg hb]at ih;obtain⟨w,h3,h4⟩:=ih k (by omega) (by omega);exact⟨w,(if_neg hb).trans h3,h4⟩
theorem f47_eq {N:Int} {l:List Fk} {r:Int} (h:okD N l r) (hl:l.length≤700) {x:BitVec 16} {b:Bool} (hv:Ev l x r b):f47 N l r x=some b:=by
 unfold f47;rw[cD];have hF:r.toNat<bG:=by have:=h.2.1;unfold bG;omega
 obtain⟨w,h1,h2⟩:=f47_L0_eq l N x (fun i6=>some (i6==(1:Int))) h.1 hl hv bG hF h.2.1.2;rw[h1,h2]
/-! ### duals -/
abbrev Kn :=List (Int×Int)
def KnO (N:Int) (la lb:List Fk) (kn:Kn):Prop:=∀v,hM kn v=true→2≤v∧v<la.length+2∧0≤gM kn 0 v∧gM kn 0 v<lb.length+2∧srv N la v≤srv N lb (gM kn 0 v)∧∀x b,Ev la (~~~x) v b→Ev lb x (gM kn 0 v) (!b)
theorem KnO.app {N:Int} {la lb:List Fk} {kn:Kn} (h:KnO N la lb kn) (e:List Fk):KnO N la (lb++e) kn:=fun v hv=>by
 obtain⟨h1,h2,h3,h4,h5,h6⟩:=h v hv
 exact⟨h1,h2,h3,by rw[List.length_append];omega,by rw[kD _ _ _ _ h4];exact h5,fun x b hb=>(h6 x b hb).app e⟩
theorem qT (N:Int) (hN:N≤12) (la:List Fk) (R:Int) (ha:OrdF N la) (hl:la.length≤700) (i5:Int):∀(q:Nat) (k:Nat) (v:Int) (kn:Kn) (lb:List Fk) (m:Mp),v.toNat≤q→q<k→0≤v→v<la.length+2→OrdF N lb→AtM lb m→KnO N la lb kn→
  lb.length+2^(N-srv N la v).toNat≤900→
  ∃r kn' lb' m',f39 k v kn N la R lb m=some (r,kn',lb',m')∧Grown N (srv N la v) lb (r,lb',m')∧KnO N la lb' kn'∧∀x b,Ev la (~~~x) v b→Ev lb' x r (!b)
 |0,k,v,kn,lb,m,hq,hk,h0,h1,ho,hm,hkn,hb=>by
  obtain⟨k,rfl⟩:∃q,k=q+1:=⟨k-1,by omega⟩
  have hv:v=0:=by omega
  subst hv
  refine⟨1,kn,lb,m,by rw[f39.eq_2,if_pos (by simp),aC (by omega)];rfl,fJ ho hm (by omega) (by omega) (by unfold srv;rw[if_pos (by omega),if_pos (by omega)];exact Int.le_refl _),hkn,fun x b he=> ?_⟩
  cases he with
  |leaf _=>exact Ev.leaf (v:=1) (by omega)
  |node h2 _ _=>omega
 |q+1,k,v,kn,lb,m,hq,hk,h0,h1,ho,hm,hkn,hb=>by
  obtain⟨k,rfl⟩:∃q,k=q+1:=⟨k-1,by omega⟩
  by_cases h2:v<2
  ·refine⟨1-v,kn,lb,m,by rw[f39.eq_2,if_pos (by simpa using h2),aC (by omega)],fJ ho hm (by omega) (by omega) (by unfold srv;rw[if_pos (by omega),if_pos (by omega)];exact Int.le_refl _),hkn,fun x b he=> ?_⟩
   cases he with
   |leaf _=>
    have:v=0∨v=1:=by omega
    rcases this with rfl|rfl
    ·exact Ev.leaf (v:=1-0) (by omega)
    ·exact Ev.leaf (v:=1-1) (by omega)
   |node h2 _ _=>omega
  by_cases hh:hM kn v=true
  ·obtain⟨t1,t2,t3,t4,t5,t6⟩:=hkn v hh
   exact⟨gM kn 0 v,kn,lb,m,by rw[f39.eq_2,if_neg (by simpa using h2),if_pos hh],fJ ho hm t3 t4 t5,hkn,t6⟩
  have hj:v.toNat-2<la.length:=by omega
  have hf:la[v.toNat-2]? =some la[v.toNat-2]:=List.getElem?_eq_getElem hj
  generalize la[v.toNat-2]=f at hf
  have hget:la.getD (v-2).toNat default=f:=by
   rw[show(v-2).toNat=v.toNat-2 by omega,List.getD_eq_getElem?_getD,hf];rfl
  obtain⟨o1,o2,o3,o4,o5,o6⟩:=ha.2 _ _ hf
  have hsv:srv N la v=f.1:=uY N (by omega) hf
  rw[hsv]at hb⊢
  have hp2:∀j:Int,f.1<j→2^(N-j).toNat+2^(N-j).toNat≤2^(N-f.1).toNat:=fun j hj=>by
   have hle:(N-j).toNat+1≤(N-f.1).toNat:=by omega
   have:=Nat.pow_le_pow_right (n:=2) (by decide) hle
   rw[Nat.pow_succ]at this;omega
  have p5:=hp2 _ o5
  have p6:=hp2 _ o6
  have hpos5:0<2^(N-srv N la f.2.1).toNat:=Nat.pow_pos (by decide)
  obtain⟨r1,kn1,l1,m1,e1,g1,k1,v1⟩:=qT N hN la R ha hl i5 q k f.2.2 kn lb m (by omega) (by omega) (by omega) (by omega) ho hm hkn (by omega)
  have g1':=g1
  obtain⟨_,ho1,ha1,_,_,_,b1⟩:=g1'
  dsimp only at ho1 ha1 b1
  obtain⟨r2,kn2,l2,m2,e2,g2,k2,v2⟩:=qT N hN la R ha hl i5 q k f.2.1 kn1 l1 m1 (by omega) (by omega) (by omega) (by omega) ho1 ha1 k1 (by omega)
  have g2':=g2
  obtain⟨_,ho2,ha2,_,_,_,b2⟩:=g2'
  dsimp only at ho2 ha2 b2
  have hg:=pI (s:=f.1) (i:=f.1+1) (g1.mono (by omega)) (g2.mono (by omega)) (by omega) o1.1 o1.2
  dsimp only at hg
  have hev:∀x b,Ev la (~~~x) v b→Ev (lY l2 m2 f.1 r1 r2).2.1 x (lY l2 m2 f.1 r1 r2).1 (!b):=fun x b he=>by
   refine fork_ev ha2 ?_
   cases he with
   |leaf h=>omega
   | @node _ f' _ _ hf' he'=>
    rw[hf]at hf';cases hf'
    have hbit:bitS (~~~x) f.1= !bitS x f.1:=by
     rw[rF,rF,BitVec.getLsbD_not,decide_eq_true (show f.1.toNat<16 by omega),Bool.true_and]
    rw[hbit]at he'
    cases hx:bitS x f.1 with
    |true=>
     rw[hx]at he'
     rw[if_pos rfl]
     exact v2 x b (by simpa using he')
    |false=>
     rw[hx]at he'
     rw[if_neg (by simp)]
     exact sS g2 (v1 x b (by simpa using he'))
  have hex:∃e2,(lY l2 m2 f.1 r1 r2).2.1=l2++e2:=by
   unfold lY
   split
   ·exact⟨[],by simp⟩
   ·split
    ·exact⟨[],by simp⟩
    ·exact⟨_,rfl⟩
  obtain⟨e2',he2⟩:=hex
  have hf40:=f40_eq f.1 r1 r2 l2 m2 (by omega)
  generalize lY l2 m2 f.1 r1 r2=w at hg hev he2 hf40
  obtain⟨r3,l3,m3⟩:=w
  obtain⟨_,ho3,ha3,hr3,hs3,_,_⟩:=id hg
  dsimp only at ho3 ha3 hr3 hs3 hev he2
  refine⟨r3,mV kn2 v r3,l3,m3, ?_,hg, ?_,hev⟩
  ·rw[f39.eq_2,if_neg (by simpa using h2),if_neg hh,aC (by omega),aC (by omega),hget,e1,aD]
   dsimp only
   rw[e2,aD]
   dsimp only
   rw[hf40,aD]
  ·intro w hw
   rw[hM_upd]at hw
   rw[gM_upd]
   by_cases e:w=v
   ·subst e
    rw[if_pos rfl]
    exact⟨by omega,h1,hr3.1,hr3.2,by rw[hsv];exact hs3,hev⟩
   ·rw[if_neg e]
    rw[decide_eq_false e,Bool.false_or]at hw
    have:=k2.app e2'
    rw[←he2]at this
    exact this w hw
theorem xV {N:Int} {l:List Fk} {r:Int} (h:okD N l r) (h0:0≤N) (h6:N≤6) (hl:l.length≤700):∃r' l',f11 N l r=some (N,l',r',0)∧okD N l' r'∧l'.length≤64∧∀x b,Ev l (~~~x) r b→Ev l' x r' (!b):=by
 have hs0:0≤srv N l r:=by
  unfold srv;split
  ·exact h0
  ·have hj:r.toNat-2<l.length:=by have:=h.2.1;omega
   have hf:l[r.toNat-2]? =some l[r.toNat-2]:=List.getElem?_eq_getElem hj;rw[List.getD_eq_getElem?_getD,hf];exact(h.1.2 _ _ hf).1.1
 have hp:2^(N-srv N l r).toNat≤2^6:=Nat.pow_le_pow_right (by decide) (by omega);have hF:r.toNat<bG:=by have:=h.2.1;unfold bG;omega
 obtain⟨r',kn',l',m',e,g,_,v⟩:=qT N (by omega) l r h.1 hl 0 r.toNat bG r [] [] [] (Nat.le_refl _) hF h.2.1.1 h.2.1.2 (wV N) atM_nil (fun v hv=>by simp[hM]at hv) (by simp only[List.length_nil];omega);have hok:=sE g;have hb:=g.2.2.2.2.2.2;dsimp only at hok hb;refine⟨r',l', ?_,hok,by simp only[List.length_nil]at hb;omega,v⟩;unfold f11;rw[xS h h0 (by omega) hl,aD,if_neg (by simp)];unfold f38;rw[aD];dsimp only;rw[e,aD];unfold f41;rw[aD]
end Go.Abs
namespace Go.Abs
theorem qN {l:List Int} {n:Nat} (h:n<l.length):l.getD n 0∈l:=by
 rw[List.getD_eq_getElem?_getD,List.getElem?_eq_getElem h];exact List.getElem_mem h
theorem sZ (ws:List Int) (K:Unit→Option Int) (hw:∀w,w∈ws→1≤w∧w≤1000) (hl:ws.length≤1000):∀c k n,n+c=ws.length→c<k→lD ws K k n=K ()
 |0,k,n,hn,hk=>by
  obtain⟨k,rfl⟩:∃q,k=q+1:=⟨k-1,by omega⟩
  rw[lD.eq_2,if_neg (by simp;omega)]
 |c+1,k,n,hn,hk=>by
  obtain⟨k,rfl⟩:∃q,k=q+1:=⟨k-1,by omega⟩
  have h:=hw _ (qN (l:=ws) (n:=n) (by omega))
  rw[lD.eq_2,if_pos (by simp;omega)]
  unfold f90
  rw[aD,aC (by omega),show(decide (ws.getD n 0<1)||decide (ws.getD n 0>1000))=false by rw[decide_eq_false (by omega),decide_eq_false (by omega)];rfl,if_neg (by simp),aC (by omega),sZ ws K hw hl c k (n+1) (by omega) (by omega)]
theorem f57_ok' (ws:List Int) (hw:∀w,w∈ws→1≤w∧w≤1000) (hl:ws.length≤1000):f57 ws=some false:=by
 unfold f57 f89;rw[cD,sZ ws _ hw hl ws.length bG 0 (by omega) (fuel_lt (by omega)),aD];rfl
theorem pO (ks:List Int) (i:Int) (K:Int→Option (Int×Int)) (hw:∀w,w∈ks→0≤w∧w<i) (hl:ks.length≤1000):∀c k n,n+c=ks.length→c<k→gL ks K k (n,i)=K i
 |0,k,n,hn,hk=>by
  obtain⟨k,rfl⟩:∃q,k=q+1:=⟨k-1,by omega⟩
  rw[gL.eq_2,if_neg (by simp;omega)]
 |c+1,k,n,hn,hk=>by
  obtain⟨k,rfl⟩:∃q,k=q+1:=⟨k-1,by omega⟩
  have h:=hw _ (qN (l:=ks) (n:=n) (by omega))
  rw[gL.eq_2,if_pos (by simp;omega)]
  unfold f91
  rw[aD,aC (by omega)]
  dsimp only
  rw[show(decide (ks.getD n 0<0)||decide (ks.getD n 0≥i))=false by rw[decide_eq_false (by omega),decide_eq_false (by omega)];rfl,if_neg (by simp),aC (by omega),pO ks i K hw hl c k (n+1) (by omega) (by omega)]
theorem f57a_ok' (ks:List Int) (i:Int) (hw:∀w,w∈ks→0≤w∧w<i) (hl:ks.length≤1000):f57a ks i=some (false,i):=by
 unfold f57a f89a;rw[cD,pO ks i _ hw hl ks.length bG 0 (by omega) (fuel_lt (by omega)),aD];rfl
theorem okW_len {n:Nod} {i:Nat} (h:okW n i):n.2.2.2.1.length≤5:=by
 obtain⟨_,h3,_,_,h6,_⟩:=h;omega
theorem f70_zero {n:Nod} {i:Nat} (h:okW n i):f70 n.1 n.2.1 n.2.2.1 n.2.2.2.1 n.2.2.2.2 (i:Int)=some 0:=by
 have hl:=okW_len h;obtain⟨h1,h3,h4,h5,h6,h7⟩:=h;have c1:decide (n.2.1<(0:Int))=false:=decide_eq_false (by omega);have c2:decide (n.2.1≥(12:Int))=false:=decide_eq_false (by omega);have c3:decide (n.2.2.1<(0:Int))=false:=decide_eq_false (by omega);have c4:decide (n.2.2.1>(100000:Int))=false:=decide_eq_false (by omega)
 have c5:((decide ((((n.2.2.2.1).length:Nat):Int)>(0:Int)))&&((((n.2.2.2.1).length:Nat):Int) !=(((n.2.2.2.2).length:Nat):Int)))=false:=by
  rcases h3 with e|e
  ·rw[e];rfl
  ·rw[e];simp
 have hK : (rI (((((decide (n.2.1<(0:Int)))||(decide (n.2.1≥(12:Int))))||(decide (n.2.2.1<(0:Int))))||(decide (n.2.2.1>(100000:Int))))==false) (f57 n.2.2.2.1) fun(r7:Bool)=>
   if(((((decide (n.2.1<(0:Int)))||(decide (n.2.1≥(12:Int))))||(decide (n.2.2.1<(0:Int))))||(decide (n.2.2.1>(100000:Int))))||r7)then some (7:Int)else
   if((decide ((((n.2.2.2.1).length:Nat):Int)>(0:Int)))&&((((n.2.2.2.1).length:Nat):Int) !=(((n.2.2.2.2).length:Nat):Int)))then some (6:Int)else
   (f57a n.2.2.2.2 (i:Int)).bind fun(r8:Bool×Int)=>if r8.1 then some (4:Int)else some (0:Int))=some 0:=by
  rw[c1,c2,c3,c4,c5,show((((false||false)||false)||false)==false)=true from rfl,iG,f57_ok' _ h4 (by omega),aD,if_neg (by simp),if_neg (by simp),f57a_ok' _ _ h5 (by omega),aD,if_neg (by simp)]
 unfold f70;rw[cD];rcases h7 with h7|h7
 ·rw[if_pos (by rw[h7.1];rfl),if_neg (by rw[h7.2.1,h7.2.2.1,h7.2.2.2];simp)];exact hK
 ·rw[if_neg (by rw[h7.1];decide),if_pos (by rw[h7.1];rfl),if_neg (by rw[h7.2.1];simp)];exact hK
theorem tY (X:List Nod) (K:Unit→Option Int) (h:∀j n,X[j]? =some n→okW n j) (hl:X.length≤60):∀c k n,n+c=X.length→c<k→lO X K k n=K ()
 |0,k,n,hn,hk=>by
  obtain⟨k,rfl⟩:∃q,k=q+1:=⟨k-1,by omega⟩
  rw[lO.eq_2,if_neg (by simp;omega)]
 |c+1,k,n,hn,hk=>by
  obtain⟨k,rfl⟩:∃q,k=q+1:=⟨k-1,by omega⟩
  have hf:X[n]? =some X[n]:=List.getElem?_eq_getElem (by omega)
  have hg:X.getD n default=X[n]:=by rw[List.getD_eq_getElem?_getD,hf];rfl
  rw[lO.eq_2,if_pos (by simp;omega),aC (by omega),hg,f70_zero (h n _ hf),aD,if_neg (by simp),aC (by omega),tY X K h hl c k (n+1) (by omega) (by omega)]
theorem mN {X:List Nod} {R:Int} (h:okX X R):f27 X R=some 0:=by
 obtain⟨h1,h2,h3,h4⟩:=h;unfold f27;rw[if_neg (by simp;intro e;rw[e]at h3;simp at h3;omega),if_neg (by simp;omega),cD,tY X _ h1 (by omega) X.length bG 0 (by omega) (fuel_lt (by omega)),if_neg (by simp;omega)]
theorem f34_eq {X:List Nod} {R:Int} (h:okX X R) (s:BitVec 16) (hs:s.toNat<4096):f34 X R s=some (bQ X R s,0):=by
 unfold f34;rw[mN h,aD,if_neg (by simp),if_neg (by rw[decide_eq_true_iff,show(BitVec.ofInt 16 4096).toNat=4096 from rfl];omega),f30_eq X R s (okE_of h).1 h.2.1 h.2.2.1 (by have:=h.2.2.2;omega),aD]
/-! ### duals of expressions -/
theorem f35_id (x:List Int) (h:x.length≤1000):f35 x=some x:=by
 unfold f35;rw[abc_eq (fun h0=>by rw[List.length_eq_zero_iff.1 h0];rfl),aC (by omega)];rfl
theorem uI (X:List Nod) (n4:Nat) (n:Nod) (hn:X.getD n4 default=n) (K:Int→Option (List Nod×Int×Int)) (hw:∀w,w∈n.2.2.2.1→1≤w∧w≤1000) (hl:n.2.2.2.1.length=0∨n.2.2.2.1.length=n.2.2.2.2.length) (h5:n.2.2.2.2.length≤5):
  ∀(c k j:Nat) (acc:Int),j+c=n.2.2.2.2.length→c<k→0≤acc→acc≤1000 *j→lR X n4 n.2.2.2.1 n.2.2.2.2 K k (acc,j)=K (uV n.2.2.2.1 (n.2.2.2.2.drop j) j acc)
 |0,k,j,acc,hj,hk,_,_=>by
  obtain⟨k,rfl⟩:∃q,k=q+1:=⟨k-1,by omega⟩
  rw[lR.eq_2,if_neg (by simp;omega),List.drop_eq_nil_of_le (by omega)];rfl
 |c+1,k,j,acc,hj,hk,h0,h1=>by
  obtain⟨k,rfl⟩:∃q,k=q+1:=⟨k-1,by omega⟩
  have hwt:=mQ hw j
  rw[lR.eq_2,if_pos (by simp;omega),f36_eq _ _ _ _ _ _ (by omega),aD,aC (by omega),aC (by omega),uI X n4 n hn K hw hl h5 c k (j+1) _ (by omega) (by omega) (by omega) (by push_cast;omega),List.drop_eq_getElem_cons (show j<n.2.2.2.2.length by omega),uV]
theorem uJ (X:List Nod) (K:List Nod→Option (List Nod×Int×Int)) (h:∀j n,X[j]? =some n→okW n j) (hl:X.length≤9):∀c k n out,n+c=X.length→c<k→out.length=n→jU X K k (n,out)=K (out++(X.drop n).map cL)
 |0,k,n,out,hn,hk,ho=>by
  obtain⟨k,rfl⟩:∃q,k=q+1:=⟨k-1,by omega⟩
  rw[jU.eq_2,if_neg (by simp;omega),List.drop_eq_nil_of_le (by omega)];simp
 |c+1,k,n,out,hn,hk,ho=>by
  obtain⟨k,rfl⟩:∃q,k=q+1:=⟨k-1,by omega⟩
  have hf:X[n]? =some X[n]:=List.getElem?_eq_getElem (by omega)
  have hg:X.getD n default=X[n]:=by rw[List.getD_eq_getElem?_getD,hf];rfl
  have hd:X.drop n=X[n]::X.drop (n+1):=List.drop_eq_getElem_cons (by omega)
  have hw:=h n _ hf
  have hwl:=okW_len hw
  generalize X[n]=m at hf hg hd hw hwl
  have hb:=wF hw.2.2.1 m.2.2.2.2 0 0 (by omega)
  have h5:=hw.2.2.2.2.1
  rw[jU.eq_2,if_pos (by simp;omega),aC (by omega),hg,f35_id _ (by omega),aD,f35_id _ (by omega),aD,cD,hd]
  have fin:∀i:Int,(m.1,m.2.1,i,m.2.2.2.1,m.2.2.2.2)=cL m→(chk ((out.length+1) *72≤140737488355328)<|chk ((n:Int)+(1:Int)≤9223372036854775807)<|jU X K k (n+1,out++[(m.1,m.2.1,i,m.2.2.2.1,m.2.2.2.2)]))=K (out++List.map cL (m::X.drop (n+1))):=fun i hi=>by
   rw[aC (by omega),aC (by omega),uJ X K h hl c k (n+1) _ (by omega) (by omega) (by simp;omega),hi,List.map_cons,List.append_assoc];rfl
  by_cases h2:m.1=2
  ·have h7:=hw.2.2.2.2.2.resolve_left (by omega)
   rw[if_pos (by simpa using h2),cD,uI X n m hg _ hw.2.2.1 hw.2.1 h5 m.2.2.2.2.length bG 0 0 (by omega) (fuel_lt (by omega)) (by omega) (by omega),List.drop_zero,aC (by omega),aC (by omega)]
   exact fin _ (by unfold cL;rw[if_pos h2])
  ·rw[if_neg (by simpa using h2)]
   exact fin _ (by unfold cL;rw[if_neg h2])
theorem f10_eq {X:List Nod} {R:Int} (h:okX X R):f10 X R=some (X.map cL,R,0):=by
 unfold f10;rw[mN h,aD,if_neg (by simp),cD,uJ X _ h.1 h.2.2.2 X.length bG 0 [] (by omega) (fuel_lt (by have:=h.2.2.2;omega)) rfl];rfl
/-! ### the diagram of an expression -/
def mX (l:List Nod):Int:=l.foldl (fun(i:Int) (n:Nod)=>if n.1=1 then max i (n.2.1+1)else i) 0
theorem qO (X:List Nod) (K:Int→Option (Int×List Fk×Int×Int)) (h:∀j n,X[j]? =some n→okW n j) (hl:X.length≤9):∀c k n i,n+c=X.length→c<k→sX X K k (i,n)=K ((X.drop n).foldl (fun(i:Int) (n:Nod)=>if n.1=1 then max i (n.2.1+1)else i) i)
 |0,k,n,i,hn,hk=>by
  obtain⟨k,rfl⟩:∃q,k=q+1:=⟨k-1,by omega⟩
  rw[sX.eq_2,if_neg (by simp;omega),List.drop_eq_nil_of_le (by omega)];rfl
 |c+1,k,n,i,hn,hk=>by
  obtain⟨k,rfl⟩:∃q,k=q+1:=⟨k-1,by omega⟩
  have hf:X[n]? =some X[n]:=List.getElem?_eq_getElem (by omega)
  have hg:X.getD n default=X[n]:=by rw[List.getD_eq_getElem?_getD,hf];rfl
  have hd:X.drop n=X[n]::X.drop (n+1):=List.drop_eq_getElem_cons (by omega)
  have hw:=h n _ hf
  generalize X[n]=m at hf hg hd hw
  have h1:=hw.1
  rw[sX.eq_2,if_pos (by simp;omega),cD,aC (by omega),hg,hd,List.foldl_cons]
  by_cases h2:m.1=1
  ·rw[if_pos (by simpa using h2),if_pos h2,aC (by omega)]
   dsimp only
   rw[aC (by omega),qO X K h hl c k (n+1) _ (by omega) (by omega)]
  ·rw[if_neg (by simpa using h2),if_neg h2]
   dsimp only
   rw[aC (by omega),qO X K h hl c k (n+1) _ (by omega) (by omega)]
theorem wG :∀(l:List Nod) (i:Int) (q:Nat),(∀j n,l[j]? =some n→okW n (q+j))→0≤i→i≤6→0≤l.foldl (fun(i:Int) (n:Nod)=>if n.1=1 then max i (n.2.1+1)else i) i∧l.foldl (fun(i:Int) (n:Nod)=>if n.1=1 then max i (n.2.1+1)else i) i≤6
  ∧i≤l.foldl (fun(i:Int) (n:Nod)=>if n.1=1 then max i (n.2.1+1)else i) i∧∀n,n∈l→n.1=1→n.2.1<l.foldl (fun(i:Int) (n:Nod)=>if n.1=1 then max i (n.2.1+1)else i) i
 |[],i,q,_,h0,h6=>⟨h0,h6,Int.le_refl _,by simp⟩
 |m::l,i,q,h,h0,h6=>by
  rw[List.foldl_cons]
  have hw:=h 0 m (by simp)
  have h1:=hw.1
  obtain ⟨t1, t2, t3, t4⟩ := wG l (if m.1 = 1 then max i (m.2.1 + 1) else i) (q + 1) (fun j n hn=>by
   have:=h (j+1) n (by simpa using hn)
   rw[show q+1+j=q+(j+1) by omega];exact this) (by split<;>omega) (by split<;>omega)
  have hle:i≤(if m.1=1 then max i (m.2.1+1)else i):=by split<;>omega
  refine⟨t1,t2,by omega,fun n hn hk=> ?_⟩
  rcases List.mem_cons.1 hn with rfl|hn
  ·rw[if_pos hk]at t3⊢;omega
  ·exact t4 n hn hk
theorem rT :∀(l:List Nod) (w:BitVec 16) (i:Nat),(l.foldl (fun(w:BitVec 16) (n:Nod)=>if n.1=1 then w|||((BitVec.ofInt 16 1)<<<n.2.1.toNat)else w) w).getLsbD i=true→w.getLsbD i=true∨∃n,n∈l∧n.1=1∧n.2.1.toNat=i
 |[],w,i,h=> .inl h
 |m::l,w,i,h=>by
  rw[List.foldl_cons]at h
  rcases rT l _ i h with h|⟨n,h1,h2,h3⟩
  ·by_cases hk:m.1=1
   ·rw[if_pos hk,BitVec.getLsbD_or,Bool.or_eq_true]at h
    rcases h with h|h
    ·exact .inl h
    ·refine .inr ⟨m,List.mem_cons_self ..,hk, ?_⟩
     rw[BitVec.getLsbD_shiftLeft]at h
     simp only[Bool.and_eq_true,decide_eq_true_eq,Bool.not_eq_true',decide_eq_false_iff_not]at h
     obtain⟨⟨h1,h2⟩,h3⟩:=h
     by_cases e:i-m.2.1.toNat=0
     ·omega
     ·exfalso
      obtain⟨q,hq⟩:∃q,i-m.2.1.toNat=q+1:=⟨i-m.2.1.toNat-1,by omega⟩
      rw[hq]at h3
      have:(1#16).getLsbD (q+1)=false:=by simp[BitVec.getLsbD,Nat.testBit_succ]
      rw[show BitVec.ofInt 16 1=1#16 from rfl,this]at h3
      cases h3
   ·rw[if_neg hk]at h;exact .inl h
  ·exact .inr ⟨n,List.mem_cons_of_mem _ h1,h2,h3⟩
theorem wO {X:List Nod} {R:Int} (h:okX X R) (i:Nat) (hi:(cX X).getLsbD i=true):(i:Int)<mX X∧i<6:=by
 rcases rT X 0#16 i hi with h0|⟨n,h1,h2,h3⟩
 ·simp at h0
 ·obtain⟨j,hj⟩:=List.getElem?_of_mem h1;have hw:=(h.1 j n hj).1;have:=(wG X 0 0 (fun j n hn=>by simpa using h.1 j n hn) (by omega) (by omega)).2.2.2 n h1 h2;unfold mX;omega
theorem f9_spec {X:List Nod} {R:Int} (h:okX X R):∃l r,f9 X R=some (mX X,l,r,0)∧okD (mX X) l r∧l.length≤64∧∀x,Ev l x r (bQ X R x):=by
 obtain⟨t1,t2,_,_⟩:=wG X 0 0 (fun j n hn=>by simpa using h.1 j n hn) (by omega) (by omega);have t1':0≤mX X:=t1;have t2':mX X≤6:=t2;have hF:(mX X).toNat<bG:=by unfold bG;omega
 have hp:2^(mX X).toNat≤2^6:=Nat.pow_le_pow_right (by decide) (by omega)
 obtain ⟨r, l, m, e, g, v⟩ := qS X R (mX X) t2' (bQ X R) (fun s hs => f34_eq h s hs) (fun x s ha=>by
  rw[gZ h x,gZ h s];congr 1;apply BitVec.eq_of_getLsbD_eq;intro i hi;rw[BitVec.getLsbD_and,BitVec.getLsbD_and]
  cases hV:(cX X).getLsbD i with
  |false=>simp
  |true=>rw[ha i (wO h i hV).1]) (mX X).toNat bG 0 (BitVec.ofInt 16 0) [] [] (by omega) (Int.le_refl _) hF (by show(0:Nat)<_;exact Nat.pow_pos (by decide)) (wV _) atM_nil (by simp only[List.length_nil];omega)
 have hok:=sE g;have hb:=g.2.2.2.2.2.2;dsimp only at hok hb;refine⟨l,r, ?_,hok, ?_,fun x=>v x fun j hj=>by omega⟩
 ·unfold f9;rw[mN h,aD,if_neg (by simp),cD,qO X _ h.1 h.2.2.2 X.length bG 0 0 (by omega) (fuel_lt (by have:=h.2.2.2;omega)),List.drop_zero];show((f32 (mX X) X R).bind _)=_;unfold f32 f38;rw[aD];dsimp only;rw[e,aD];unfold f41;rw[aD,aD]
 ·simp only[List.length_nil,Int.sub_zero]at hb;omega
end Go.Abs
namespace Go.Abs
/-! f73b, f71b -/
theorem kO (L:List Nat) (i:Nat) (K:BitVec 16→Option Ty3) (hL:L.length≤12) (hi:i<4096):∀c k n w,n+c=L.length→c<k→gN (L.map fun i:Nat=>(i:Int)) (i:Int) K k (w,n)=K (wP (L.drop n) (i/2^n) w)
 |0,k,n,w,hc,hk=>by
  obtain⟨k,rfl⟩:∃q,k=q+1:=⟨k-1,by omega⟩
  rw[gN.eq_2,cH (by rw[dI];omega),List.drop_eq_nil_of_le (by omega)]
  rfl
 |c+1,k,n,w,hc,hk=>by
  obtain⟨k,rfl⟩:∃q,k=q+1:=⟨k-1,by omega⟩
  have hu:IntKind.bits .u32=32:=rfl
  have hlt:i/2^n<4096:=Nat.lt_of_le_of_lt (Nat.div_le_self _ _) hi
  rw[gN.eq_2,cG (by rw[dI];omega),cD,aC (by rw[dI];omega),aC (by rw[dI];omega),aC (by rw[hu];omega),mp_get L n (by omega),divc,and1 hlt,getD_drop L n 0 (by omega),wP,Nat.div_div_eq_div_mul,←Nat.pow_succ,Int.toNat_natCast]
  by_cases hb:i/2^n%2=1
  ·rw[cG hb,if_pos hb,aC (by omega)]
   dsimp only
   rw[aC (by omega),kO L i K hL hi c k (n+1) _ (by omega) (by omega)]
  ·rw[cH hb,if_neg hb]
   dsimp only
   rw[aC (by omega),kO L i K hL hi c k (n+1) _ (by omega) (by omega)]
theorem zH (Y:Ty1→BitVec 16→Option (Nat×Ty1)) (g:Ty1→BitVec 16→Nat×Ty1) (Inv:Ty1→Prop) (hY:∀st x,Inv st→Y st x=some (g st x)) (hI:∀st x,Inv st→(g st x).1=0→Inv (g st x).2) (M:List Nat) (hM:M.length≤12) (K1:Ty9→Option Ty3)
  (t:List Nat) (a k:Nat) (st:Ty1) (hc:jW M.length a t=true) (hk:t.length+1<k) (hi:Inv st):
  eL Y (M.map fun i:Nat=>(i:Int)) K1 k ((a:Int),st.2.2.2.2.2.2.2.1,st.1,st.2.1,st.2.2.1,st.2.2.2.2.2.2.1,st.2.2.2.1,st.2.2.2.2.1,st.2.2.2.2.2.1,st.2.2.2.2.2.2.2.2,0)=if(dP g ((a::t).map fun j=>wP M j 0#16) st).1=0 then(fun st:Ty1=>K1 (st.2.2.2.2.2.2.2.1,st.1,st.2.1,st.2.2.1,st.2.2.2.2.2.2.1,st.2.2.2.1,st.2.2.2.2.1,st.2.2.2.2.2.1,st.2.2.2.2.2.2.2.2,0)) (dP g ((a::t).map fun j=>wP M j 0#16) st).2 else some (false,dP g ((a::t).map fun j=>wP M j 0#16) st):=by
 refine xZ (fun k i st=>eL Y (M.map fun i:Nat=>(i:Int)) K1 k (i,st.2.2.2.2.2.2.2.1,st.1,st.2.1,st.2.2.1,st.2.2.2.2.2.2.1,st.2.2.2.1,st.2.2.2.2.1,st.2.2.2.2.2.1,st.2.2.2.2.2.2.2.2,0)) g Inv (fun st=>K1 (st.2.2.2.2.2.2.2.1,st.1,st.2.1,st.2.2.1,st.2.2.2.2.2.2.1,st.2.2.2.1,st.2.2.2.2.1,st.2.2.2.2.2.1,st.2.2.2.2.2.2.2.2,0)) (fun r=>some (false,r)) M hI ?_ ?_ t a k st hc hk hi
 ·intro k i st hi he;obtain⟨p1,p2,p3⟩:=qC hM;have hu:IntKind.bits .u32=32:=rfl;show eL Y _ K1 (k+1) _=_;rw[eL.eq_2,dI,aC (by rw[hu];omega),cH (by omega)]
 ·intro k a st hi ha hg;obtain⟨p1,p2,p3⟩:=qC hM;have hu:IntKind.bits .u32=32:=rfl;have ha':a<4096:=by have:=Nat.pow_le_pow_right (n:=2) (by decide) hM;omega
  show eL Y _ K1 (k+1) _=_;rw[eL.eq_2,dI,aC (by rw[hu];omega),cG (by omega),cD,kO M a _ hM ha' M.length bG 0 _ (by omega) (fuel_lt (by omega)),cD,aC rfl,show(BitVec.ofInt 16 0)=0#16 from rfl,List.drop_zero,Nat.pow_zero,Nat.div_one,hY _ _ hi,aD];by_cases hz:(g st (wP M a 0#16)).1=0
  ·rw[if_pos hz,if_pos hz,if_neg (by simp)];dsimp only;by_cases h0:a=0
   ·rw[if_pos (by simp;omega),if_pos h0]
   ·rw[if_neg (by simp;omega),if_neg h0];have hg:=hg.resolve_left h0;unfold gosC sH at hg;simp only[Bool.and_eq_true,decide_eq_true_eq]at hg;rw[aC hg.1,aC hg.2,aC (by rw[hu];omega)];unfold gosN sH;rfl
  ·rw[if_neg hz,if_neg hz,if_pos (by simp)]
theorem f73b_eq (Y:Ty1→BitVec 16→Option (Nat×Ty1)) (g:Ty1→BitVec 16→Nat×Ty1) (Inv:Ty1→Prop) (hY:∀st x,Inv st→Y st x=some (g st x)) (hI:∀st x,Inv st→(g st x).1=0→Inv (g st x).2) (s:BitVec 16) (hs:s.toNat<4096) (n:Nat) (hn:n≤sz s) (st:Ty1) (hi:Inv st):
  f73b Y s (n:Int) st.1 st.2.1 st.2.2.1 st.2.2.2.1 st.2.2.2.2.1 st.2.2.2.2.2.1 st.2.2.2.2.2.2.1 st.2.2.2.2.2.2.2.1 st.2.2.2.2.2.2.2.2=some (decide ((dP g (bS s n) st).1=0),dP g (bS s n) st):=by
 have hm:(gB s.toNat 16).length=sz s:=by rw[dM,oM]
 have hM:(gB s.toNat 16).length≤12:=by
  have h:=fun i (h:i∈gB s.toNat 16)=>(List.mem_filter.1 h)
  have hsub:gB s.toNat 16=(gB s.toNat 12):=by
   have hb:∀i,12≤i→¬s.toNat/2^i%2=1:=by
    intro i hi;have:s.toNat/2^i=0:=Nat.div_eq_of_lt (Nat.lt_of_lt_of_le hs (Nat.pow_le_pow_right (n:=2) (by decide) hi));omega
   rw[bX,bX,bX,bX,if_neg (hb 15 (by omega)),if_neg (hb 14 (by omega)),if_neg (hb 13 (by omega)),if_neg (hb 12 (by omega))];simp
  rw[hsub,dM];exact qZ _ _
 obtain⟨a,t,e1,e2,e3,e4⟩:=gOK_of (hm▸hM) hn;have hu:IntKind.bits .u32=32:=rfl;have hp:=(qC (m:=n) (by omega));unfold f73b;rw[f93_eq s hs,aD,if_neg (by rw[List.length_map,hm];simp;omega),cD,Int.toNat_natCast,aC ⟨by omega,by rw[hu];omega,by omega,by omega⟩,aC (by omega)];have ea:(1:Int) *2^n-1=(a:Int):=by rw[hp.2.2];omega
 rw[ea];rw[←hm]at e1 e3;have e5:=mS s n;rw[←hm,e1]at e5;refine(zH Y g Inv hY hI _ hM _ t a bG st e3 (fuel_lt (by omega)) hi).trans ?_;rw[e5];by_cases hz:(dP g (bS s n) st).1=0
 ·rw[if_pos hz,decide_eq_true hz];show some (true,0,_)=_;rw[←hz]
 ·rw[if_neg hz,decide_eq_false hz]
theorem f71b_eq (Y:Ty1→BitVec 16→Option (Nat×Ty1)) (g:Ty1→BitVec 16→Nat×Ty1) (Inv:Ty1→Prop) (hY:∀st x,Inv st→Y st x=some (g st x)) (hI:∀st x,Inv st→(g st x).1=0→Inv (g st x).2) (s:BitVec 16) (hs:s.toNat<4096) (hw:∀st,Inv st→st.2.2.2.2.2.2.2.1=s) (st:Ty1) (hi:Inv st):
  f71b Y st.1 st.2.1 st.2.2.1 st.2.2.2.1 st.2.2.2.2.1 st.2.2.2.2.2.1 st.2.2.2.2.2.2.1 st.2.2.2.2.2.2.2.1 st.2.2.2.2.2.2.2.2=some (dP g (bN s) st):=by
 unfold f71b;rw[iP];refine pW (fun k n st=>dR Y k (n,st.2.2.2.2.2.2.2.1,st.1,st.2.1,st.2.2.1,st.2.2.2.2.2.2.1,st.2.2.2.1,st.2.2.2.2.1,st.2.2.2.2.2.1,st.2.2.2.2.2.2.2.2,0)) g Inv some s hI ?_ ?_ (sz s+1) bG 0 st (by omega) (fuel_lt (by have:=szle s;omega)) hi
 ·intro k st hi;have hst:=hw st hi;show dR Y (k+1) _=_;rw[dR.eq_2,aC rfl,hst,lH,aD,cH (by omega)];rw[←hst]
 ·intro k n st hi hn;have hst:=hw st hi;show dR Y (k+1) _=_;rw[dR.eq_2,aC rfl,hst,lH,aD,cG (by omega)];have e:=f73b_eq Y g Inv hY hI s hs n hn st hi;rw[hst]at e;rw[e,aD];have hb:=szle s;by_cases hz:(dP g (bS s n) st).1=0
  ·rw[if_pos hz,if_pos (decide_eq_true hz),aC (by omega)];show dR Y k _=dR Y k _;rw[hz]
  ·rw[if_neg hz,if_neg (by simp[hz])]
end Go.Abs
namespace Go.Abs
/-! ### described expressions -/
abbrev Pc :=Int×Int×Int×Bool×List Int
def okPc (a:Pc):Prop:=(0≤a.1∧a.1≤255)∧(0≤a.2.1∧a.2.1≤255)∧(0≤a.2.2.1∧a.2.2.1≤255)∧∀n,n∈a.2.2.2.2→0≤n∧n≤255
def okKW (n2 n5:Nat) (ws ks:List Int):Prop:=ks.length=n5∧n5≤5∧(ws.length=0∨ws.length=n5)∧(∀w,w∈ws→1≤w∧w≤1000)∧∀k,k∈ks→0≤k∧k<(n2:Int)
theorem qP (x:List Pc) (n2:Nat) (p:Pc) (hp:x.getD n2 default=p) (ho:okPc p) (h2:1≤n2) (K:(List Int×List Int)→Option (Int×List Nod)):∀(c k n5:Nat) (ws ks:List Int),n5+c=5→c<k→okKW n2 n5 ws ks→(p.2.2.2.1=true→ws.length=n5)→(p.2.2.2.1=false→ws.length=0)→∃ws' ks' n',qQ x n2 K k (n5,ws,ks)=K (ws',ks')∧okKW n2 n' ws' ks'
 |0,k,n5,ws,ks,hc,hk,hi,_,_=>by
  obtain⟨k,rfl⟩:∃q,k=q+1:=⟨k-1,by omega⟩
  exact⟨ws,ks,n5,by rw[qQ.eq_2,if_neg (by simp;omega)],hi⟩
 |c+1,k,n5,ws,ks,hc,hk,hi,hw1,hw2=>by
  obtain⟨k,rfl⟩:∃q,k=q+1:=⟨k-1,by omega⟩
  by_cases hn:n5<p.2.2.2.2.length
  ·have hb:=ho.2.2.2 _ (qN hn)
   obtain⟨i1,i2,i3,i4,i5⟩:=hi
   generalize hg:p.2.2.2.2.getD n5 0=v at hb
   have hm1:0≤v%(n2:Int):=Int.emod_nonneg _ (by omega)
   have hm2:v%(n2:Int)<(n2:Int):=Int.emod_lt_of_pos _ (by omega)
   have hks : okKW n2 (n5 + 1) [] (ks ++ [v % (n2 : Int)]) := ⟨by simp[i1],by omega,.inl rfl,by simp,fun q hq=>by
    rcases List.mem_append.1 hq with hq|hq
    ·exact i5 q hq
    ·have:q=v%(n2:Int):=by simpa using hq
     rw[this];exact⟨hm1,hm2⟩⟩
   rw[qQ.eq_2,hp,if_pos (by simp;omega),cD,hg,aC (by omega),aC (by omega),aC (by omega),aC (by omega)]
   cases hh:p.2.2.2.1 with
   |true=>
    have hl:=hw1 hh
    rw[if_pos rfl,aC (by omega),aC (by omega),aC (by omega),aC (by omega),aC (by omega),aC (by omega)]
    dsimp only
    rw[aC (by omega)]
    refine qP x n2 p hp ho h2 K c k (n5+1) _ _ (by omega) (by omega) ⟨hks.1,hks.2.1,.inr (by simp[hl]),fun w hw=> ?_,hks.2.2.2.2⟩ (fun _=>by simp[hl]) (fun h=>by rw[hh]at h;cases h)
    rcases List.mem_append.1 hw with hw|hw
    ·exact i4 w hw
    ·have:w=1+v/16%4:=by simpa using hw
     omega
   |false=>
    have hl:=hw2 hh
    rw[if_neg (by simp)]
    dsimp only
    rw[aC (by omega)]
    exact qP x n2 p hp ho h2 K c k (n5+1) _ _ (by omega) (by omega) ⟨hks.1,hks.2.1,.inl hl,i4,hks.2.2.2.2⟩ (fun h=>by rw[hh]at h;cases h) (fun _=>hl)
  ·exact⟨ws,ks,n5,by rw[qQ.eq_2,hp,if_neg (by simp;omega)],hi⟩
theorem uA (a b d:Int) (ws ks:List Int) (K:Int→Option Int) (hw:∀w,w∈ws→1≤w∧w≤1000) (hl:ws.length=0∨ws.length=ks.length) (h5:ks.length≤5):∀(c k j:Nat) (acc:Int),j+c=ks.length→c<k→0≤acc→acc≤1000 *j→lP a b d ws ks K k (acc,j)=K (uV ws (ks.drop j) j acc)
 |0,k,j,acc,hj,hk,_,_=>by
  obtain⟨k,rfl⟩:∃q,k=q+1:=⟨k-1,by omega⟩
  rw[lP.eq_2,if_neg (by simp;omega),List.drop_eq_nil_of_le (by omega)];rfl
 |c+1,k,j,acc,hj,hk,h0,h1=>by
  obtain⟨k,rfl⟩:∃q,k=q+1:=⟨k-1,by omega⟩
  have hwt:=mQ hw j
  have h69:f69 a b d ws ks (j:Int)=some (wtP ws j):=f36_eq a b d ws ks j (by omega)
  rw[lP.eq_2,if_pos (by simp;omega),h69,aD,aC (by omega),aC (by omega),uA a b d ws ks K hw hl h5 c k (j+1) _ (by omega) (by omega) (by omega) (by push_cast;omega),List.drop_eq_getElem_cons (show j<ks.length by omega),uV]
theorem f26_eq (a b d:Int) (ws ks:List Int) (hw:∀w,w∈ws→1≤w∧w≤1000) (hl:ws.length=0∨ws.length=ks.length) (h5:ks.length≤5):f26 a b d ws ks=some (uV ws ks 0 0):=by
 unfold f26;rw[cD,uA a b d ws ks _ hw hl h5 ks.length bG 0 0 (by omega) (fuel_lt (by omega)) (by omega) (by omega),List.drop_zero]
theorem wW {l:List Nod} {m:Nod} (h:∀j n,l[j]? =some n→okW n j) (hm:okW m l.length):∀j n,(l++[m])[j]? =some n→okW n j:=fun j n hj=>by
 by_cases e:j<l.length
 ·rw[List.getElem?_append_left e]at hj;exact h j n hj
 ·have:=sT hj
  have ej:j=l.length:=by simp at this;omega
  subst ej
  have:n=m:=by simpa using hj.symm
  rw[this];exact hm
theorem xI (x:List Pc) (ho:∀a,a∈x→okPc a) (K:List Nod→Option (Int×List Nod)):∀(c k n2:Nat) (l:List Nod),n2+c=9→c<k→l.length=n2→(∀j n,l[j]? =some n→okW n j)→∃l',oB x K k (n2,l)=K l'∧l'.length≤9∧∀j n,l'[j]? =some n→okW n j
 |0,k,n2,l,hc,hk,hl,hi=>by
  obtain⟨k,rfl⟩:∃q,k=q+1:=⟨k-1,by omega⟩
  exact⟨l,by rw[oB.eq_2,if_neg (by simp;omega)],by omega,hi⟩
 |c+1,k,n2,l,hc,hk,hl,hi=>by
  obtain⟨k,rfl⟩:∃q,k=q+1:=⟨k-1,by omega⟩
  by_cases hn:n2<x.length
  ·have hf:x[n2]? =some x[n2]:=List.getElem?_eq_getElem hn
   have hg:x.getD n2 default=x[n2]:=by rw[List.getD_eq_getElem?_getD,hf];rfl
   have hop:=ho _ (List.getElem_mem hn)
   generalize x[n2]=p at hf hg hop
   rw[oB.eq_2,if_pos (by simp;omega),cD,hg,aC (by omega),aC (by intro;exact⟨hop.1.1,by omega⟩)]
   have fin:∀m:Nod,okW m n2→∃l',(fun l4:List Nod=>chk ((n2:Int)+(1:Int)≤9223372036854775807)<|oB x K k (n2+1,l4)) (l++[m])=K l'∧l'.length≤9∧∀j n,l'[j]? =some n→okW n j:=fun m hm=>by
    dsimp only
    rw[aC (by omega)]
    exact xI x ho K c k (n2+1) _ (by omega) (by omega) (by simp[hl]) (wW hi (by rw[hl];exact hm))
   by_cases hz:(((n2:Int)==(0:Int))||((p.1%(3:Int))==(0:Int)))=true
   ·rw[if_pos hz,aC (by have:=hop.2.1;omega),aC (by omega),aC (by omega)]
    exact fin _ ⟨⟨by dsimp only;omega,by dsimp only;omega⟩,.inl rfl,by simp,by simp,by simp,.inl ⟨rfl,rfl,rfl,rfl⟩⟩
   ·rw[if_neg hz,cD]
    have hn1:1≤n2:=by
     apply Classical.byContradiction
     intro h
     have:n2=0:=by omega
     subst this
     simp at hz
    obtain ⟨ws, ks, n', e, i1, i2, i3, i4, i5⟩ := qP x n2 p hg hop hn1 (fun((l9,l10):List Int×List Int)=>(f26 (2:Int) (0:Int) (0:Int) l9 l10).bind fun(r11:Int)=>
      chk (-9223372036854775808≤p.2.2.1∧p.2.2.1≤9223372036854775807)<|
      chk (-9223372036854775808≤(r11+(2:Int))∧(r11+(2:Int))≤9223372036854775807)<|
      chk (0≤p.2.2.1∧1≤(r11+(2:Int)))<|
      chk (((l).length+1) *72≤140737488355328)<|
      (fun l4:List Nod=>chk ((n2:Int)+(1:Int)≤9223372036854775807)<|oB x K k (n2+1,l4)) (l++[((2:Int),(0:Int),(p.2.2.1%(r11+(2:Int))),l9,l10)])) 5 bG 0 [] [] (by omega) (fuel_lt (by omega)) ⟨rfl,by omega,.inl rfl,by simp,by simp⟩ (fun _=>rfl) (fun _=>rfl)
    rw[e]
    dsimp only
    have hb:=wF i4 ks 0 0 (by omega)
    have hkl:(ks.length:Int)≤5:=by omega
    have hm1:0≤p.2.2.1%(uV ws ks 0 0+2):=Int.emod_nonneg _ (by omega)
    have hm2:p.2.2.1%(uV ws ks 0 0+2)<uV ws ks 0 0+2:=Int.emod_lt_of_pos _ (by omega)
    rw[f26_eq _ _ _ ws ks i4 (by omega) (by omega),aD,aC (by have:=hop.2.2.1;omega),aC (by omega),aC (by have:=hop.2.2.1;omega),aC (by omega)]
    exact fin _ ⟨⟨by dsimp only;omega,by dsimp only;omega⟩,by dsimp only;omega,i4,i5,by dsimp only;omega,.inr ⟨rfl,rfl,hm1,by dsimp only;omega⟩⟩
  ·exact⟨l,by rw[oB.eq_2,if_neg (by simp;omega)],by omega,hi⟩
theorem f7_spec (x:List Pc) (ho:∀a,a∈x→okPc a):∃X R,f7 x=some (R,X)∧okX X R:=by
 unfold f7;rw[cD]
 obtain ⟨l, e, h1, h2⟩ := xI x ho (fun l12 => jn (fun(l13:List Nod)=>
   chk (-9223372036854775808≤((((l13).length:Nat):Int)-(1:Int))∧((((l13).length:Nat):Int)-(1:Int))≤9223372036854775807)<|
   some (((((l13).length:Nat):Int)-(1:Int)),l13)) fun(K5:List Nod→Option (Int×List Nod))=>
   if((((l12).length:Nat):Int)==(0:Int))then K5 ([((1:Int),(0:Int),(0:Int),[],[])])else K5 l12) 9 bG 0 [] (by omega) (fuel_lt (by omega)) rfl (by simp)
 rw[e,cD];by_cases h0:l.length=0
 ·rw[if_pos (by rw[h0];rfl)];refine⟨_,_,aC (by simp),⟨fun j n hj=> ?_,by simp,by simp,by simp⟩⟩;have:=wW (l:=[]) (m:=((1:Int),(0:Int),(0:Int),[],[])) (by simp) ⟨⟨by simp,by simp⟩,.inl rfl,by simp,by simp,by simp,.inl ⟨rfl,rfl,rfl,rfl⟩⟩ j n;exact this hj
 ·rw[if_neg (by simp;intro h;rw[h]at h0;simp at h0)];exact⟨_,_,aC (by omega),⟨h2,by omega,by omega,h1⟩⟩
/-! ### the minimal sets of a diagram -/
abbrev S9 :=Int×Ty7×Int×Int×List (BitVec 16)×List (BitVec 16)×Int×BitVec 16×Nat
def put13 (st:S9) (l:List (BitVec 16)):S9:=(st.1,st.2.1,st.2.2.1,st.2.2.2.1,l,l,st.2.2.2.2.2.2.1,st.2.2.2.2.2.2.2.1,st.2.2.2.2.2.2.2.2)
def g13 (p:BitVec 16→Bool) (st:S9) (s:BitVec 16):Nat×S9:=
 if(p s&& !acc st.2.2.2.2.1 s)=true then(if st.2.2.2.2.1.length=400 then(2,(st.1,st.2.1,st.2.2.1,3,st.2.2.2.2.1++[s],st.2.2.2.2.2.1,st.2.2.2.2.2.2.1,st.2.2.2.2.2.2.2.1,2))else(0,put13 st (st.2.2.2.2.1++[s])))else(0,st)
def I13 (N:Int) (l:List Fk) (r:Int) (U:BitVec 16) (st:S9):Prop:=st.1=N∧st.2.1=l∧st.2.2.1=r∧st.2.2.2.2.1=st.2.2.2.2.2.1∧st.2.2.2.2.1.length≤400∧st.2.2.2.2.2.2.2.1=U∧st.2.2.2.2.2.2.2.2=0
theorem y13_eq {N:Int} {l:List Fk} {r:Int} {U:BitVec 16} {p:BitVec 16→Bool} (hp:∀x,f47 N l r x=some (p x)) (st:S9) (s:BitVec 16) (hi:I13 N l r U st):fM eF st s=some (g13 p st s):=by
 obtain⟨a1,a2,a3,a4,a5,a6,a7,a8,a9⟩:=st;obtain⟨h1,h2,h3,h4,h5,h6,h7⟩:=hi;dsimp only at h1 h2 h3 h4 h5 h6 h7;subst h1 h2 h3 h4 h6 h7;show(f31 a5 s).bind _=_;unfold g13;dsimp only;rw[vT a5 s (by omega),aD]
 cases ha:acc a5 s with
 |true=>simp
 |false=>
  rw[if_neg (by simp)];unfold f46;rw[hp,aD,aD];dsimp only
  cases hh:p s with
  |false=>simp
  |true=>
   simp only[Bool.not_true,Bool.not_false,Bool.and_self,if_true,Bool.false_eq_true,if_false];rw[aC (by omega),aC trivial];unfold eF;dsimp only;by_cases hl:a5.length=400
   ·rw[if_pos (by simp[hl]),if_pos hl,aD];simp
   ·rw[if_neg (by simp;omega),if_neg hl,aC (by omega),aD];simp[put13]
theorem i13_keep {N:Int} {l:List Fk} {r:Int} {U:BitVec 16} {p:BitVec 16→Bool} (st:S9) (s:BitVec 16) (hi:I13 N l r U st) (hz:(g13 p st s).1=0):I13 N l r U (g13 p st s).2:=by
 obtain⟨h1,h2,h3,h4,h5,h6,h7⟩:=id hi;unfold g13 at hz⊢;by_cases hc:(p s&& !acc st.2.2.2.2.1 s)=true
 ·rw[if_pos hc]at hz⊢;by_cases hl:st.2.2.2.2.1.length=400
  ·rw[if_pos hl]at hz;cases hz
  ·rw[if_neg hl];exact⟨h1,h2,h3,rfl,by simp[put13];omega,h6,h7⟩
 ·rw[if_neg hc];exact hi
theorem sA {S:Type} (g:S→BitVec 16→Nat×S) (p:BitVec 16→Bool) (outOf:S→List (BitVec 16)) (put:S→List (BitVec 16)→S) (m:Nat) (Inv:S→Prop)
  (hg:∀st x,Inv st→(eH p (outOf st) x).length≤m→g st x=(0,put st (eH p (outOf st) x))) (hI:∀st l,Inv st→l.length≤m→Inv (put st l)) (h1:∀st l,outOf (put st l)=l) (h2:∀st l l',put (put st l) l'=put st l') (h3:∀st,Inv st→put st (outOf st)=st):
  ∀(L:List (BitVec 16)) (st:S),Inv st→(L.foldl (eH p) (outOf st)).length≤m→dP g L st=(0,put st (L.foldl (eH p) (outOf st)))
 |[],st,hi,_=>by rw[List.foldl_nil,h3 st hi];rfl
 |x::L,st,hi,h=>by
  rw[List.foldl_cons]at h⊢
  have hle:=Nat.le_trans (nX p L _) h
  have e:=hg st x hi hle
  have hz:(g st x).1=0:=by rw[e]
  rw[fS hz,e]
  have ih:=sA g p outOf put m Inv hg hI h1 h2 h3 L (put st (eH p (outOf st) x)) (hI st _ hi hle) (by rw[h1];exact h)
  rw[ih,h1,h2]
def eP (N:Int):BitVec 16:=((BitVec.ofInt 16 1)<<<N.toNat)-(BitVec.ofInt 16 1)
theorem mJ :∀n:Nat,n≤6→(eP (n:Int)).toNat<4096∧(bN (eP (n:Int))).length≤64∧∀i,i<n→(eP (n:Int)).getLsbD i=true
 |0,_=>⟨by decide+kernel,by decide+kernel,by decide+kernel⟩
 |1,_=>⟨by decide+kernel,by decide+kernel,by decide+kernel⟩
 |2,_=>⟨by decide+kernel,by decide+kernel,by decide+kernel⟩
 |3,_=>⟨by decide+kernel,by decide+kernel,by decide+kernel⟩
 |4,_=>⟨by decide+kernel,by decide+kernel,by decide+kernel⟩
 |5,_=>⟨by decide+kernel,by decide+kernel,by decide+kernel⟩
 |6,_=>⟨by decide+kernel,by decide+kernel,by decide+kernel⟩
 |n+7,h=>absurd h (by omega)
theorem f13_eq {N:Int} {l:List Fk} {r:Int} (h:okD N l r) (h0:0≤N) (h6:N≤6) (hl:l.length≤700) {p:BitVec 16→Bool} (hp:∀x,Ev l x r (p x)):f13 N l r=some (eY p (bN (eP N)),0):=by
 obtain⟨n,rfl⟩:∃n:Nat,N=(n:Int):=⟨N.toNat,by omega⟩;obtain⟨m1,m2,_⟩:=mJ n (by omega);have hp':∀x,f47 (n:Int) l r x=some (p x):=fun x=>f47_eq h hl (hp x);have hi:I13 (n:Int) l r (eP (n:Int)) ((n:Int),l,r,0,[],[],(n:Int),eP (n:Int),0):=⟨rfl,rfl,rfl,rfl,by simp,rfl,rfl⟩;have e:=f71b_eq (fM eF) (g13 p) (I13 (n:Int) l r (eP (n:Int))) (fun st s hi=>y13_eq hp' st s hi) (fun st s hi hz=>i13_keep st s hi hz) (eP (n:Int)) m1 (fun st hi=>hi.2.2.2.2.2.1) ((n:Int),l,r,0,[],[],(n:Int),eP (n:Int),0) hi;have hd:(eY p (bN (eP (n:Int)))).length≤400:=by have:=fam_len p (bN (eP (n:Int)));omega
 have rr:dP (g13 p) (bN (eP (n:Int))) ((n:Int),l,r,0,[],[],(n:Int),eP (n:Int),0)=(0,((n:Int),l,r,0,eY p (bN (eP (n:Int))),eY p (bN (eP (n:Int))),(n:Int),eP (n:Int),0)):=by
  unfold eY at hd⊢;generalize bN (eP (n:Int))=L at hd⊢
  exact sA (g13 p) p (fun st : S9 => st.2.2.2.2.1) put13 400 (I13 (n : Int) l r (eP (n : Int))) (fun st s hi hs=>by
   obtain⟨h1,h2,h3,h4,h5,h6,h7⟩:=hi;unfold g13;unfold eH at hs⊢;by_cases hc:(p s&& !acc st.2.2.2.2.1 s)=true
   ·rw[if_pos hc]at hs⊢;rw[if_pos hc,if_neg (by simp at hs;omega)]
   ·rw[if_neg hc,if_neg hc];obtain⟨a1,a2,a3,a4,a5,a6,a7,a8,a9⟩:=st;dsimp only at h4;subst h4
    rfl) (fun st l hi hl=>by
   obtain⟨h1,h2,h3,h4,h5,h6,h7⟩:=hi
   exact ⟨h1, h2, h3, rfl, hl, h6, h7⟩) (fun _ _ => rfl) (fun _ _ _ => rfl) (fun st hi=>by
   obtain⟨h1,h2,h3,h4,h5,h6,h7⟩:=hi;obtain⟨a1,a2,a3,a4,a5,a6,a7,a8,a9⟩:=st;dsimp only at h4;subst h4;rfl) L ((n:Int),l,r,0,[],[],(n:Int),eP (n:Int),0) hi hd
 unfold f13;rw[xS h h0 (by omega) hl,aD,if_neg (by simp)];unfold f45;rw[aD];dsimp only;unfold f82;rw[if_neg (by simp;omega)];unfold f28;rw[aD,aC (by omega)];rw[rr]at e;dsimp only at e;rw[show((BitVec.ofInt 16 1)<<<((n:Int)).toNat)-(BitVec.ofInt 16 1)=eP (n:Int)from rfl,e,aD];dsimp only;rw[aC (by simp),if_pos rfl,aD];dsimp only;rw[aC (by simp),if_pos rfl]
/-! ### the law -/
theorem iZ {X:List Nod} {R:Int} (h:okX X R):sub (cX X) (eP (mX X))=true∧0≤mX X∧mX X≤6:=by
 obtain⟨t1,t2,_,_⟩:=wG X 0 0 (fun j n hn=>by simpa using h.1 j n hn) (by omega) (by omega);have t1':0≤mX X:=t1;have t2':mX X≤6:=t2;refine⟨cO.2 fun i hi hs=> ?_,t1',t2'⟩;have:=wO h i hs;obtain⟨n,hn⟩:∃n:Nat,mX X=(n:Int):=⟨(mX X).toNat,by omega⟩;rw[hn]at this⊢;exact(mJ n (by omega)).2.2 i (by omega)
theorem fam_X {X:List Nod} {R:Int} (h:okX X R):eY (bQ X R) (bN (eP (mX X)))=eY (bQ X R) (bN (cX X)):=xG _ (iZ h).1 (gZ h)
theorem rS {X:List Nod} {R:Int} (h:okX X R):(cX X).toNat<4096:=by
 obtain⟨h1,h2,h3⟩:=iZ h;obtain⟨n,hn⟩:∃n:Nat,mX X=(n:Int):=⟨(mX X).toNat,by omega⟩;rw[hn]at h1;exact sub_lt h1 (mJ n (by omega)).1
theorem sW {X:List Nod} {R:Int} (h:okX X R):(eY (bQ X R) (bN (cX X))).length≤64:=by
 obtain⟨h1,h2,h3⟩:=iZ h;rw[←fam_X h];obtain⟨n,hn⟩:∃n:Nat,mX X=(n:Int):=⟨(mX X).toNat,by omega⟩;rw[hn];exact Nat.le_trans (fam_len _ _) (mJ n (by omega)).2.1
theorem f8_X {X:List Nod} {R:Int} (h:okX X R):f8 X R=some (eY (bQ X R) (bN (cX X)),0):=f8_eq X R (mN h) (okE_of h) (rS h) (by have:=sW h;omega)
theorem f12_X {X:List Nod} {R:Int} (h:okX X R):f12 (eY (bQ X R) (bN (cX X)))=some (0,eY (bQ (X.map cL) R) (bN (cX (X.map cL)))):=by
 have hd:=fam_dual h;have h2:=sW (mH h);rw[f12_eq _ (okS_fam _ _ (rS h)) (by have:=sW h;omega) (by rw[hd];omega),hd]
theorem xU (x y:List (BitVec 16)) (hx:x.length≤64) (h:x=y):f14 x y=some true:=by
 rw[f14_eq x y (by omega),decide_eq_true h]
theorem f6_true :f6=some true:=by kernel_rfl
theorem f3_law (x:List Pc) (ho:∀a,a∈x→okPc a):f3 x=some true:=by
 unfold f3;rw[f6_true,aD];by_cases h20:x.length>20
 ·rw[if_pos (by simp;omega),aD]
 rw[if_neg (by simp;omega)];obtain⟨X,R,e7,hX⟩:=f7_spec x ho;have hY:=mH hX;have hZ:=mH hY;obtain⟨_,t1,t2⟩:=iZ hX;obtain⟨l,r,e9,d9,b9,v9⟩:=f9_spec hX;obtain⟨r2,l2,e11,d11,b11,v11⟩:=xV d9 t1 t2 (by omega);obtain⟨r3,l3,e12,d12,b12,v12⟩:=xV d11 t1 t2 (by omega)
 have hv:∀x,Ev l3 x r3 (bQ X R x):=fun x=>by
  have h1:=v11 (~~~x) (bQ X R x) (by rw[BitVec.not_not];exact v9 x);have h2:=v12 x _ h1;rwa [Bool.not_not]at h2
 have hF:=sW hX;have hU:=sW hY;have hFF:=fam_again hX;rw[e7,aD];dsimp only;rw[f8_X hX,aD,e9,aD,f10_eq hX,aD];dsimp only;rw[if_neg (by simp),f10_eq hY,aD,e11,aD];dsimp only;rw[e12,aD,f12_X hX,aD];dsimp only;rw[f12_X hY,aD];dsimp only;rw[if_neg (by simp),f8_X hZ,aD,f13_eq d12 t1 t2 (by omega) hv,aD,f8_X hY,aD,fam_X hX];dsimp only;rw[hFF,show((((((0:Int)==0)&&((0:Int)==0))&&((0:Int)==0))==true))=true from rfl,iG,xU _ _ hF rfl,aD];rw[show(((((((0:Int)==0)&&((0:Int)==0))&&((0:Int)==0))&&true)==true))=true from rfl,iG,aD];rw[show((((((((0:Int)==0)&&((0:Int)==0))&&((0:Int)==0))&&true)&&true)==true))=true from rfl,iG,aD];rw[show(((((((((0:Int)==0)&&((0:Int)==0))&&((0:Int)==0))&&true)&&true)&&true)==true))=true from rfl,iG,xU _ _ hU rfl,aD];rfl
end Go.Abs
