/- Part 17 of the proof: Xta, Pl, Pure1, Srt2, Fam, Fam2, FamF, PlCta, Thr19a, Chs, Cpt, Plta, Trv, Memta. -/
import Derived.Test.YtjgboohpholnbaaDoorTpagnZ16
namespace Go.Abs
open Go Go.Proofs
set_option maxRecDepth 100000
set_option maxHeartbeats 4000000
theorem f3_ok (x1:List Ty13) (r:Bool) (h:f3 x1=some r):aF Tryd.prog 3 [(0,.elem 32 1 T0F 0 0)] [] [] [.agg [vL 5 eT65 (default:Int×Int×Int×Bool×List Int) x1]] (.bool r) []:=by
 unfold f3 at h;refine aF.body 0 _ _ Tryd.func3 rfl Tryd.ntmps3 rfl rfl ?_;refine aM [] [] ⟨150,[(1,.ptr 1 0),(1000000,.elem 32 1 T0F 0 0)],[(1,.cells 24 [bJ x1])],[],0⟩ trivial ?_;refine AWp.seq (AWp.seq ?_);obtain⟨r2,hr2,h⟩:=bind_ok h;have ob0:=idA (((!r2)==false)=true);have ob1:=idA (((!r2)==false)=true);have ob2:=idA (((!r2)==false)=true);have ob3:=bqA (!r2) false;refine aR [] [(0,⟨[],[],[],[],.bool r2,[],[],[0]⟩)] ⟨150,[(1,.ptr 1 0),(33,.bool ((!r2)||(decide ((lZ x1)>(20:Int))))),(1000000,.elem 32 1 T0F 0 0)],[(1,.cells 24 [bJ x1])],[],0⟩ (an5 (cpT (f6_ok _ hr2)) (an1 ob0) (an1 ob1) (an1 ob2) ob3) ?_;refine tN ?_;refine AWp.cond (b:=((!r2)||(decide ((lZ x1)>(20:Int))))) (by kernel_rfl) (fun hc1=> ?_) (fun hc1=> ?_)
 ·
  replace h:=aK hc1 h;refine AWp.seq ?_;obtain⟨r3,hr3,h⟩:=bind_ok h;refine aR [] [(0,⟨[],[],[],[],.bool r3,[],[],[0]⟩)] ⟨150,[(2,.bool r3),(1000000,.elem 32 1 T0F 0 0)],[],[],0⟩ (an1 (cpT (f6_ok _ hr3))) ?_;refine tN ?_;have hret:=Option.some.inj h;subst hret;refine AWp.le (Le.mk (s':=⟨150,[(2,.bool r3)],[],[],0⟩) rfl rfl ⟨.refl _,trivial⟩ trivial) ?_;refine AWp.ret (tR ?_);exact bR _ rfl ⟨rfl,rfl⟩ rfl
 ·
  replace h:=aL hc1 h;refine AWp.skip (tN (AWp.seq ?_));obtain⟨r4,hr4,h⟩:=bind_ok h;refine aR [] [(1,⟨[.agg [bJ x1]],[],[],[(6001,aI r4.2)],.agg [.own 6001,.i r4.1],[6001],[],[]⟩)] ⟨150,[(3,.ptr 3 0),(1000000,.elem 32 1 T0F 0 0)],[(3,.cells 28 [.own 6001,.i r4.1]),(6001,aI r4.2)],[],0⟩ (an2 (cpT (aF.ren (aW 3000 6001) (aE 3000 6001) rfl (f7_ok _ _ hr4))) trivial) ?_;refine tN (AWp.seq ?_);refine AWp.le (Le.trans (Le.freeze 6001 rfl rfl) (Le.mk (s':=⟨150,[(3,.ptr 3 0),(1000000,.elem 32 1 T0F 0 0)],[(3,.cells 28 (f3z6 r4))],[],0⟩) rfl rfl ⟨.refl _,.refl _,trivial⟩ ⟨⟨_,rfl,.refl _⟩,trivial⟩)) ?_;obtain⟨r5,hr5,h⟩:=bind_ok h;refine aR [] [(1,⟨[.agg (f3z6 r4)],[],[],[],.tup [aZ r5.1,.i r5.2],[],[],[0]⟩)] ⟨150,[(3,.ptr 3 0),(4,aZ r5.1),(5,.i r5.2),(1000000,.elem 32 1 T0F 0 0)],[(3,.cells 28 (f3z6 r4))],[],0⟩ (an1 (cpT (f8_ok _ _ _ hr5))) ?_;refine tN (AWp.seq ?_);obtain⟨r6,hr6,h⟩:=bind_ok h;refine aR [] [(1,⟨[.agg (f3z6 r4)],[],[],[],.tup [.agg (f3z5 r6),.i r6.2.2.2],[],[],[]⟩)] ⟨150,[(3,.ptr 3 0),(4,aZ r5.1),(5,.i r5.2),(6,.ptr 6 0),(7,.i r6.2.2.2),(1000000,.elem 32 1 T0F 0 0)],[(3,.cells 28 (f3z6 r4)),(6,.cells 36 (f3z5 r6))],[],0⟩ (an2 (cpT (f9_ok _ _ _ hr6)) trivial) ?_;refine tN (AWp.seq ?_);obtain⟨r7,hr7,h⟩:=bind_ok h;refine aR [] [(1,⟨[.agg (f3z6 r4)],[],[],[],.tup [.agg (zN r7),.i r7.2.2],[],[],[]⟩)] ⟨150,[(4,aZ r5.1),(5,.i r5.2),(6,.ptr 6 0),(7,.i r6.2.2.2),(8,.ptr 8 0),(9,.i r7.2.2),(1000000,.elem 32 1 T0F 0 0)],[(6,.cells 36 (f3z5 r6)),(8,.cells 28 (zN r7))],[],0⟩ (an2 (cpT (f10_ok _ _ _ hr7)) trivial) ?_;refine tN (AWp.seq (AWp.seq ?_));have ob4:=idA (((r5.2 !=(0:Int))==false)=true);have ob5:=bqA (r5.2 !=(0:Int)) false;have ob6:=idA (((f3z7 r5 r6)==false)=true);have ob7:=bqA (f3z7 r5 r6) false;refine aR [] [] ⟨150,[(4,aZ r5.1),(6,.ptr 6 0),(8,.ptr 8 0),(61,.bool ((f3z7 r5 r6)||(r7.2.2 !=(0:Int)))),(1000000,.elem 32 1 T0F 0 0)],[(6,.cells 36 (f3z5 r6)),(8,.cells 28 (zN r7))],[],0⟩ (an4 (an1 ob4) ob5 (an1 ob6) ob7) ?_;refine tN ?_;refine AWp.cond (b:=((f3z7 r5 r6)||(r7.2.2 !=(0:Int)))) (by kernel_rfl) (fun hc2=> ?_) (fun hc2=> ?_)
  ·
   replace h:=aK hc2 h;refine aM [] [] ⟨150,[(2,.bool false),(1000000,.elem 32 1 T0F 0 0)],[],[],0⟩ trivial ?_;have hret:=Option.some.inj h;subst hret;refine AWp.le (Le.mk (s':=⟨150,[(2,.bool false)],[],[],0⟩) rfl rfl ⟨.refl _,trivial⟩ trivial) ?_;refine AWp.ret (tR ?_);exact bR _ rfl ⟨rfl,rfl⟩ rfl
  ·
   replace h:=aL hc2 h;refine AWp.skip (tN (AWp.seq ?_));obtain⟨r8,hr8,h⟩:=bind_ok h;refine aR [] [(1,⟨[.agg (zN r7)],[],[],[],.tup [.agg (f3z2 r8),.i r8.2.2],[],[],[]⟩)] ⟨150,[(4,aZ r5.1),(6,.ptr 6 0),(8,.ptr 8 0),(10,.ptr 10 0),(11,.i r8.2.2),(1000000,.elem 32 1 T0F 0 0)],[(6,.cells 36 (f3z5 r6)),(8,.cells 28 (zN r7)),(10,.cells 28 (f3z2 r8))],[],0⟩ (an2 (cpT (f10_ok _ _ _ hr8)) trivial) ?_;refine tN (AWp.seq ?_);obtain⟨r9,hr9,h⟩:=bind_ok h;refine aR [] [(1,⟨[.agg (f3z5 r6)],[],[],[],.tup [.agg (f3z8 r9),.i r9.2.2.2],[],[],[]⟩)] ⟨150,[(4,aZ r5.1),(8,.ptr 8 0),(10,.ptr 10 0),(11,.i r8.2.2),(12,.ptr 12 0),(13,.i r9.2.2.2),(1000000,.elem 32 1 T0F 0 0)],[(8,.cells 28 (zN r7)),(10,.cells 28 (f3z2 r8)),(12,.cells 36 (f3z8 r9))],[],0⟩ (an2 (cpT (f11_ok _ _ _ _ hr9)) trivial) ?_;refine tN (AWp.seq ?_);obtain⟨r10,hr10,h⟩:=bind_ok h;refine aR [] [(1,⟨[.agg (f3z8 r9)],[],[],[],.tup [.agg (f3z4 r10),.i r10.2.2.2],[],[],[]⟩)] ⟨150,[(4,aZ r5.1),(8,.ptr 8 0),(10,.ptr 10 0),(11,.i r8.2.2),(13,.i r9.2.2.2),(14,.ptr 14 0),(15,.i r10.2.2.2),(1000000,.elem 32 1 T0F 0 0)],[(8,.cells 28 (zN r7)),(10,.cells 28 (f3z2 r8)),(14,.cells 36 (f3z4 r10))],[],0⟩ (an2 (cpT (f11_ok _ _ _ _ hr10)) trivial) ?_;refine tN (AWp.seq ?_);obtain⟨r11,hr11,h⟩:=bind_ok h;refine aR [] [(1,⟨[aZ r5.1],[],[],[(6002,aA r11.2)],.tup [.own 6002,.i r11.1],[6002],[],[0]⟩)] ⟨150,[(4,aZ r5.1),(8,.ptr 8 0),(10,.ptr 10 0),(11,.i r8.2.2),(13,.i r9.2.2.2),(14,.ptr 14 0),(15,.i r10.2.2.2),(16,.own 6002),(17,.i r11.1),(1000000,.elem 32 1 T0F 0 0)],[(8,.cells 28 (zN r7)),(10,.cells 28 (f3z2 r8)),(14,.cells 36 (f3z4 r10)),(6002,aA r11.2)],[],0⟩ (an1 (cpT (aF.ren (aW 3000 6002) (aE 3000 6002) rfl (f12_ok _ _ hr11)))) ?_;refine tN (AWp.seq ?_);obtain⟨r12,hr12,h⟩:=bind_ok h;refine aR [] [(1,⟨[aZ r11.2],[],[],[(6003,aA r12.2)],.tup [.own 6003,.i r12.1],[6003],[6002],[0]⟩)] ⟨150,[(4,aZ r5.1),(8,.ptr 8 0),(10,.ptr 10 0),(11,.i r8.2.2),(13,.i r9.2.2.2),(14,.ptr 14 0),(15,.i r10.2.2.2),(16,.own 6002),(17,.i r11.1),(18,.own 6003),(19,.i r12.1),(1000000,.elem 32 1 T0F 0 0)],[(8,.cells 28 (zN r7)),(10,.cells 28 (f3z2 r8)),(14,.cells 36 (f3z4 r10)),(6002,aA r11.2),(6003,aA r12.2)],[],0⟩ (an1 (cpL (c:=true) [(6002,aA r11.2)] [6002] [.own 6002] (fun _=>(aF.ren (aW 3000 6003) (aE 3000 6003) rfl (f12_ok _ _ hr12))) (fun _=>⟨.refl _,trivial⟩) (.inr ⟨rfl,⟨(fun _ _ _ _=>eW_flat _ _),trivial⟩⟩))) ?_;refine tN (AWp.seq (AWp.seq ?_));have ob8:=idA (((r8.2.2 !=(0:Int))==false)=true);have ob9:=bqA (r8.2.2 !=(0:Int)) false;have ob10:=idA ((((r8.2.2 !=(0:Int))||(r9.2.2.2 !=(0:Int)))==false)=true);have ob11:=bqA ((r8.2.2 !=(0:Int))||(r9.2.2.2 !=(0:Int))) false;have ob12:=idA (((f3z3 r8 r9 r10)==false)=true);have ob13:=bqA (f3z3 r8 r9 r10) false;have ob14:=idA ((((f3z3 r8 r9 r10)||(r11.1 !=(0:Int)))==false)=true);have ob15:=bqA ((f3z3 r8 r9 r10)||(r11.1 !=(0:Int))) false;refine aR [] [] ⟨150,[(4,aZ r5.1),(8,.ptr 8 0),(10,.ptr 10 0),(14,.ptr 14 0),(16,.own 6002),(18,.own 6003),(104,.bool (((f3z3 r8 r9 r10)||(r11.1 !=(0:Int)))||(r12.1 !=(0:Int)))),(1000000,.elem 32 1 T0F 0 0)],[(8,.cells 28 (zN r7)),(10,.cells 28 (f3z2 r8)),(14,.cells 36 (f3z4 r10)),(6002,aA r11.2),(6003,aA r12.2)],[],0⟩ (ac6 (an1 ob8) ob9 (an1 ob10) ob11 (an1 ob12) ob13 (an2 (an1 ob14) ob15)) ?_;refine tN ?_;refine AWp.cond (b:=(((f3z3 r8 r9 r10)||(r11.1 !=(0:Int)))||(r12.1 !=(0:Int)))) (by kernel_rfl) (fun hc3=> ?_) (fun hc3=> ?_)
   ·
    replace h:=aK hc3 h;refine aM [] [] ⟨150,[(2,.bool false),(1000000,.elem 32 1 T0F 0 0)],[],[],0⟩ trivial ?_;have hret:=Option.some.inj h;subst hret;refine AWp.le (Le.mk (s':=⟨150,[(2,.bool false)],[],[],0⟩) rfl rfl ⟨.refl _,trivial⟩ trivial) ?_;refine AWp.ret (tR ?_);exact bR _ rfl ⟨rfl,rfl⟩ rfl
   ·
    replace h:=aL hc3 h;refine AWp.skip (tN (AWp.seq ?_));obtain⟨r13,hr13,h⟩:=bind_ok h;refine aR [] [(1,⟨[.agg (f3z2 r8)],[],[],[],.tup [aZ r13.1,.i r13.2],[],[],[0]⟩)] ⟨150,[(4,aZ r5.1),(8,.ptr 8 0),(14,.ptr 14 0),(16,.own 6002),(18,.own 6003),(20,aZ r13.1),(21,.i r13.2),(1000000,.elem 32 1 T0F 0 0)],[(8,.cells 28 (zN r7)),(14,.cells 36 (f3z4 r10)),(6002,aA r11.2),(6003,aA r12.2)],[],0⟩ (an1 (cpT (f8_ok _ _ _ hr13))) ?_;refine tN (AWp.seq ?_);obtain⟨r14,hr14,h⟩:=bind_ok h;refine aR [] [(1,⟨[.agg (f3z4 r10)],[],[],[],.tup [aZ r14.1,.i r14.2],[],[],[0]⟩)] ⟨150,[(4,aZ r5.1),(8,.ptr 8 0),(16,.own 6002),(18,.own 6003),(20,aZ r13.1),(21,.i r13.2),(22,aZ r14.1),(23,.i r14.2),(1000000,.elem 32 1 T0F 0 0)],[(8,.cells 28 (zN r7)),(6002,aA r11.2),(6003,aA r12.2)],[],0⟩ (an1 (cpT (f13_ok _ _ _ _ hr14))) ?_;refine tN (AWp.seq ?_);obtain⟨r15,hr15,h⟩:=bind_ok h;refine aR [] [(1,⟨[.agg (zN r7)],[],[],[],.tup [aZ r15.1,.i r15.2],[],[],[0]⟩)] ⟨150,[(4,aZ r5.1),(16,.own 6002),(18,.own 6003),(20,aZ r13.1),(21,.i r13.2),(22,aZ r14.1),(23,.i r14.2),(24,aZ r15.1),(25,.i r15.2),(1000000,.elem 32 1 T0F 0 0)],[(6002,aA r11.2),(6003,aA r12.2)],[],0⟩ (an1 (cpT (f8_ok _ _ _ hr15))) ?_;refine tN (AWp.seq ?_);obtain⟨r16,hr16,h⟩:=cP h;obtain⟨r17,hr17,h⟩:=cP h;obtain⟨r18,hr18,h⟩:=cP h;obtain⟨r19,hr19,h⟩:=cP h;have ob16:=idA (((r13.2==(0:Int))==true)=true);have ob17:=bqA (r13.2==(0:Int)) true;have ob18:=idA ((((r13.2==(0:Int))&&(r14.2==(0:Int)))==true)=true);have ob19:=bqA ((r13.2==(0:Int))&&(r14.2==(0:Int))) true;have ob20:=idA (((xR r13 r14 r15)==true)=true);have ob21:=idA (((xR r13 r14 r15)==true)=true);have ob22:=bqA (xR r13 r14 r15) true;have ob23:=idA ((((xR r13 r14 r15)&&r16)==true)=true);have ob24:=idA ((((xR r13 r14 r15)&&r16)==true)=true);have ob25:=bqA ((xR r13 r14 r15)&&r16) true;have ob26:=idA (((((xR r13 r14 r15)&&r16)&&r17)==true)=true);have ob27:=idA (((((xR r13 r14 r15)&&r16)&&r17)==true)=true);have ob28:=bqA (((xR r13 r14 r15)&&r16)&&r17) true;have ob29:=idA ((((((xR r13 r14 r15)&&r16)&&r17)&&r18)==true)=true);have ob30:=idA ((((((xR r13 r14 r15)&&r16)&&r17)&&r18)==true)=true);have ob31:=bqA ((((xR r13 r14 r15)&&r16)&&r17)&&r18) true;refine aR [] [(13,⟨[aZ r12.2,aZ r5.1],[],[],[],.bool r16,[],[6003],[]⟩),(18,⟨[aZ r13.1,aZ r5.1],[],[],[],.bool r17,[],[],[]⟩),(23,⟨[aZ r14.1,aZ r5.1],[],[],[],.bool r18,[],[],[]⟩),(28,⟨[aZ r15.1,aZ r11.2],[],[],[],.bool r19,[],[6002],[]⟩)] ⟨150,[(2,.bool (((((xR r13 r14 r15)&&r16)&&r17)&&r18)&&r19)),(1000000,.elem 32 1 T0F 0 0)],[],[],0⟩ (ac6 (an1 ob16) ob17 (an1 ob18) ob19 (And.intro (cpL [(6003,aA r12.2)] [6003] [.own 6003,aZ r5.1] (fun hc=>(uE _ _ _ (hr16 hc))) (fun _=>⟨.refl _,.refl _,trivial⟩) (.inr ⟨rfl,trivial⟩)) (an2 ob20 ob21)) ob22 (an6 (And.intro (cpC fun hc=>(uE _ _ _ (hr17 hc))) (an2 ob23 ob24)) ob25 (And.intro (cpC fun hc=>(uE _ _ _ (hr18 hc))) (an2 ob26 ob27)) ob28 (And.intro (cpL [(6002,aA r11.2)] [6002] [aZ r15.1,.own 6002] (fun hc=>(uE _ _ _ (hr19 hc))) (fun _=>⟨.refl _,.refl _,trivial⟩) (.inr ⟨rfl,trivial⟩)) (an2 ob29 ob30)) ob31)) ?_;refine tN ?_;have hret:=Option.some.inj h;subst hret;refine AWp.le (Le.mk (s':=⟨150,[(2,.bool (((((xR r13 r14 r15)&&r16)&&r17)&&r18)&&r19))],[],[],0⟩) rfl rfl ⟨.refl _,trivial⟩ trivial) ?_;refine AWp.ret ?_;exact bR _ rfl ⟨rfl,rfl⟩ rfl
end Go.Abs
namespace Go.Abs
theorem aC {p:Prop} [Decidable p] {α:Type} {x:Option α} (h:p):chk p x=x:=if_pos h
theorem cG {p:Prop} [Decidable p] {α:Type} {x y:α} (h:p):(if decide p=true then x else y)=x:=if_pos (decide_eq_true h)
theorem cH {p:Prop} [Decidable p] {α:Type} {x y:α} (h:¬p):(if decide p=true then x else y)=y:=if_neg (by simpa using h)
theorem cD {α β:Type} (K:α→Option β) (x:(α→Option β)→Option β):jn K x=x K:=rfl
theorem iG {α β:Type} [Inhabited α] {x:Option α} {k:α→Option β}:rI true x k=x.bind k:=rfl
theorem aD {α β:Type} (a:α) (f:α→Option β):(some a).bind f=f a:=rfl
theorem abc_eq {α:Type} [DecidableEq α] {q:Prop} [Decidable q] {x y:Option α} (h:q→x=y):abc q x y=y:=by
 unfold abc both;split
 ·rename_i hq;rw[h hq];simp
 ·rfl
theorem fuel_lt {n:Nat} (h:n≤18446744073709551615):n<bG:=by unfold bG;omega
theorem getD_drop {α:Type} (x:List α) (n:Nat) (d:α) (h:n<x.length):x.drop n=x.getD n d::x.drop (n+1):=by
 rw[List.drop_eq_getElem_cons h];simp[List.getD_eq_getElem?_getD,h]
theorem fold_up {α S R:Type} (L:Nat→Nat×S→Option R) (x:List α) (d:α) (Inv:Nat→S→Prop) (g:S→α→S) (K:S→Option R)
  (h:∀k n s,n<x.length→Inv n s→L (k+1) (n,s)=L k (n+1,g s (x.getD n d)))
  (hI:∀n s,n<x.length→Inv n s→Inv (n+1) (g s (x.getD n d)))
  (he:∀k s,Inv x.length s→L (k+1) (x.length,s)=K s):∀c k n s,n+c=x.length→c<k→Inv n s→L k (n,s)=K ((x.drop n).foldl g s)
 |0,k,n,s,hn,hk,hi=>by
  obtain⟨k,rfl⟩:∃q,k=q+1:=⟨k-1,by omega⟩
  obtain rfl:n=x.length:=by omega
  rw[he k s hi,List.drop_eq_nil_of_le (Nat.le_refl _)];rfl
 |c+1,k,n,s,hn,hk,hi=>by
  obtain⟨k,rfl⟩:∃q,k=q+1:=⟨k-1,by omega⟩
  have hlt:n<x.length:=by omega
  rw[h k n s hlt hi,getD_drop x n d hlt]
  exact fold_up L x d Inv g K h hI he c k (n+1) _ (by omega) (by omega) (hI n s hlt hi)
theorem find_up {α R:Type} (L:Nat→Nat→Option R) (x:List α) (d:α) (p:α→Bool) (r:Nat→Option R) (K:Option R)
  (h:∀k n,n<x.length→L (k+1) n=if p (x.getD n d)=true then r n else L k (n+1))
  (he:∀k,L (k+1) x.length=K):∀c k n,n+c=x.length→c<k→
   (∃m,n≤m∧m<x.length∧p (x.getD m d)=true∧L k n=r m∧(x.drop n).any p=true)∨(L k n=K∧(x.drop n).any p=false)
 |0,k,n,hn,hk=>by
  obtain⟨k,rfl⟩:∃q,k=q+1:=⟨k-1,by omega⟩
  obtain rfl:n=x.length:=by omega
  exact .inr ⟨he k,by rw[List.drop_eq_nil_of_le (Nat.le_refl _)];rfl⟩
 |c+1,k,n,hn,hk=>by
  obtain⟨k,rfl⟩:∃q,k=q+1:=⟨k-1,by omega⟩
  have hlt:n<x.length:=by omega
  rw[h k n hlt,getD_drop x n d hlt]
  by_cases hp:p (x.getD n d)=true
  ·rw[if_pos hp];exact .inl ⟨n,Nat.le_refl _,hlt,hp,rfl,by rw[List.any_cons,hp];rfl⟩
  ·rw[if_neg hp]
   have hp':p (x.getD n d)=false:=by simpa using hp
   rw[List.any_cons,hp',Bool.false_or]
   rcases find_up L x d p r K h he c k (n+1) (by omega) (by omega)with⟨m,h1,h2⟩|h2
   ·exact .inl ⟨m,by omega,h2⟩
   ·exact .inr h2
end Go.Abs
namespace Go.Abs
def iK (n:Nat):Nat→Nat→Nat
 |_,0=>0
 |i,c+1=>n/2^i%2+iK n (i+1) c
def sz (x:BitVec 16):Nat:=iK x.toNat 0 16
theorem bsum_lo (n:Nat):iK (n%256) 0 8=iK n 0 8:=by
 have h0:n%256/2^0%2=n/2^0%2:=by omega
 have h1:n%256/2^1%2=n/2^1%2:=by omega
 have h2:n%256/2^2%2=n/2^2%2:=by omega
 have h3:n%256/2^3%2=n/2^3%2:=by omega
 have h4:n%256/2^4%2=n/2^4%2:=by omega
 have h5:n%256/2^5%2=n/2^5%2:=by omega
 have h6:n%256/2^6%2=n/2^6%2:=by omega
 have h7:n%256/2^7%2=n/2^7%2:=by omega
 simp only[iK,h0,h1,h2,h3,h4,h5,h6,h7]
theorem bsum_hi (n m:Nat):∀c i,iK (n/2^m) i c=iK n (m+i) c
 |0,i=>rfl
 |c+1,i=>by
  simp only[iK,bsum_hi n m c (i+1)]
  rw[Nat.div_div_eq_div_mul,←Nat.pow_add]
  rfl
theorem yA (n:Nat):∀c i d,iK n i (c+d)=iK n i c+iK n (i+c) d
 |0,i,d=>by simp[iK]
 |c+1,i,d=>by
  rw[show c+1+d=(c+d)+1 by omega]
  simp only[iK,yA n c (i+1) d]
  rw[show i+1+c=i+(c+1) by omega];omega
theorem zT (n:Nat):iK (n/256) 0 8+iK (n%256) 0 8=iK n 0 16:=by
 have h:=yA n 8 0 8;have h2:=bsum_hi n 8 8 0;rw[bsum_lo];simp only[Nat.reducePow,Nat.reduceAdd]at h h2⊢;omega
theorem rB (n:Nat):∀c i,iK n i c≤c
 |0,i=>Nat.le_refl _
 |c+1,i=>by
  have:=rB n c (i+1)
  have hb:n/2^i%2<2:=Nat.mod_lt _ (by decide)
  simp only[iK];omega
def pop8 :List UInt8:=[0,1,1,2,1,2,2,3,1,2,2,3,2,3,3,4,1,2,2,3,2,3,3,4,2,3,3,4,3,4,4,5,1,2,2,3,2,3,3,4,2,3,3,4,3,4,4,5,2,3,3,4,3,4,4,5,3,4,4,5,4,5,5,6,1,2,2,3,2,3,3,4,2,3,3,4,3,4,4,5,2,3,3,4,3,4,4,5,3,4,4,5,4,5,5,6,2,3,3,4,3,4,4,5,3,4,4,5,4,5,5,6,3,4,4,5,4,5,5,6,4,5,5,6,5,6,6,7,1,2,2,3,2,3,3,4,2,3,3,4,3,4,4,5,2,3,3,4,3,4,4,5,3,4,4,5,4,5,5,6,2,3,3,4,3,4,4,5,3,4,4,5,4,5,5,6,3,4,4,5,4,5,5,6,4,5,5,6,5,6,6,7,2,3,3,4,3,4,4,5,3,4,4,5,4,5,5,6,3,4,4,5,4,5,5,6,4,5,5,6,5,6,6,7,3,4,4,5,4,5,5,6,4,5,5,6,5,6,6,7,4,5,5,6,5,6,6,7,5,6,6,7,6,7,7,8]
theorem pop8_all :(List.range 256).all (fun b=>(pop8.getD b 0).toNat==iK b 0 8)=true:=by decide+kernel
theorem pop8_at (b:Nat) (h:b<256):(pop8.getD b 0).toNat=iK b 0 8:=by
 have:=List.all_eq_true.1 pop8_all b (List.mem_range.2 h);simpa using this
def cmpI (a b:Int):Int:=if a<b then-1 else if a>b then 1 else 0
def ltS (a b:BitVec 16):Bool:=if sz a≠sz b then decide (sz a<sz b)else decide (a.toNat<b.toNat)
def key (x:BitVec 16):Nat:=sz x *65536+x.toNat
theorem ltS_key {a b:BitVec 16}:ltS a b=true↔key a<key b:=by
 have ha:=a.isLt;have hb:=b.isLt;unfold ltS key;by_cases h:sz a=sz b
 ·simp[h]
 ·simp only[ne_eq,h,not_false_eq_true,if_true,decide_eq_true_eq];omega
def cmpS (a b:BitVec 16):Int:=if cmpI (sz a) (sz b)≠0 then cmpI (sz a) (sz b)else cmpI a.toNat b.toNat
theorem cmpS_lt (a b:BitVec 16):decide (cmpS a b<0)=ltS a b:=by
 unfold cmpS cmpI ltS;by_cases h:sz a=sz b
 ·simp[h];by_cases h2:a.toNat<b.toNat
  ·simp[h2]
  ·simp[h2];split<;>omega
 ·by_cases h1:sz a<sz b
  ·simp[h,h1]
  ·have:sz b<sz a:=by omega
   simp[h,h1,this]
end Go.Abs
namespace Go.Abs
section
variable {α:Type}
def insK (k:α→Nat) (a:α):List α→List α
 |[]=>[a]
 |b::l=>if k a≤k b then a::b::l else b::insK k a l
def wZ (k:α→Nat):List α→List α
 |[]=>[]
 |a::l=>insK k a (wZ k l)
variable {k:α→Nat}
theorem nQ (a:α):∀l,(insK k a l).Perm (a::l)
 |[]=> .refl _
 |b::l=>by
  unfold insK
  split
  ·exact .refl _
  ·exact((nQ a l).cons b).trans (.swap ..)
theorem nO :∀l,(wZ k l).Perm l
 |[]=> .refl _
 |a::l=>(nQ a _).trans ((nO l).cons a)
theorem nP (a:α):∀l,l.Pairwise (fun x y=>k x≤k y)→(insK k a l).Pairwise fun x y=>k x≤k y
 |[],_=>by simp[insK]
 |b::l,h=>by
  unfold insK
  rw[List.pairwise_cons]at h
  split
  ·rename_i hab
   refine List.pairwise_cons.2 ⟨fun x hx=> ?_,List.pairwise_cons.2 h⟩
   rcases List.mem_cons.1 hx with rfl|hx
   ·exact hab
   ·exact Nat.le_trans hab (h.1 x hx)
  ·rename_i hab
   refine List.pairwise_cons.2 ⟨fun x hx=> ?_,nP a l h.2⟩
   rcases List.mem_cons.1 ((nQ a l).mem_iff.1 hx)with rfl|hx
   ·omega
   ·exact h.1 x hx
theorem jD :∀l,(wZ k l).Pairwise fun x y=>k x≤k y
 |[]=> .nil
 |a::l=>nP a _ (jD l)
end
end Go.Abs
namespace Go.Abs
def sub (y x:BitVec 16):Bool:=(y&&& ~~~x)==0#16
theorem uR {m n:Nat}:∀(c i:Nat),(∀j,i≤j→j<i+c→m/2^j%2≤n/2^j%2)→iK m i c≤iK n i c∧(iK m i c=iK n i c→∀j,i≤j→j<i+c→m/2^j%2=n/2^j%2)
 |0,i,_=>⟨Nat.le_refl _,fun _ j h1 h2=>by omega⟩
 |c+1,i,h=>by
  obtain⟨h1,h2⟩:=uR c (i+1) fun j a b=>h j (by omega) (by omega)
  have h3:=h i (Nat.le_refl _) (by omega)
  simp only[iK]
  refine⟨by omega,fun e j a b=> ?_⟩
  by_cases hj:j=i
  ·subst hj;omega
  ·exact h2 (by omega) j (by omega) (by omega)
theorem pY {x y:BitVec 16} (h:sub y x=true) (j:Nat) (hj:j<16):y.toNat/2^j%2≤x.toNat/2^j%2:=by
 unfold sub at h;rw[beq_iff_eq]at h;have h1:=congrArg (fun z=>z.getLsbD j) h;simp[hj]at h1;have hy:y[j]=y.toNat.testBit j:=rfl;have hx:x[j]=x.toNat.testBit j:=rfl;rw[hy,hx]at h1;rw[Nat.testBit_eq_decide_div_mod_eq,Nat.testBit_eq_decide_div_mod_eq]at h1;simp at h1;have a:=Nat.mod_lt (y.toNat/2^j) (show 0<2 by decide);have b:=Nat.mod_lt (x.toNat/2^j) (show 0<2 by decide);omega
theorem sub_sz {x y:BitVec 16} (h:sub y x=true):sz y≤sz x∧(sz y=sz x→y=x):=by
 obtain⟨h1,h2⟩:=uR (m:=y.toNat) (n:=x.toNat) 16 0 fun j _ hj=>pY h j (by omega);refine⟨h1,fun e=> ?_⟩;apply BitVec.eq_of_toNat_eq;apply Nat.eq_of_testBit_eq;intro i;by_cases hi:i<16
 ·rw[Nat.testBit_eq_decide_div_mod_eq,Nat.testBit_eq_decide_div_mod_eq,h2 e i (by omega) (by omega)]
 ·rw[Nat.testBit_lt_two_pow (Nat.lt_of_lt_of_le y.isLt (Nat.pow_le_pow_right (n:=2) (by decide) (by omega))),Nat.testBit_lt_two_pow (Nat.lt_of_lt_of_le x.isLt (Nat.pow_le_pow_right (n:=2) (by decide) (by omega)))]
theorem cO {x y:BitVec 16}:sub y x=true↔∀i,i<16→y.getLsbD i=true→x.getLsbD i=true:=by
 unfold sub;rw[beq_iff_eq];constructor
 ·intro h i hi hy;have h1:=congrArg (fun z=>z.getLsbD i) h;rw[BitVec.getLsbD_eq_getElem hi]at hy⊢;simp[hi]at h1;exact h1 hy
 ·intro h;apply BitVec.eq_of_getLsbD_eq;intro i hi;have:=h i hi;simp only[BitVec.getLsbD_eq_getElem hi]at this;simp[hi];exact this
theorem pX (x:BitVec 16):sub x x=true:=cO.2 fun _ _ h=>h
theorem dE {x y z:BitVec 16} (h1:sub x y=true) (h2:sub y z=true):sub x z=true:=cO.2 fun i hi h=>cO.1 h2 i hi (cO.1 h1 i hi h)
theorem uX {x y:BitVec 16} (h:sub y x=true) (hne:y≠x):key y<key x:=by
 obtain⟨h1,h2⟩:=sub_sz h;have:sz y≠sz x:=fun e=>hne (h2 e);have hy:=y.isLt;unfold key;omega
theorem qK {x y:BitVec 16} (h:key x=key y):x=y:=by
 have h1:=x.isLt;have h2:=y.isLt;unfold key at h;exact BitVec.eq_of_toNat_eq (by omega)
def ddS {α:Type} [DecidableEq α] (acc:List α) (a:α):List α:=if acc.getLast? =some a then acc else acc++[a]
def dd {α:Type} [DecidableEq α] (l:List α):List α:=l.foldl ddS []
section
variable {α:Type} [DecidableEq α]
theorem dd_snoc (l:List α) (a:α):dd (l++[a])=ddS (dd l) a:=by simp[dd]
theorem dd_mem (a:α):∀l:List α,a∈dd l↔a∈l:=by
 suffices H:∀(l acc:List α),a∈l.foldl ddS acc↔a∈acc∨a∈l by intro l;simpa[dd]using H l []
 intro l
 induction l with
 |nil=>intro acc;simp
 |cons b l ih=>
  intro acc;rw[List.foldl_cons,ih]
  have:a∈ddS acc b↔a∈acc∨a=b:=by
   unfold ddS;split
   ·rename_i h;have:=List.mem_of_getLast? h;constructor
    ·exact .inl
    ·rintro(h|rfl)
     ·exact h
     ·exact this
   ·simp
  rw[this,List.mem_cons];constructor
  ·rintro((h|h)|h)<;>simp[h]
  ·rintro(h|h|h)<;>simp[h]
end
theorem dX {α:Type} {R:α→α→Prop} {l:List α} {a:α}:(l++[a]).Pairwise R↔l.Pairwise R∧∀b∈l,R b a:=by
 rw[List.pairwise_append];simp
theorem uN {α:Type} [DecidableEq α] {k:α→Nat} (inj:∀x y,k x=k y→x=y):∀n (l:List α),l.length=n→l.Pairwise (fun x y=>k x≤k y)→(dd l).Pairwise fun x y=>k x<k y
 |0,l,hn,_=>by rw[List.length_eq_zero_iff.1 hn];exact .nil
 |n+1,l,hn,h=>by
  rcases List.eq_nil_or_concat l with rfl|⟨l',a,rfl⟩
  ·exact .nil
  rw[List.concat_eq_append]at h hn⊢
  rw[dX]at h
  have ih:=uN inj n l' (by simpa using hn) h.1
  rw[dd_snoc]
  unfold ddS
  split
  ·exact ih
  ·rename_i hne
   refine dX.2 ⟨ih,fun b hb=> ?_⟩
   have hb':=(dd_mem b l').1 hb
   have hle:=h.2 b hb'
   rcases Nat.lt_or_ge (k b) (k a)with h1|h1
   ·exact h1
   ·exfalso
    have hba:b=a:=inj _ _ (by omega)
    subst hba
    -- the last one is not less than b
    apply hne
    cases hl:(dd l').getLast? with
    |none=>rw[List.getLast?_eq_none_iff.1 hl]at hb;cases hb
    |some c=>
     obtain⟨p,hp⟩:=List.getLast?_eq_some_iff.1 hl
     rw[hp]at hb ih
     rcases List.mem_append.1 hb with h3|h3
     ·have h4:=(dX.1 ih).2 b h3
      have h5:c∈l':=(dd_mem c l').1 (by rw[hp];simp)
      have:=h.2 c h5
      omega
     ·simp at h3;rw[h3]
theorem iQ {α:Type} {k:α→Nat} (inj:∀x y,k x=k y→x=y):∀l1 l2:List α,(∀a,a∈l1↔a∈l2)→l1.Pairwise (fun x y=>k x<k y)→l2.Pairwise (fun x y=>k x<k y)→l1=l2
 |[],[],_,_,_=>rfl
 |[],b::l2,h,_,_=>by have:=(h b).2 (List.mem_cons_self ..);cases this
 |a::l1,[],h,_,_=>by have:=(h a).1 (List.mem_cons_self ..);cases this
 |a::l1,b::l2,h,h1,h2=>by
  rw[List.pairwise_cons]at h1 h2
  have e:a=b:=by
   rcases List.mem_cons.1 ((h a).1 (List.mem_cons_self ..))with e|ha
   ·exact e
   ·rcases List.mem_cons.1 ((h b).2 (List.mem_cons_self ..))with e|hb
    ·exact e.symm
    ·have:=h1.1 b hb;have:=h2.1 a ha;omega
  subst e
  rw[iQ inj l1 l2 (fun c=> ?_) h1.2 h2.2]
  have:=h c
  constructor
  ·intro hc
   rcases List.mem_cons.1 (this.1 (List.mem_cons_of_mem _ hc))with rfl|h3
   ·have:=h1.1 c hc;omega
   ·exact h3
  ·intro hc
   rcases List.mem_cons.1 (this.2 (List.mem_cons_of_mem _ hc))with rfl|h3
   ·have:=h2.1 c hc;omega
   ·exact h3
def srt (l:List (BitVec 16)):List (BitVec 16):=dd (wZ key l)
theorem kE (l:List (BitVec 16)):(srt l).Pairwise fun x y=>key x<key y:=uN (fun _ _=>qK) _ _ rfl (jD l)
theorem qH (a:BitVec 16) (l:List (BitVec 16)):a∈srt l↔a∈l:=(dd_mem a _).trans (nO l).mem_iff
def jG {α:Type} (T:α→α→Bool) (s:List α):List α:=s.foldl (fun out a=>if out.any (fun y=>T y a)then out else out++[a]) []
def iO {α:Type} [DecidableEq α] (T:α→α→Bool) (s:List α) (a:α):Bool:= !(s.any fun b=>b !=a&&T b a)
theorem mW {α:Type} [DecidableEq α] {T:α→α→Bool} {s:List α} {a:α}:iO T s a=true↔∀b,b∈s→b≠a→T b a=false:=by
 simp[iO,List.any_eq_false]
theorem greedy_eq {α:Type} [DecidableEq α] (T:α→α→Bool) (ord:α→Nat) (tr:∀x y z,T x y=true→T y z=true→T x z=true) (hT:∀x y,T x y=true→x≠y→ord x<ord y) (s:List α) (hs:s.Pairwise fun x y=>ord x<ord y):
  jG T s=s.filter (iO T s):=by
 have down:∀n a b,ord b≤n→b∈s→b≠a→T b a=true→∃c,c∈s∧c≠a∧T c a=true∧iO T s c=true:=by
  intro n
  induction n with
  |zero=>
   intro a b hb hbs hba hT';refine⟨b,hbs,hba,hT',mW.2 fun c hc hcb=> ?_⟩
   cases h:T c b with
   |false=>rfl
   |true=>have:=hT c b h hcb;omega
  |succ n ih=>
   intro a b hb hbs hba hT'
   cases hu:iO T s b with
   |true=>exact⟨b,hbs,hba,hT',hu⟩
   |false=>
    have:∃c,c∈s∧c≠b∧T c b=true:=by
     simp[iO]at hu;exact hu
    obtain⟨c,h1,h2,h3⟩:=this;have h4:=hT c b h3 h2;have h5:=hT b a hT' hba;exact ih a c (by omega) h1 (fun e=>by subst e;omega) (tr _ _ _ h3 hT')
 suffices H:∀p q:List α,s=p++q→jG T p=p.filter (iO T s) by exact H s [] (by simp)
 intro p;suffices H:∀n (p:List α),p.length=n→∀q,s=p++q→jG T p=p.filter (iO T s) by exact H p.length p rfl
 intro n
 induction n with
 |zero=>intro p hp q _;rw[List.length_eq_zero_iff.1 hp];rfl
 |succ n ih=>
  intro p hp q hq;rcases List.eq_nil_or_concat p with rfl|⟨p',a,rfl⟩
  ·simp at hp
  rw[List.concat_eq_append]at hq hp⊢;have e:=ih p' (by simpa using hp) ([a]++q) (by rw[hq];simp);have hg:jG T (p'++[a])=if(jG T p').any (fun y=>T y a)then jG T p' else jG T p'++[a]:=by simp[jG]
  rw[hg,e,List.filter_append]
  have hpa:∀b,b∈p'→ord b<ord a:=by
   rw[hq]at hs;exact(dX.1 (List.pairwise_append.1 hs).1).2
  have has:a∈s:=by rw[hq];simp
  have hafter:∀b,b∈s→ord b<ord a→b∈p':=by
   intro b hb hlt;rw[hq]at hb hs;rcases List.mem_append.1 hb with h1|h1
   ·rcases List.mem_append.1 h1 with h2|h2
    ·exact h2
    ·simp at h2;subst h2;omega
   ·have:=(List.pairwise_append.1 hs).2.2 a (by simp) b h1;omega
  have hkey:(p'.filter (iO T s)).any (fun y=>T y a)= !(iO T s a):=by
   rw[Bool.eq_iff_iff];constructor
   ·intro h;obtain⟨b,hb,hTb⟩:=List.any_eq_true.1 h;have hb':=(List.mem_filter.1 hb).1;have hne:b≠a:=fun e=>by have:=hpa b hb';subst e;omega
    have hbs:b∈s:=by rw[hq];simp[hb']
    cases hu:iO T s a with
    |false=>rfl
    |true=>have:=mW.1 hu b hbs hne;rw[this]at hTb;cases hTb
   ·intro h;have hu:iO T s a=false:=by simpa using h
    have:∃c,c∈s∧c≠a∧T c a=true:=by
     simp[iO]at hu;exact hu
    obtain⟨c,h1,h2,h3⟩:=this;obtain⟨b,h4,h5,h6,h7⟩:=down _ a c (Nat.le_refl _) h1 h2 h3;exact List.any_eq_true.2 ⟨b,List.mem_filter.2 ⟨hafter b h4 (hT b a h6 h5),h7⟩,h6⟩
  rw[hkey]
  cases hu:iO T s a with
  |true=>simp[hu]
  |false=>simp[hu]
def nL (l:List (BitVec 16)):List (BitVec 16):=jG (fun y a=>sub y a) (srt l)
theorem sN (l:List (BitVec 16)):nL l=(srt l).filter (iO (fun y a=>sub y a) (srt l)):=
 greedy_eq (fun y a=>sub y a) key (fun _ _ _ h1 h2=>dE h1 h2) (fun _ _ h hne=>uX h hne) _ (kE l)
end Go.Abs
namespace Go.Abs
def acc (l:List (BitVec 16)) (t:BitVec 16):Bool:=l.any fun y=>sub y t
theorem dJ (l:List (BitVec 16)) (a:BitVec 16):a∈nL l↔a∈l∧∀b,b∈l→b≠a→sub b a=false:=by
 rw[sN,List.mem_filter,qH,mW];constructor
 ·rintro⟨h1,h2⟩;exact⟨h1,fun b hb hne=>h2 b ((qH b l).2 hb) hne⟩
 ·rintro⟨h1,h2⟩;exact⟨h1,fun b hb hne=>h2 b ((qH b l).1 hb) hne⟩
theorem vG (l:List (BitVec 16)) (n:Nat):∀a,key a≤n→a∈l→∃b,b∈nL l∧sub b a=true:=by
 induction n with
 |zero=>
  intro a hn ha;refine⟨a,(dJ l a).2 ⟨ha,fun b _ hne=> ?_⟩,pX a⟩
  cases h:sub b a with
  |false=>rfl
  |true=>have:=uX h hne;omega
 |succ n ih=>
  intro a hn ha;by_cases h:∃b,b∈l∧b≠a∧sub b a=true
  ·obtain⟨b,h1,h2,h3⟩:=h;have:=uX h3 h2;obtain⟨c,h4,h5⟩:=ih b (by omega) h1;exact⟨c,h4,dE h5 h3⟩
  ·refine⟨a,(dJ l a).2 ⟨ha,fun b hb hne=> ?_⟩,pX a⟩
   cases h':sub b a with
   |false=>rfl
   |true=>exact absurd ⟨b,hb,hne,h'⟩ h
theorem jJ {l:List (BitVec 16)} {p:BitVec 16→Bool} (h:l.Pairwise fun x y=>key x<key y):(l.filter p).Pairwise fun x y=>key x<key y:=List.Pairwise.filter p h
theorem jC (l:List (BitVec 16)):(nL l).Pairwise fun x y=>key x<key y:=by
 rw[sN];exact jJ (kE l)
theorem sub_or (x y t:BitVec 16):sub (x|||y) t=(sub x t&&sub y t):=by
 rw[Bool.eq_iff_iff,Bool.and_eq_true,cO,cO,cO];constructor
 ·intro h;exact⟨fun i hi hx=>h i hi (by simp[hx]),fun i hi hx=>h i hi (by simp[hx])⟩
 ·rintro⟨h1,h2⟩ i hi h;rw[BitVec.getLsbD_or,Bool.or_eq_true]at h;rcases h with h|h
  ·exact h1 i hi h
  ·exact h2 i hi h
end Go.Abs
namespace Go.Abs
end Go.Abs
namespace Go.Abs
theorem cs0_at (b:Nat) (h:b<256):(cs0.getD b 0).toNat=iK b 0 8:=pop8_at b h
theorem f92_eq (x:BitVec 16):f92 x=some (sz x:Int):=by
 have h1:(x>>>8).toNat=x.toNat/256:=by rw[BitVec.toNat_ushiftRight,Nat.shiftRight_eq_div_pow]
 have h2:(x&&&(BitVec.ofInt 16 255)).toNat=x.toNat%256:=by
  rw[BitVec.toNat_and];exact Nat.and_two_pow_sub_one_eq_mod x.toNat 8
 have hx:=x.isLt;have hl:cs0.length=256:=by kernel_rfl
 have e1:=cs0_at (x.toNat/256) (by omega);have e2:=cs0_at (x.toNat%256) (by omega);have l1:=rB (x.toNat/256) 8 0;have l2:=rB (x.toNat%256) 8 0;unfold f92 chk;rw[h1,h2,e1,e2,hl,if_pos (by omega),if_pos (by omega),if_pos (by omega),if_pos (by omega),zT];rfl
theorem lH (x:BitVec 16):f72 x=some (sz x:Int):=by
 unfold f72;rw[f92_eq];rfl
theorem f96_eq (a b:Int):f96 a b=some (cmpI a b):=by
 unfold f96 f102 cmpI;simp;split
 ·rfl
 ·split<;>rfl
theorem f97_eq (a b:BitVec 16):f97 a b=some (cmpI a.toNat b.toNat):=by
 unfold f97 f103 cmpI;simp;split
 ·rfl
 ·split<;>rfl
theorem f95_eq (a b:Int):f95 [a,b]=some (if a≠0 then a else b):=by
 unfold f95 jn;dsimp only;obtain⟨k,hk⟩:∃k,bG=k+1+1+1:=⟨bG-3,by unfold bG;rfl⟩;rw[hk,lC.eq_2,if_pos (by simp)];unfold chk;rw[if_pos (by simp)];by_cases ha:a=0
 ·subst ha;simp only[List.getD_cons_zero,bne_self_eq_false,Bool.false_eq_true,if_false];rw[if_pos (by omega),lC.eq_2,if_pos (by simp)];unfold chk;rw[if_pos (by simp)];by_cases hb:b=0
  ·subst hb;simp only[Nat.zero_add,List.getD_cons_succ,List.getD_cons_zero,bne_self_eq_false,Bool.false_eq_true,if_false];rw[if_pos (by omega),lC.eq_2,if_neg (by simp)];simp
  ·simp[hb]
 ·simp[ha]
theorem f80_eq' (a b:BitVec 16):f80 a b=some (cmpS a b):=by
 unfold f80;rw[lH,lH];simp only[Option.bind_some,f96_eq,f97_eq,f95_eq];rfl
theorem f80_eq (a b:BitVec 16):∃c,f80 a b=some c∧((c≥0)↔ltS a b=false):=by
 refine⟨_,f80_eq' a b, ?_⟩;have:=cmpS_lt a b;rw[←this];simp
end Go.Abs
namespace Go.Abs
def oN (x:Nat):Nat→Nat
 |0=>0
 |p+1=>oN x p+x/2^p%2
theorem uQ (x:Nat):∀c i,iK x i (c+1)=iK x i c+x/2^(i+c)%2
 |0,i=>by simp[iK]
 |c+1,i=>by
  have ih:=uQ x c (i+1)
  show x/2^i%2+iK x (i+1) (c+1)=x/2^i%2+iK x (i+1) c+_
  rw[ih,show i+1+c=i+(c+1)from by omega];omega
theorem uO (x:Nat):∀p,oN x p=iK x 0 p
 |0=>rfl
 |p+1=>by rw[uQ,oN,uO x p,Nat.zero_add]
theorem oM (x:BitVec 16):oN x.toNat 16=sz x:=uO _ _
def zW (y x:Nat):Nat→Bool
 |0=>true
 |p+1=>zW y x p&&decide (y/2^p%2≤x/2^p%2)
theorem mD (y x:Nat):∀p,zW y x p=true↔∀j,j<p→y/2^j%2≤x/2^j%2
 |0=>by simp[zW]
 |p+1=>by
  rw[zW,Bool.and_eq_true,mD y x p,decide_eq_true_eq]
  constructor
  ·rintro⟨h1,h2⟩ j hj
   rcases Nat.lt_or_ge j p with h|h
   ·exact h1 j h
   ·obtain rfl:j=p:=by omega
    exact h2
  ·intro h
   exact⟨fun j hj=>h j (by omega),h p (by omega)⟩
theorem bit_low {p j y:Nat} (h:j<p):(2^p+y)/2^j%2=y/2^j%2:=by
 obtain⟨d,rfl⟩:∃d,p=j+1+d:=⟨p-j-1,by omega⟩
 have e:2^(j+1+d)+y=y+2^j *(2 *2^d):=by
  rw[Nat.pow_add,Nat.pow_succ,Nat.mul_assoc,Nat.add_comm]
 rw[e,Nat.add_mul_div_left _ _ (Nat.pow_pos (by decide)),Nat.add_mul_mod_self_left]
theorem rE {p y:Nat} (h:y<2^p):(2^p+y)/2^p%2=1:=by
 rw[Nat.add_div_left _ (Nat.pow_pos (by decide)),Nat.div_eq_of_lt h]
theorem bit_hi {p y:Nat} (h:y<2^p):y/2^p%2=0:=by
 rw[Nat.div_eq_of_lt h]
theorem uT (x j:Nat):x/2^j%2=0∨x/2^j%2=1:=by omega
theorem qZ (x:Nat):∀p,oN x p≤p
 |0=>Nat.le_refl _
 |p+1=>by
  have:=qZ x p
  have:=uT x p
  rw[oN];omega
theorem pR {x y:Nat}:∀p,(∀j,j<p→x/2^j%2=y/2^j%2)→oN x p=oN y p
 |0,_=>rfl
 |p+1,h=>by
  rw[oN,oN,pR p fun j hj=>h j (by omega),h p (by omega)]
theorem yH {x y z w:Nat} (p:Nat) (h1:∀j,j<p→x/2^j%2=y/2^j%2) (h2:∀j,j<p→z/2^j%2=w/2^j%2):zW x z p=zW y w p:=by
 rw[Bool.eq_iff_iff,mD,mD];constructor
 ·intro h j hj;rw[←h1 j hj,←h2 j hj];exact h j hj
 ·intro h j hj;rw[h1 j hj,h2 j hj];exact h j hj
def sbs (x:Nat):Nat→Nat→List Nat
 |0,k=>if k=0 then[0]else[]
 |p+1,k=>sbs x p k++if x/2^p%2=1∧0<k then(sbs x p (k-1)).map (2^p+ ·)else[]
theorem gU (x:Nat):∀p k,(List.range (2^p)).filter (fun y=>zW y x p&&decide (oN y p=k))=sbs x p k
 |0,k=>by cases k<;>rfl
 |p+1,k=>by
  rw[show 2^(p+1)=2^p+2^p from by rw[Nat.pow_succ];omega,List.range_add,List.filter_append,List.filter_map,sbs]
  congr 1
  ·rw[←gU x p k]
   refine List.filter_congr fun y hy=> ?_
   have hy:=List.mem_range.1 hy
   show((zW y x p&&decide (y/2^p%2≤x/2^p%2))&&decide (oN y p+y/2^p%2=k))=_
   rw[bit_hi hy];simp
  ·by_cases hb:x/2^p%2=1∧0<k
   ·rw[if_pos hb,←gU x p (k-1)]
    congr 1
    refine List.filter_congr fun y hy=> ?_
    have hy:=List.mem_range.1 hy
    show((zW (2^p+y) x p&&decide ((2^p+y)/2^p%2≤x/2^p%2))&&decide (oN (2^p+y) p+(2^p+y)/2^p%2=k))=_
    rw[rE hy,hb.1,yH p (fun j hj=>bit_low hj) (fun _ _=>rfl),pR p (fun j hj=>bit_low hj)]
    have:(oN y p+1=k)↔(oN y p=k-1):=by omega
    simp[this]
   ·rw[if_neg hb]
    rw[List.filter_eq_nil_iff.2,List.map_nil]
    intro y hy
    have hy:=List.mem_range.1 hy
    show ¬((zW (2^p+y) x p&&decide ((2^p+y)/2^p%2≤x/2^p%2))&&decide (oN (2^p+y) p+(2^p+y)/2^p%2=k))=true
    rw[rE hy]
    have:=uT x p
    simp only[Bool.and_eq_true,decide_eq_true_eq]
    omega
theorem qI {x p k y:Nat}:y∈sbs x p k↔y<2^p∧zW y x p=true∧oN y p=k:=by
 rw[←gU];simp[List.mem_filter]
theorem yI (x p k:Nat):(sbs x p k).Pairwise (· < ·):=by
 rw[←gU];exact List.Pairwise.filter _ List.pairwise_lt_range
def cmb :Nat→Nat→List Nat
 |0,k=>if k=0 then[0]else[]
 |m+1,k=>cmb m k++if 0<k then(cmb m (k-1)).map (2^m+ ·)else[]
theorem xX :∀m k i,i∈cmb m k→i<2^m
 |0,k,i,h=>by
  unfold cmb at h
  split at h
  ·simp at h;omega
  ·cases h
 |m+1,k,i,h=>by
  have e:2^(m+1)=2^m+2^m:=by rw[Nat.pow_succ];omega
  rw[cmb]at h
  rcases List.mem_append.1 h with h|h
  ·have:=xX m k i h;omega
  ·split at h
   ·obtain⟨j,hj,rfl⟩:=List.mem_map.1 h
    have:=xX m _ j hj;omega
   ·cases h
def gB (x p:Nat):List Nat:=(List.range p).filter fun i=>decide (x/2^i%2=1)
theorem bX (x p:Nat):gB x (p+1)=gB x p++if x/2^p%2=1 then[p]else[]:=by
 unfold gB;rw[List.range_succ,List.filter_append];congr 1;split<;>rename_i h<;>simp[h]
theorem dM (x:Nat):∀p,(gB x p).length=oN x p
 |0=>rfl
 |p+1=>by
  rw[bX,List.length_append,dM x p,oN]
  have:=uT x p
  split
  ·simp;omega
  ·simp;omega
def plc :List Nat→Nat→Nat
 |[],_=>0
 |p::L,i=>(if i%2=1 then 2^p else 0)+plc L (i/2)
theorem qD (p:Nat):∀(L:List Nat) (i:Nat),plc (L++[p]) i=plc L i+if i/2^L.length%2=1 then 2^p else 0
 |[],i=>by simp[plc]
 |q::L,i=>by
  rw[List.cons_append,plc,qD p L (i/2),plc,List.length_cons,Nat.div_div_eq_div_mul,Nat.pow_succ,Nat.mul_comm 2]
  omega
theorem plc_add :∀(L:List Nat) (i:Nat),plc L (2^L.length+i)=plc L i
 |[],i=>rfl
 |q::L,i=>by
  have e:2^(q::L).length=2 *2^L.length:=by rw[List.length_cons,Nat.pow_succ,Nat.mul_comm]
  rw[plc,plc,e,show(2 *2^L.length+i)%2=i%2 from by omega,show(2 *2^L.length+i)/2=2^L.length+i/2 from by omega,plc_add L (i/2)]
theorem qE (x:Nat):∀p k,(cmb (oN x p) k).map (plc (gB x p))=sbs x p k
 |0,k=>by
  show(cmb 0 k).map (plc [])=sbs x 0 k
  unfold cmb sbs
  split<;>rfl
 |p+1,k=>by
  rw[bX,oN,sbs]
  rcases uT x p with hb|hb
  ·rw[hb,if_neg (by omega),if_neg (by omega),List.append_nil,List.append_nil,Nat.add_zero]
   exact qE x p k
  ·rw[hb,if_pos rfl,cmb,List.map_append]
   congr 1
   ·rw[←qE x p k]
    refine List.map_congr_left fun i hi=> ?_
    have:=xX _ _ i hi
    rw[qD,dM,bit_hi this]
    rfl
   ·by_cases hk:0<k
    ·rw[if_pos hk,if_pos ⟨rfl,hk⟩,←qE x p (k-1),List.map_map,List.map_map]
     refine List.map_congr_left fun i hi=> ?_
     have:=xX _ _ i hi
     show plc (gB x p++[p]) (2^oN x p+i)=2^p+plc (gB x p) i
     have h1:=plc_add (gB x p) i
     rw[dM]at h1
     rw[qD,dM,rE this,if_pos rfl,h1,Nat.add_comm]
    ·rw[if_neg hk,if_neg (fun h=>hk h.2)];rfl
/-! ### sets of servers -/
theorem bitB (x:BitVec 16) (j:Nat):x.toNat/2^j%2=if x.getLsbD j=true then 1 else 0:=by
 have e:x.getLsbD j=x.toNat.testBit j:=rfl;rw[e,Nat.testBit_eq_decide_div_mod_eq];have:=uT x.toNat j;by_cases h:x.toNat/2^j%2=1
 ·simp[h]
 ·simp[h];omega
theorem sub_subB (y x:BitVec 16):sub y x=zW y.toNat x.toNat 16:=by
 rw[Bool.eq_iff_iff,mD];constructor
 ·intro h j hj;exact pY h j hj
 ·intro h;refine cO.2 fun i hi hy=> ?_;have:=h i hi;rw[bitB,bitB,if_pos hy]at this
  cases hx:x.getLsbD i with
  |true=>rfl
  |false=>rw[hx]at this;simp at this
def bS (s:BitVec 16) (k:Nat):List (BitVec 16):=(sbs s.toNat 16 k).map (BitVec.ofNat 16)
theorem dZ {u:Nat} (h:u<2^16):(BitVec.ofNat 16 u).toNat=u:=by
 rw[BitVec.toNat_ofNat,Nat.mod_eq_of_lt h]
theorem dK {s:BitVec 16} {k:Nat} {u:BitVec 16}:u∈bS s k↔sub u s=true∧sz u=k:=by
 unfold bS;rw[List.mem_map,sub_subB,←oM];constructor
 ·rintro⟨v,hv,rfl⟩;obtain⟨h1,h2,h3⟩:=qI.1 hv;rw[dZ h1];exact⟨h2,h3⟩
 ·rintro⟨h1,h2⟩;exact⟨u.toNat,qI.2 ⟨u.isLt,h1,h2⟩,by simp⟩
theorem oV (s:BitVec 16) (k:Nat):(bS s k).Pairwise fun a b=>a.toNat<b.toNat:=by
 unfold bS;rw[List.pairwise_map];refine List.Pairwise.imp_of_mem ?_ (yI s.toNat 16 k);intro a b ha hb h;rw[dZ (qI.1 ha).1,dZ (qI.1 hb).1];exact h
end Go.Abs
namespace Go.Abs
def lowN :Nat→Nat→Nat
 |0,_=>0
 |c+1,w=>if w%2=1 then 0 else lowN c (w/2)+1
def sH (i:Int):Int:=aT .and .u32 i (IntKind.wrap .u32 (0-i))
def gosN (i:Int):Int:=aT .or .u32 (i+sH i) ((aT .xor .u32 i (i+sH i))/sH i/2^2)
def gosC (i:Int):Bool:=decide (0≤i+sH i∧i+sH i≤4294967295)&&decide (0≤aT .xor .u32 i (i+sH i)∧1≤sH i∧0≤aT .xor .u32 i (i+sH i)/sH i∧aT .xor .u32 i (i+sH i)/sH i≤4294967295)
def jW (m a:Nat):List Nat→Bool
 |[]=>decide (a<2^m)&&(a==0||(gosC (a:Int)&&decide ((1:Int) *2^m≤gosN (a:Int))))
 |b::t=>decide (a<2^m)&& !(a==0)&&gosC (a:Int)&&decide (gosN (a:Int)=(b:Int))&&jW m b t
def gOK (m k:Nat):Bool:=match cmb m k with
 |[]=>false
 |a::t=>decide (a+1=2^k)&&jW m a t&&decide (t.length≤4096)
def gAll (m:Nat):Bool:=(List.range (m+1)).all fun k=>gOK m k
theorem gAll_eq :∀m:Nat,m≤12→gAll m=true
 |0,_=>by kernel_rfl
 |1,_=>by kernel_rfl
 |2,_=>by kernel_rfl
 |3,_=>by kernel_rfl
 |4,_=>by kernel_rfl
 |5,_=>by kernel_rfl
 |6,_=>by kernel_rfl
 |7,_=>by kernel_rfl
 |8,_=>by kernel_rfl
 |9,_=>by kernel_rfl
 |10,_=>by kernel_rfl
 |11,_=>by kernel_rfl
 |12,_=>by kernel_rfl
 |n+13,h=>absurd h (by omega)
theorem gOK_of {m k:Nat} (hm:m≤12) (hk:k≤m):∃a t,cmb m k=a::t∧a+1=2^k∧jW m a t=true∧t.length≤4096:=by
 have:=List.all_eq_true.1 (gAll_eq m hm) k (List.mem_range.2 (by omega));unfold gOK at this;split at this
 ·cases this
 ·rename_i a t e;simp only[Bool.and_eq_true,decide_eq_true_eq]at this;exact⟨a,t,e,this.1.1,this.1.2,this.2⟩
theorem and1_all :((List.range 4096).all fun x=>(aT .and .u32 (x:Int) 1==1)==decide (x%2=1))=true:=by kernel_rfl
theorem and1 {x:Nat} (h:x<4096):(aT .and .u32 (x:Int) 1==1)=decide (x%2=1):=by
 have:=List.all_eq_true.1 and1_all x (List.mem_range.2 h);simpa using this
def wP :List Nat→Nat→BitVec 16→BitVec 16
 |[],_,w=>w
 |p::L,i,w=>wP L (i/2) (if i%2=1 then w|||((BitVec.ofInt 16 1)<<<p)else w)
theorem wP_plc :∀(L:List Nat) (q i:Nat) (w:BitVec 16),(∀p,p∈L→q≤p∧p<16)→L.Pairwise (· < ·)→w.toNat<2^q→(wP L i w).toNat=w.toNat+plc L i
 |[],_,_,_,_,_,_=>rfl
 |p::L,q,i,w,h1,h2,h3=>by
  obtain⟨hq,hp⟩:=h1 p (List.mem_cons_self ..)
  rw[List.pairwise_cons]at h2
  have hqp:2^q≤2^p:=Nat.pow_le_pow_right (by decide) hq
  have e:2^(p+1)=2^p+2^p:=by rw[Nat.pow_succ];omega
  rw[wP,plc]
  have hL:∀r,r∈L→p+1≤r∧r<16:=fun r hr=>⟨h2.1 r hr,(h1 r (List.mem_cons_of_mem _ hr)).2⟩
  by_cases hi:i%2=1
  ·rw[if_pos hi,if_pos hi]
   have ew:(w|||((BitVec.ofInt 16 1)<<<p)).toNat=w.toNat+2^p:=by
    have e1:((BitVec.ofInt 16 1)<<<p).toNat=2^p:=by
     rw[BitVec.toNat_shiftLeft]
     show 1<<<p%2^16=2^p
     rw[Nat.one_shiftLeft,Nat.mod_eq_of_lt (Nat.pow_lt_pow_right (by decide) hp)]
    have e2:=Nat.two_pow_add_eq_or_of_lt (i:=p) (b:=w.toNat) (by omega) 1
    rw[BitVec.toNat_or,e1,Nat.or_comm]
    simp only[Nat.mul_one]at e2
    omega
   rw[wP_plc L (p+1) (i/2) _ hL h2.2 (by rw[ew];omega),ew]
   omega
  ·rw[if_neg hi,if_neg hi,wP_plc L (p+1) (i/2) w hL h2.2 (by omega)]
   omega
theorem memP_lt {x p i:Nat} (h:i∈gB x p):i<p:=List.mem_range.1 (List.mem_filter.1 h).1
theorem vE (x p:Nat):(gB x p).Pairwise (· < ·):=List.Pairwise.filter _ List.pairwise_lt_range
theorem mS (s:BitVec 16) (k:Nat):(cmb (sz s) k).map (fun j=>wP (gB s.toNat 16) j 0#16)=bS s k:=by
 unfold bS;rw[←qE,oM,List.map_map];refine List.map_congr_left fun j _=> ?_;have h:=wP_plc (gB s.toNat 16) 0 j 0#16 (fun p hp=>⟨Nat.zero_le _,memP_lt hp⟩) (vE _ _) (by decide);apply BitVec.eq_of_toNat_eq;have h2:(0#16).toNat=0:=rfl;rw[h2,Nat.zero_add]at h;show _=(BitVec.ofNat 16 (plc (gB s.toNat 16) j)).toNat;rw[←h,dZ (BitVec.isLt _)]
theorem dI (L:List Nat):(L.map fun i:Nat=>(i:Int)).length=L.length:=List.length_map _
theorem mp_get (L:List Nat) (n:Nat) (h:n<L.length):(L.map fun i:Nat=>(i:Int)).getD n 0=((L.getD n 0:Nat):Int):=by
 simp[List.getD_eq_getElem?_getD,h]
theorem divc (i n:Nat):((i:Int)/2^n)=((i/2^n:Nat):Int):=by
 rw[Int.natCast_ediv,Int.natCast_pow];rfl
theorem qC {m:Nat} (hm:m≤12):(1:Int) *2^m≤4096∧0≤(1:Int) *2^m∧(1:Int) *2^m=((2^m:Nat):Int):=by
 have h1:2^m≤2^12:=Nat.pow_le_pow_right (n:=2) (by decide) hm;have e:(1:Int) *2^m=((2^m:Nat):Int):=by rw[Int.one_mul,Int.natCast_pow];rfl
 rw[e];exact⟨Int.ofNat_le.2 h1,Int.natCast_nonneg _,rfl⟩
/-! ### going through sets of a size, in order -/
def dP {S:Type} (g:S→BitVec 16→Nat×S):List (BitVec 16)→S→Nat×S
 |[],st=>(0,st)
 |x::t,st=>if(g st x).1=0 then dP g t (g st x).2 else g st x
theorem fS {S:Type} {g:S→BitVec 16→Nat×S} {x:BitVec 16} {l:List (BitVec 16)} {st:S} (h:(g st x).1=0):dP g (x::l) st=dP g l (g st x).2:=if_pos h
theorem jB {S:Type} {g:S→BitVec 16→Nat×S} {x:BitVec 16} {l:List (BitVec 16)} {st:S} (h:¬(g st x).1=0):dP g (x::l) st=g st x:=if_neg h
theorem wT {S:Type} (g:S→BitVec 16→Nat×S):∀(l m:List (BitVec 16)) (st:S),dP g (l++m) st=if(dP g l st).1=0 then dP g m (dP g l st).2 else dP g l st
 |[],_,_=>rfl
 |x::l,m,st=>by
  rw[List.cons_append]
  by_cases h:(g st x).1=0
  ·rw[fS h,fS h,wT g l m]
  ·rw[jB h,jB h,if_neg h]
theorem wS {S:Type} {g:S→BitVec 16→Nat×S} {Inv:S→Prop} (h:∀st x,Inv st→(g st x).1=0→Inv (g st x).2):∀(l:List (BitVec 16)) (st:S),Inv st→(dP g l st).1=0→Inv (dP g l st).2
 |[],_,h0,_=>h0
 |x::l,st,h0,h1=>by
  by_cases hz:(g st x).1=0
  ·rw[fS hz]at h1⊢;exact wS h l _ (h _ _ h0 hz) h1
  ·rw[jB hz]at h1;exact absurd h1 hz
theorem xZ {S R:Type} (L:Nat→Int→S→Option R) (g:S→BitVec 16→Nat×S) (Inv:S→Prop) (K:S→Option R) (B:Nat×S→Option R) (M:List Nat)
  (hI:∀st x,Inv st→(g st x).1=0→Inv (g st x).2)
  (hend:∀k i st,Inv st→((2^M.length:Nat):Int)≤i→L (k+1) i st=K st)
  (hstep:∀(k a:Nat) st,Inv st→a<2^M.length→(a=0∨gosC (a:Int)=true)→L (k+1) (a:Int) st=if(g st (wP M a 0#16)).1=0 then(if a=0 then K (g st (wP M a 0#16)).2 else L k (gosN (a:Int)) (g st (wP M a 0#16)).2)else B (g st (wP M a 0#16))):
  ∀(t:List Nat) (a k:Nat) (st:S),jW M.length a t=true→t.length+1<k→Inv st→
   L k (a:Int) st=if(dP g ((a::t).map fun j=>wP M j 0#16) st).1=0 then K (dP g ((a::t).map fun j=>wP M j 0#16) st).2 else B (dP g ((a::t).map fun j=>wP M j 0#16) st)
 |[],a,k,st,hc,hk,hi=>by
  obtain⟨k,rfl⟩:∃q,k=q+1:=⟨k-1,by simp at hk;omega⟩
  obtain⟨k,rfl⟩:∃q,k=q+1:=⟨k-1,by simp at hk;omega⟩
  unfold jW at hc
  simp only[Bool.and_eq_true,Bool.or_eq_true,decide_eq_true_eq,beq_iff_eq]at hc
  have e:dP g ([a].map fun j=>wP M j 0#16) st=g st (wP M a 0#16):=by
   show dP g [wP M a 0#16] st=_
   by_cases h:(g st (wP M a 0#16)).1=0
   ·rw[fS h]
    exact Prod.ext h.symm rfl
   ·rw[jB h]
  rw[e,hstep _ _ _ hi hc.1 (by rcases hc.2 with h|h;exact .inl h;exact .inr h.1)]
  by_cases hz:(g st (wP M a 0#16)).1=0
  ·rw[if_pos hz,if_pos hz]
   by_cases h0:a=0
   ·rw[if_pos h0]
   ·rw[if_neg h0]
    rcases hc.2 with h|⟨_,h⟩
    ·exact absurd h h0
    ·refine hend _ _ _ (hI _ _ hi hz) ?_
     have e2:((2^M.length:Nat):Int)=1 *2^M.length:=by rw[Int.one_mul,Int.natCast_pow];rfl
     rw[e2];exact h
  ·rw[if_neg hz,if_neg hz]
 |b::t,a,k,st,hc,hk,hi=>by
  obtain⟨k,rfl⟩:∃q,k=q+1:=⟨k-1,by omega⟩
  unfold jW at hc
  simp only[Bool.and_eq_true,Bool.not_eq_true',decide_eq_true_eq,beq_eq_false_iff_ne]at hc
  obtain⟨⟨⟨⟨hc1,hc2⟩,hg⟩,hn⟩,hc'⟩:=hc
  rw[hstep _ _ _ hi hc1 (.inr hg),List.map_cons]
  by_cases hz:(g st (wP M a 0#16)).1=0
  ·rw[fS hz,if_pos hz,if_neg hc2,hn]
   exact xZ L g Inv K B M hI hend hstep t b k _ hc' (by simp at hk;omega) (hI _ _ hi hz)
  ·rw[jB hz,if_neg hz,if_neg hz]
def bN (s:BitVec 16):List (BitVec 16):=(List.range (sz s+1)).flatMap (bS s)
theorem fF {s u:BitVec 16}:u∈bN s↔sub u s=true:=by
 unfold bN;rw[List.mem_flatMap];constructor
 ·rintro⟨k,_,h⟩;exact(dK.1 h).1
 ·intro h;exact⟨sz u,List.mem_range.2 (by have:=(sub_sz h).1;omega),dK.2 ⟨h,rfl⟩⟩
theorem pW {S R:Type} (L:Nat→Nat→S→Option R) (g:S→BitVec 16→Nat×S) (Inv:S→Prop) (F:Nat×S→Option R) (s:BitVec 16)
  (hI:∀st x,Inv st→(g st x).1=0→Inv (g st x).2)
  (hend:∀k st,Inv st→L (k+1) (sz s+1) st=F (0,st))
  (hstep:∀k n st,Inv st→n≤sz s→L (k+1) n st=if(dP g (bS s n) st).1=0 then L k (n+1) (dP g (bS s n) st).2 else F (dP g (bS s n) st)):
  ∀(c k n:Nat) (st:S),n+c=sz s+1→c<k→Inv st→L k n st=F (dP g ((List.range' n c).flatMap (bS s)) st)
 |0,k,n,st,hc,hk,hi=>by
  obtain⟨k,rfl⟩:∃q,k=q+1:=⟨k-1,by omega⟩
  have:n=sz s+1:=by omega
  subst this
  simp only[List.range'_zero,List.flatMap_nil,dP]
  exact hend _ _ hi
 |c+1,k,n,st,hc,hk,hi=>by
  obtain⟨k,rfl⟩:∃q,k=q+1:=⟨k-1,by omega⟩
  rw[hstep _ _ _ hi (by omega),List.range'_succ,List.flatMap_cons,wT]
  by_cases hz:(dP g (bS s n) st).1=0
  ·rw[if_pos hz,if_pos hz]
   exact pW L g Inv F s hI hend hstep c k (n+1) _ (by omega) (by omega) (wS hI _ _ hi hz)
  ·rw[if_neg hz,if_neg hz]
theorem iP (s:BitVec 16):bN s=(List.range' 0 (sz s+1)).flatMap (bS s):=by
 unfold bN;rw[List.range_eq_range']
theorem dD (s:BitVec 16):(bN s).Pairwise fun x y=>key x<key y:=by
 unfold bN;rw[List.pairwise_flatMap];refine⟨fun k _=> ?_, ?_⟩
 ·have h1:=oV s k;refine List.Pairwise.imp_of_mem ?_ h1;intro a b ha hb hab;have e1:=(dK.1 ha).2;have e2:=(dK.1 hb).2;unfold key;omega
 ·refine List.Pairwise.imp_of_mem ?_ (List.pairwise_lt_range (n:=sz s+1));intro k m hk hm hkm a ha b hb;have e1:=(dK.1 ha).2;have e2:=(dK.1 hb).2;have h1:=a.isLt;have h2:=b.isLt;unfold key;omega
end Go.Abs
namespace Go.Abs
section
variable {α:Type} [DecidableEq α]
end
end Go.Abs
namespace Go.Abs
theorem and_hi (n:Nat) (h:n<65536):(n&&&61440=0)↔n<4096:=by
 have e:(n&&&61440)>>>12=n/4096:=by
  rw[Nat.shiftRight_and_distrib,Nat.shiftRight_eq_div_pow];show(n/4096)&&&15=n/4096;rw[show(15:Nat)=2^4-1 from rfl,Nat.and_two_pow_sub_one_eq_mod];omega
 constructor
 ·intro h0;rw[h0]at e;simp at e;omega
 ·intro hn;apply Nat.eq_of_testBit_eq;intro i;rw[Nat.testBit_and,Nat.zero_testBit];by_cases hi:i<12
  ·have:Nat.testBit 61440 i=false:=by
    rw[show(61440:Nat)=2^12 *15 from rfl,Nat.testBit_two_pow_mul];simp;omega
   rw[this,Bool.and_false]
  ·have:n.testBit i=false:=Nat.testBit_lt_two_pow (Nat.lt_of_lt_of_le hn (Nat.pow_le_pow_right (n:=2) (by decide) (by omega:12≤i)));rw[this,Bool.false_and]
theorem yT (x:BitVec 16):((x&&&(BitVec.ofInt 16 61440))==(BitVec.ofInt 16 0))=decide (x.toNat<4096):=by
 have h:=and_hi x.toNat x.isLt;rw[Bool.eq_iff_iff,beq_iff_eq,decide_eq_true_eq,←h];constructor
 ·intro e;have:=congrArg BitVec.toNat e;simpa using this
 ·intro e;apply BitVec.eq_of_toNat_eq;simpa using e
theorem f74_eq (y s:BitVec 16):f74 y s=some (sub y s,s):=rfl
theorem tK (x:List (BitVec 16)) (K:(BitVec 16)→Option (Int×BitVec 16)) (s:BitVec 16) (hx:x.length≤65536):∀(c k n:Nat),n+c=x.length→c<k→
  (∃m:Nat,jP x K k (n,s)=some ((m:Int),s)∧(x.drop n).any (fun y=>sub y s)=true)∨(jP x K k (n,s)=K s∧(x.drop n).any (fun y=>sub y s)=false)
 |0,k,n,hn,hk=>by
  obtain⟨k,rfl⟩:∃q,k=q+1:=⟨k-1,by omega⟩
  rw[jP.eq_2,if_neg (by simp;omega)]
  exact .inr ⟨rfl,by rw[List.drop_eq_nil_of_le (by omega)];rfl⟩
 |c+1,k,n,hn,hk=>by
  obtain⟨k,rfl⟩:∃q,k=q+1:=⟨k-1,by omega⟩
  have hlt:n<x.length:=by omega
  have hg:x.getD n 0#16=x[n]:=by simp[List.getD_eq_getElem?_getD,hlt]
  rw[jP.eq_2,if_pos (by simp;omega),f74_eq,hg,List.drop_eq_getElem_cons hlt]
  simp only[Option.bind_some,List.any_cons]
  unfold chk
  rw[if_pos (by omega)]
  by_cases h:sub x[n] s=true
  ·rw[if_pos h];exact .inl ⟨n,rfl,by rw[h];rfl⟩
  ·rw[if_neg h,if_pos (by omega)]
   have h:sub x[n] s=false:=by simpa using h
   rw[h,Bool.false_or]
   exact tK x K s hx c k (n+1) (by omega) (by omega)
theorem f31_eq (x:List (BitVec 16)) (s:BitVec 16) (hx:x.length≤65536):f31 x s=some (x.any fun y=>sub y s):=by
 unfold f31 f65 f63 jn;dsimp only;rcases tK x (fun w6=>some (-1,w6)) s hx x.length bG 0 (by omega) (by unfold bG;omega)with⟨m,h1,h2⟩|⟨h1,h2⟩
 ·rw[h1];rw[List.drop_zero]at h2;rw[h2];simp
 ·rw[h1];rw[List.drop_zero]at h2;rw[h2];simp
def uZ (x:List (BitVec 16)):Nat→Nat→Option Int
 |0,_=>none
 |c+1,n=>if(x.getD n 0#16).toNat<4096 then(if decide (n>0)&& !(ltS (x.getD (n-1) 0#16) (x.getD n 0#16))then some 1 else uZ x c (n+1))else some 7
def orK (e:Option Int) (K:Unit→Option Int):Option Int:=match e with
 |some e=>some e
 |none=>K ()
theorem tU (x:List (BitVec 16)) (K:Unit→Option Int) (hx:x.length≤65536):∀(c k n:Nat),n+c=x.length→c<k→lJ x K k n=orK (uZ x c n) K
 |0,k,n,hn,hk=>by
  obtain⟨k,rfl⟩:∃q,k=q+1:=⟨k-1,by omega⟩
  rw[lJ.eq_2,if_neg (by simp;omega)]
  rfl
 |c+1,k,n,hn,hk=>by
  obtain⟨k,rfl⟩:∃q,k=q+1:=⟨k-1,by omega⟩
  have ih:=tU x K hx c k (n+1) (by omega) (by omega)
  rw[lJ.eq_2,if_pos (by simp;omega)]
  unfold chk uZ
  rw[if_pos (by omega),yT]
  by_cases hr:(x.getD n 0#16).toNat<4096
  ·rw[if_pos hr,if_neg (by simp only[hr];simp)]
   obtain⟨r,h1,h2⟩:=f80_eq (x.getD (((n:Int)-1).toNat) 0#16) (x.getD n 0#16)
   have hn1:((n:Int)-1).toNat=n-1:=by omega
   rw[hn1]at h1 h2
   unfold rI
   by_cases h0:n>0
   ·have h0':((decide ((n:Int)>0))==true)=true:=by simp;omega
    rw[if_pos h0',hn1,h1]
    simp only[Option.bind_some]
    rw[if_pos (by omega),if_pos (by omega)]
    by_cases hl:ltS (x.getD (n-1) 0#16) (x.getD n 0#16)=true
    ·have:¬(r≥0):=fun h=>by rw[h2.1 h]at hl;cases hl
     rw[if_neg (by simp[this]),if_pos (by omega),ih,hl]
     simp
    ·have hl:ltS (x.getD (n-1) 0#16) (x.getD n 0#16)=false:=by simpa using hl
     rw[if_pos (by simp[h2.2 hl];omega),hl]
     simp[h0,orK]
   ·have h0':¬((decide ((n:Int)>0))==true)=true:=by simp;omega
    have h0'':¬(decide ((n:Int)>0))=true:=by simp;omega
    rw[if_neg h0']
    dsimp only
    rw[if_pos (fun h=>absurd h h0'),if_pos (fun h=>absurd h h0'),if_neg (by simp;omega),if_pos (by omega),ih,if_neg (by simp;omega)]
  ·rw[if_neg hr,if_pos (by simp only[hr];simp)]
   rfl
def bad1 (x:List (BitVec 16)):Nat→Nat→Bool
 |0,_=>false
 |c+1,n=>(x.take n).any (fun y=>sub y (x.getD n 0#16))||bad1 x c (n+1)
theorem tT (x:List (BitVec 16)) (K:Unit→Option Int) (hx:x.length≤65536):∀(c k n:Nat),n+c=x.length→c<k→lI x K k n=if bad1 x c n=true then some 1 else K ()
 |0,k,n,hn,hk=>by
  obtain⟨k,rfl⟩:∃q,k=q+1:=⟨k-1,by omega⟩
  rw[lI.eq_2,if_neg (by simp;omega),if_neg (by simp[bad1])]
 |c+1,k,n,hn,hk=>by
  obtain⟨k,rfl⟩:∃q,k=q+1:=⟨k-1,by omega⟩
  have ih:=tT x K hx c k (n+1) (by omega) (by omega)
  rw[lI.eq_2,if_pos (by simp;omega),f31_eq _ _ (by simp;omega)]
  simp only[Option.bind_some]
  unfold chk
  rw[if_pos (by omega),if_pos (by omega)]
  by_cases h:((x.take n).any fun y=>sub y (x.getD n 0#16))=true
  ·rw[if_pos h,if_pos (by simp only[bad1,h,Bool.true_or])]
  ·rw[if_neg h,if_pos (by omega),ih]
   have h:((x.take n).any fun y=>sub y (x.getD n 0#16))=false:=by simpa using h
   simp only[bad1,h,Bool.false_or]
theorem yC (x:List (BitVec 16)):∀(c n:Nat),n+c=x.length→(bad1 x c n=true↔∃m j,n≤m∧m<x.length∧j<m∧sub (x.getD j 0#16) (x.getD m 0#16)=true)
 |0,n,hn=>by
  simp only[bad1,Bool.false_eq_true,false_iff]
  rintro⟨m,j,h1,h2,_⟩;omega
 |c+1,n,hn=>by
  simp only[bad1,Bool.or_eq_true,yC x c (n+1) (by omega),List.any_eq_true]
  constructor
  ·rintro(⟨y,hy,hs⟩|⟨m,j,h1,h2,h3,h4⟩)
   ·obtain⟨j,hj,rfl⟩:=List.getElem_of_mem hy
    have hj':j<n:=by simp at hj;omega
    refine⟨n,j,Nat.le_refl _,by omega,hj', ?_⟩
    have hl:j<x.length:=by omega
    simpa[List.getD_eq_getElem?_getD,hl]using hs
   ·exact⟨m,j,by omega,h2,h3,h4⟩
  ·rintro⟨m,j,h1,h2,h3,h4⟩
   by_cases e:m=n
   ·subst e
    refine .inl ⟨x.getD j 0#16, ?_,h4⟩
    have hl:j<x.length:=by omega
    have:x.getD j 0#16=(x.take m)[j]'(by simp;omega):=by simp[List.getD_eq_getElem?_getD,hl]
    rw[this];exact List.getElem_mem _
   ·exact .inr ⟨m,j,by omega,h2,h3,h4⟩
theorem f42_val (x:List (BitVec 16)) (h:x.length≤400):f42 x=orK (uZ x x.length 0) fun _=>if bad1 x x.length 0=true then some 1 else some 0:=by
 unfold f42;rw[if_neg (by simp;omega)];rw[cD,tU x _ (by omega) x.length bG 0 (by omega) (fuel_lt (by omega))];refine congrArg (orK (uZ x x.length 0)) (funext fun _=> ?_);rw[cD,tT x _ (by omega) x.length bG 0 (by omega) (fuel_lt (by omega))]
theorem vT (x:List (BitVec 16)) (s:BitVec 16) (hx:x.length≤65536):f31 x s=some (acc x s):=f31_eq x s hx
theorem f43_eq (x:List (BitVec 16)) (hx:x.length≤65536):f43 x=some (x.foldl (fun w a=>w|||a) 0#16):=by
 unfold f43;rw[cD];refine(fold_up (fun k p=>iJ x _ k (p.2,p.1)) x 0#16 (fun _ _=>True) (fun w a=>w|||a) (fun w=>some w) (fun k n s hn _=> ?_) (fun _ _ _ _=>trivial) (fun k s _=> ?_) x.length bG 0 0#16 (by omega) (fuel_lt (by omega)) trivial).trans rfl
 ·show iJ x _ (k+1) (s,n)=_;rw[iJ.eq_2,cG (by omega),aC (by omega),aC (by omega)]
 ·show iJ x _ (k+1) (s,x.length)=_;rw[iJ.eq_2,cH (by omega)]
/-! ### the reference: sorted by insertion -/
theorem pA {l:List (BitVec 16)} (h:l.Pairwise fun x y=>key x<key y) {i j:Nat} (hij:i<j) (hj:j<l.length):key (l.getD i 0#16)<key (l.getD j 0#16):=by
 have:=List.pairwise_iff_getElem.1 h i j (by omega) hj hij;have hi:i<l.length:=by omega
 simpa[List.getD_eq_getElem?_getD,hi,hj]using this
end Go.Abs
namespace Go.Abs
theorem szle (x:BitVec 16):sz x≤16:=rB x.toNat 16 0
def eH (p:BitVec 16→Bool) (out:List (BitVec 16)) (s:BitVec 16):List (BitVec 16):=if(p s&& !acc out s)=true then out++[s]else out
def eY (p:BitVec 16→Bool) (L:List (BitVec 16)):List (BitVec 16):=L.foldl (eH p) []
theorem stepF_len (p:BitVec 16→Bool) (out:List (BitVec 16)) (s:BitVec 16):out.length≤(eH p out s).length:=by
 unfold eH;split<;>simp
theorem nX (p:BitVec 16→Bool):∀(L out:List (BitVec 16)),out.length≤(L.foldl (eH p) out).length
 |[],_=>Nat.le_refl _
 |s::L,out=>Nat.le_trans (stepF_len p out s) (nX p L _)
theorem pK (p:BitVec 16→Bool):∀(L out:List (BitVec 16)),(L.foldl (eH p) out).length≤out.length+L.length
 |[],_=>Nat.le_refl _
 |s::L,out=>by
  have h:=pK p L (eH p out s)
  have h2:(eH p out s).length≤out.length+1:=by unfold eH;split<;>simp
  simp only[List.foldl_cons,List.length_cons];omega
theorem oA (p:BitVec 16→Bool):∀(L out:List (BitVec 16)),L.foldl (eH p) out=(L.filter p).foldl (fun out a=>if out.any (fun y=>sub y a)then out else out++[a]) out
 |[],_=>rfl
 |s::L,out=>by
  rw[List.foldl_cons,oA p L]
  unfold eH acc
  cases h:p s with
  |false=>rw[List.filter_cons_of_neg (by simp[h])];simp
  |true=>
   rw[List.filter_cons_of_pos h,List.foldl_cons]
   cases h2:out.any fun y=>sub y s<;>simp
theorem srt_id (l:List (BitVec 16)) (h:l.Pairwise fun x y=>key x<key y):srt l=l:=iQ (fun _ _=>qK) _ _ (fun a=>qH a l) (kE l) h
theorem kL (p:BitVec 16→Bool) (L:List (BitVec 16)) (hL:L.Pairwise fun x y=>key x<key y):eY p L=nL (L.filter p):=by
 unfold eY nL;rw[oA,srt_id _ (jJ hL)];rfl
def okS (l:List (BitVec 16)):Prop:=(l.Pairwise fun x y=>key x<key y)∧(∀a,a∈l→∀b,b∈l→sub a b=true→a=b)∧∀a,a∈l→a.toNat<4096
theorem okS_least (l:List (BitVec 16)) (h:∀a,a∈l→a.toNat<4096):okS (nL l):=by
 refine⟨jC l,fun a ha b hb hab=> ?_,fun a ha=>h a ((dJ l a).1 ha).1⟩;by_cases e:a=b
 ·exact e
 ·have:=((dJ l b).1 hb).2 a ((dJ l a).1 ha).1 e;rw[this]at hab;cases hab
theorem sub_lt {u s:BitVec 16} (h:sub u s=true) (hs:s.toNat<4096):u.toNat<4096:=by
 apply Classical.byContradiction;intro hn;have hu:=u.isLt
 have:∃i,12≤i∧i<16∧u.toNat/2^i%2=1:=by
  apply Classical.byContradiction;intro hx;have h12:¬u.toNat/2^12%2=1:=fun e=>hx ⟨12,by omega,by omega,e⟩;have h13:¬u.toNat/2^13%2=1:=fun e=>hx ⟨13,by omega,by omega,e⟩;have h14:¬u.toNat/2^14%2=1:=fun e=>hx ⟨14,by omega,by omega,e⟩;have h15:¬u.toNat/2^15%2=1:=fun e=>hx ⟨15,by omega,by omega,e⟩;omega
 obtain⟨i,h1,h2,h3⟩:=this;have h4:=pY h i h2;have h5:s.toNat/2^i=0:=Nat.div_eq_of_lt (Nat.lt_of_lt_of_le hs (Nat.pow_le_pow_right (n:=2) (by decide) h1));rw[h3,h5]at h4;omega
theorem okS_fam (p:BitVec 16→Bool) (U:BitVec 16) (hU:U.toNat<4096):okS (eY p (bN U)):=by
 rw[kL p _ (dD U)];exact okS_least _ fun a ha=>sub_lt (fF.1 (List.mem_filter.1 ha).1) hU
theorem qJ (p:BitVec 16→Bool) (U a:BitVec 16):a∈eY p (bN U)↔(sub a U=true∧p a=true)∧∀b,sub b U=true→p b=true→b≠a→sub b a=false:=by
 rw[kL p _ (dD U),dJ,List.mem_filter,fF];constructor
 ·rintro⟨h1,h2⟩;exact⟨h1,fun b hb hp hne=>h2 b (List.mem_filter.2 ⟨fF.2 hb,hp⟩) hne⟩
 ·rintro⟨h1,h2⟩;exact⟨h1,fun b hb hne=>h2 b (fF.1 (List.mem_filter.1 hb).1) (List.mem_filter.1 hb).2 hne⟩
theorem fam_len (p:BitVec 16→Bool) (L:List (BitVec 16)):(eY p L).length≤L.length:=by
 have:=pK p L [];simpa[eY]using this
theorem qA {S:Type} (g:S→BitVec 16→Nat×S) (p:BitVec 16→Bool) (outOf:S→List (BitVec 16)) (put:S→List (BitVec 16)→S) (m:Nat)
  (hg:∀st x,(eH p (outOf st) x).length≤m→g st x=(0,put st (eH p (outOf st) x))) (h1:∀st l,outOf (put st l)=l) (h2:∀st l l',put (put st l) l'=put st l') (h3:∀st,put st (outOf st)=st):
  ∀(L:List (BitVec 16)) (st:S),(L.foldl (eH p) (outOf st)).length≤m→dP g L st=(0,put st (L.foldl (eH p) (outOf st)))
 |[],st,_=>by rw[List.foldl_nil,h3];rfl
 |x::L,st,h=>by
  rw[List.foldl_cons]at h⊢
  have e:=hg st x (Nat.le_trans (nX p L _) h)
  have hz:(g st x).1=0:=by rw[e]
  rw[fS hz,e]
  have ih:=qA g p outOf put m hg h1 h2 h3 L (put st (eH p (outOf st) x)) (by rw[h1];exact h)
  rw[ih,h1,h2]
/-! ### with plain numbers -/
def yZ (x:List (BitVec 16)) (s:BitVec 16):Bool:=x.all fun y=> !((y&&&s)==0#16)
def iA (x:List (BitVec 16)):BitVec 16:=x.foldl (fun w a=>w|||a) 0#16
def vW (x:List (BitVec 16)):List (BitVec 16):=eY (yZ x) (bN (iA x))
theorem supp_lt (x:List (BitVec 16)):∀(w:BitVec 16),w.toNat<4096→(∀a,a∈x→a.toNat<4096)→(x.foldl (fun w a=>w|||a) w).toNat<4096:=by
 induction x with
 |nil=>intro w h _;exact h
 |cons a x ih=>
  intro w h h2;refine ih _ ?_ fun b hb=>h2 b (List.mem_cons_of_mem _ hb);rw[BitVec.toNat_or];exact Nat.or_lt_two_pow (n:=12) h (h2 a (List.mem_cons_self ..))
end Go.Abs
namespace Go.Abs
/-! ### members -/
def memOK (w:Nat):Bool:=
 decide (f101 (BitVec.ofNat 16 w)=some ((lowN 12 w:Nat):Int))&&decide ((BitVec.ofNat 16 w&&&(BitVec.ofNat 16 w-BitVec.ofInt 16 1)).toNat=w-2^lowN 12 w)&&decide (gB w 16=lowN 12 w::gB (w-2^lowN 12 w) 16)
theorem memOK_all :((List.range 4096).all fun w=>w==0||memOK w)=true:=by kernel_rfl
theorem memOK_of {w:Nat} (h:w<4096) (h0:w≠0):f101 (BitVec.ofNat 16 w)=some ((lowN 12 w:Nat):Int)∧(BitVec.ofNat 16 w&&&(BitVec.ofNat 16 w-BitVec.ofInt 16 1)).toNat=w-2^lowN 12 w∧gB w 16=lowN 12 w::gB (w-2^lowN 12 w) 16:=by
 have:=List.all_eq_true.1 memOK_all w (List.mem_range.2 h);simp only[Bool.or_eq_true,beq_iff_eq,h0,false_or]at this;unfold memOK at this;simp only[Bool.and_eq_true,decide_eq_true_eq]at this;exact⟨this.1.1,this.1.2,this.2⟩
theorem f93_L0_eq (K:List Int→Option eC):∀(n:Nat) (w:BitVec 16) (k:Nat) (l:List Int),w.toNat≤n→w.toNat<4096→n+1<k→l.length+n≤100000→
  jK K k (w,l)=K (l++(gB w.toNat 16).map fun i:Nat=>(i:Int)):=by
 intro n
 induction n with
 |zero=>
  intro w k l hw hw2 hk hl;obtain⟨k,rfl⟩:∃q,k=q+1:=⟨k-1,by omega⟩;have e:w=0#16:=BitVec.eq_of_toNat_eq (by simp;omega);subst e;rw[jK.eq_2,if_neg (by decide)];have:gB (0#16).toNat 16=[]:=by decide
  rw[this];simp
 |succ n ih=>
  intro w k l hw hw2 hk hl;obtain⟨k,rfl⟩:∃q,k=q+1:=⟨k-1,by omega⟩;by_cases h0:w.toNat=0
  ·have e:w=0#16:=BitVec.eq_of_toNat_eq (by simp;omega);subst e;rw[jK.eq_2,if_neg (by decide)];have:gB (0#16).toNat 16=[]:=by decide
   rw[this];simp
  ·obtain⟨h1,h2,h3⟩:=memOK_of hw2 h0;have e:BitVec.ofNat 16 w.toNat=w:=by simp
   rw[e]at h1 h2;have hp:0<2^lowN 12 w.toNat:=Nat.pow_pos (by decide)
   have hne:(!(w==(BitVec.ofInt 16 0)))=true:=by
    have:w≠0#16:=fun e=>h0 (by rw[e];rfl);simpa using this
   rw[jK.eq_2,if_pos hne,h1,aD,aC (by omega),ih _ k _ (by rw[h2];omega) (by rw[h2];omega) (by omega) (by simp;omega),h2,h3];simp
theorem f93_eq (w:BitVec 16) (h:w.toNat<4096):f93 w=some ((gB w.toNat 16).map fun i:Nat=>(i:Int)):=by
 unfold f93;rw[cD,f93_L0_eq _ 4096 w bG [] (by omega) h (by unfold bG;omega) (by simp)];simp
/-! ### the numbers with as many bits -/
end Go.Abs
