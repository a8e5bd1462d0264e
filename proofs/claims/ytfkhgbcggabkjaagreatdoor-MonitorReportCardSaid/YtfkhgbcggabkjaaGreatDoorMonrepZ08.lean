/- Part 8 of the proof: AbsN, AbsO. -/
import Derived.Test.YtfkhgbcggabkjaaGreatDoorMonrepZ07
import Derived.KernelRfl
namespace Go.Abs
open Go
abbrev aaI:=@Le.trans
theorem zN {P:Program} {W:List Nat} {ops:Array Oper}:∀(n:Nat) {l l':List Oper} {s s':S} {φ:Prop},aC4 P W ops n l s=some (l',s',φ)->l'=l.drop n
 |0,l,l',s,s',φ,h=>by simp only[aC4]at h;cases h;rfl
 |n+1,[],l',s,s',φ,h=>by simp only[aC4]at h;cases h;simp
 |n+1,o::l,l',s,s',φ,h=>by
  simp only[aC4]at h
  split at h
  case h_2=>cases h
  split at h
  case h_2=>cases h
  rename_i hr
  cases h
  simpa using zN n hr
def chunkF (P:Program) (W:List Nat) (ops:Array Oper) (n:Nat) (ds rs:List Nat) (l:List Oper) (s:S):Option (S×Prop):=
 match aC4 P W ops n l s with
 |some (_,s',φ)=>some (proj s' ds rs,φ)
 |none=>none
theorem vX.some {P:Program} (W:List Nat) {ops:Array Oper} {Q:Exit->S->Prop} (n:Nat) (ds rs:List Nat) {l:List Oper} {s:S} (s':S) (φ:Prop) (h:chunkF P W ops n ds rs l s=some (s',φ)) (hφ:φ)
  (hK:vX P ops Q (l.drop n) s'):vX P ops Q l s:=by
 unfold chunkF at h;split at h
 case h_2=>cases h
 rename_i l1 s1 φ1 hr;cases h;rw[<-zN n hr]at hK;exact aAT n hr hφ (.le (.proj s1 ds rs) hK)
theorem AWp.all {P:Program} (W:List Nat) {Q:Exit->S->Prop} {id:Nat} (ds rs:List Nat) {l:List Oper} {s:S} (s':S) (φ:Prop) (h:chunkF P W l.toArray l.length ds rs l s=some (s',φ)) (hφ:φ)
  (hK:Q .normal s'):AWp P (.region id l.toArray false) Q s:=
 .region (.some W l.length ds rs s' φ h hφ (by rw[List.drop_length];exact .nil hK))
theorem nP {N:S->Prop} {Q:Exit->S->Prop} {s:S} (h:N s):zT N Q .normal s:=h
theorem aB5 {N:S->Prop} {Q:Exit->S->Prop} {s:S} {id:Nat} (h:Q (.exit id) s):zT N Q (.exit id) s:=h
theorem thenQ_ret {N:S->Prop} {Q:Exit->S->Prop} {s:S} (h:Q .ret s):zT N Q .ret s:=h
theorem vU {id:Nat} {Q:Exit->S->Prop} {s:S} (h:Q .normal s):uC id Q .normal s:=h
theorem aCU {id:Nat} {Q:Exit->S->Prop} {s:S} (h:Q .ret s):uC id Q .ret s:=h
theorem aAQ {id:Nat} {Q:Exit->S->Prop} {s:S} (h:Q .normal s):uC id Q (.exit id) s:=by simpa[uC]using h
theorem zM {P:Program} {fn:Func} {b:List Nat} {R:V->aJ->Prop} {s:S} (v:V) (hv:resV P fn s=some v) (hR:R v s.h) (hb:s.b=b):vT P fn b R .ret s:=⟨v,hv,hR,hb⟩
theorem gI {P:Program} {fn:Func} {b:List Nat} {R:V->aJ->Prop} {s:S} (v:V) (hv:resV P fn s=some v) (hR:R v s.h) (hb:s.b=b):vT P fn b R .normal s:=⟨s,fun _ _ _ h=>h,v,hv,hR,hb⟩
theorem pU {P:Program} {fn:Func} {b:List Nat} {R:V->aJ->Prop} {s s':S} (h:Le s s') (h':vT P fn b R .normal s'):vT P fn b R .normal s:=h'.elim fun s2 h2=>⟨s2,aaI h h2.1,h2.2⟩
/-! ### Lists as rows -/
def bY {α:Type} (enc:α->List V) (d:α) (l:List α):Nat->Nat->V:=fun i j=>(enc (l.getD i d)).getD j .any
def vL {α:Type} (sz:Nat) (enc:α->List V) (d:α) (l:List α):V:= .arr sz l.length (bY enc d l)
def bL {α:Type} (e:TypeId) (sz:Nat) (enc:α->List V) (d:α) (l:List α):Blk:= .rows e sz l.length (bY enc d l)
section
variable {α:Type} {e:TypeId} {sz:Nat} {enc:α->List V} {d:α}
theorem BLe.one {x:α} {cs:List V} (h:cs=enc x):BLe (.rows e sz (0+1) (dE sz cs)) (bL e sz enc d [x]):=by
 subst h;refine .rows_eq (by simp) fun i j hi hj=> ?_;obtain rfl:i=0:=by omega
 simp[bY,dE,aaC]
theorem BLe.app {l m:List α}:BLe (.rows e sz (l.length+m.length) (fH l.length (bY enc d l) (bY enc d m))) (bL e sz enc d (l++m)):=by
 refine .rows_eq (by simp) fun i j hi hj=> ?_;unfold fH bY;by_cases h:i<l.length
 ·rw[if_pos h];simp[aaC,abU h]
 ·rw[if_neg h];simp[aaC,abQ (aeE h)]
theorem BLe.app0 {m:List α}:BLe (.rows e sz (0+m.length) (bY enc d m)) (bL e sz enc d m):= .rows_eq (by simp) fun _ _ _ _=>rfl
theorem BLe.empty {f:Nat->Nat->V}:BLe (.rows e sz 0 f) (bL e sz enc d []):= .rows_eq rfl fun i _ hi=>by omega
theorem BLe.set {l:List α} {x:α} {i off:Nat} {cs:List V} (_hi:i<l.length) (h:∀j,j<sz->(if off<=j/\j<off+cs.length then cs.getD (j-off) .any else(enc (l.getD i d)).getD j .any)=(enc x).getD j .any):
  BLe (.rows e sz l.length (aC0 (bY enc d l) i off cs)) (bL e sz enc d (l.set i x)):=by
 refine .rows_eq (by simp) fun i' j hi' hj=> ?_;unfold aC0 bY;by_cases hii:i'=i
 ·subst hii;have:=h j hj;simp only[true_and];rw[this];simp[aaC,hi']
 ·rw[if_neg (fun h=>hii h.1)];simp[aaC,afE (Ne.symm hii)]
end
end Go.Abs
namespace Go.Abs
open Go
structure Eff where
  d:Option Nat
  v:V
  t0:List (Nat×V)
  hr:aJ
  h0:aJ
  h1:aJ
  nw:List Nat
def putT (d:Option Nat) (v:V) (t:List (Nat×V)):List (Nat×V):=match d with
  |some d=>(d,v)::t
  |none=>t
def dP (h:aJ):List Nat:=h.map (·.1)
def kJ (s:S) (e:Eff):S:=⟨s.N,putT e.d e.v (qB e.nw s.t),e.h1++nW e.nw (dels (dP e.h0) s.h),s.b,s.o⟩
def dQ (_z:Start) (St:Nat->Prop) (g:Gh) (h:aJ) (w:World) (h0:aJ) (lent:List Nat):Start:=
  ⟨w,fun k=>St k\/∃r b v,r∈lent/\h.get r=some b/\g r=some v/\cF v k,fun k=>∃r b v,h0.get r=some b/\g r=some v/\cF v k,g,none⟩
section
variable {z:Start} {St:Nat->Prop} {g:Gh} {h h0:aJ} {w:World}
theorem own_lt (hW:WSim z St g h w):∀r b v k,h.get r=some b->g r=some v->cF v k->k<w.heap.size:=by
  intro r b v k h1 h2 h3;obtain⟨v',h4,h5⟩:=hW.ok r b h1;rw[h2]at h4;cases h4;exact h5.lt k h3
theorem pR (hW:WSim z St g h w) (hsb:hcov h h0) (lent:List Nat) (hlent:lent.all (fun r=>(h0.get r).isNone)=true):
    WSim (dQ z St g h w h0 lent) (dQ z St g h w h0 lent).St g h0 w:=by
  have hin:∀r b,h0.get r=some b->∃b',h.get r=some b'/\BLe b' b:=fun r b hb=>mE hsb r b hb
  have hlnot:∀r,r∈lent->h0.get r=none:=fun r hr=>by
    have:=aaX.1 hlent r hr;simpa using this
  refine⟨Frm.refl _ _,fun _ h=>h,fun k hk=>⟨?_,.inl hk⟩,fun r b v h1 h2 k h3=>⟨?_,.inl ⟨r,b,v,h1,h2,h3⟩⟩,fun r b h1=> ?_,fun r r' b b' v v' h1 h1' h2 h2'=> ?_⟩
  · rcases hk with hk|⟨r,b,v,_,h1,h2,h3⟩
    · exact(hW.st1 k hk).1
    · exact own_lt hW r b v k h1 h2 h3
  · obtain⟨b',h4,_⟩:=hin r b h1
    rintro(h5|⟨r',b2,v',hr',h6,h7,h8⟩)
    · exact(hW.ow r b' v h4 h2 k h3).1 h5
    · have hne:r≠r':=fun e=>by subst e;rw[hlnot r hr']at h1;cases h1
      exact hW.sep r r' b' b2 v v' h4 h6 h2 h7 hne k h3 h8
  · obtain⟨b',h4,hbl⟩:=hin r b h1
    obtain⟨v,h2,h3⟩:=hW.ok r b' h4;exact⟨v,h2,hbl _ _ _ _ (h3.mono (fun _ hk=> .inl hk) (fun _ _=>rfl) (fun _ _=>rfl) (r:=r) (fun _ _=>rfl) (.inr rfl))⟩
  · obtain⟨b2,h4,_⟩:=hin r b h1;obtain⟨b2',h4',_⟩:=hin r' b' h1'
    exact hW.sep r r' b2 b2' v v' h4 h4' h2 h2'
def outOk (s:S) (lent:List Nat) (h0 h1:aJ) (nw:List Nat) (r:V):Prop:=
  V.within (dP h1) r=true/\aJ.within (dP h1) h1=true/\(∀k,k∈dP h1->(dels (dP h0) s.h).get k=none)/\(∀k,k∈s.b->k∉nw)/\(∀k,k∈nw->k∈dP h1)/\(lent=[]\/(r.flat=true/\aJ.Flat h1))
theorem aCx {p:Prop} {s:S} (hW:WSim z St g s.h w) {a:Act} (hT:eL St w g s.N s.t a) (hK:KD z St w g s.b a) (hsb:hcov s.h h0) (lent:List Nat)
    {h1:aJ} {nw:List Nat} {r:V} {x:Value} {d:Option Nat} (hd:∀k,d=some k->k<s.N) {w':World} {St':Nat->Prop} {g':Gh} (hW':WSim (dQ z St g s.h w h0 lent) St' g' h1 w') (hrx:d≠none->Rel St' w' g' r x)
    (hkeep:∀k,k∈dP h1->k∉nw->g' k=g k) (hp:p->∀k,(∃r b v,r∈lent/\s.h.get r=some b/\g r=some v/\cF v k)->∃rr,w'.heap[k]? =some (.loop rr))
    (hok:V.within (dP h1) r=true/\aJ.within (dP h1) h1=true/\(∀k,k∈dP h1->(dels (dP h0) s.h).get k=none)/\(∀k,k∈s.b->k∉nw)/\(∀k,k∈nw->k∈dP h1)/\((lent=[]\/p)\/(r.flat=true/\aJ.Flat h1))) {t0:List (Nat×V)} {e:Eff} (he:e=⟨d,r,t0,e.hr,h0,h1,nw⟩):Sim z (kJ s e) (a.put d x) w':=by
  let Lb:Nat->Prop:=fun k=>∃r b v,r∈lent/\s.h.get r=some b/\g r=some v/\cF v k
  have hin:∀r b,h0.get r=some b->∃b',s.h.get r=some b'/\BLe b' b:=fun r b hb=>mE hsb r b hb;have hlt:=own_lt hW;obtain⟨hwr,hwh,hdis,hbb,hnw1,hfl⟩:=hok;let g'':Gh:=fun k=>if(h1.get k).isSome then g' k else g k
  let St'':Nat->Prop:=fun k=>St' k/\¬Lb k
  have hSS:∀k,St k->St'' k:=by
    intro k hk;refine⟨hW'.st0 k (.inl hk), ?_⟩;rintro⟨r,b,v,_,h2,h3,h4⟩;exact(hW.ow r b v h2 h3 k h4).1 hk
  have hids':∀k,k∈dP h1->g'' k=g' k:=fun k hk=>by
    obtain⟨b,hb⟩:=aJ.mem_get hk;simp[g'',hb]
  have hnew:∀k,k∉nw->g'' k=g k:=by
    intro k hk;by_cases h:(h1.get k).isSome
    · have hm:k∈dP h1:=by obtain⟨b,hb⟩:=Option.isSome_iff_exists.1 h;exact aJ.get_mem hb
      simp[g'',h,hkeep k hm hk]
    · simp[g'',h]
  have hflat:∀{v:V} {y:Value} {gg:Gh},Rel St' w' gg v y->((lent=[]\/p)\/v.flat=true)->Rel St'' w' gg v y:=by
    intro v y gg hv hl;rcases hl with(hl|hl)|hl
    rotate_left
    · refine hv.cut (fun k hk hd=>⟨hk,fun hl2=> ?_⟩) (fun _ _=>rfl)
      obtain⟨rr,hrr⟩:=hp hl k hl2;exact uL hd rr hrr
    · exact hv.flat hl
    · refine hv.mono (fun k hk=>⟨hk, ?_⟩) (fun _ _=>rfl)
      rintro⟨r,b,v,hr,_⟩;rw[hl]at hr;cases hr
  have hStw:∀k,St k->w'.heap[k]? =w.heap[k]? :=by
    intro k hk;refine hW'.frm.block k (hW.st1 k hk).1 ?_;rintro⟨r,b,v,h2,h3,h4⟩;obtain⟨b',h5,_⟩:=hin r b h2;exact(hW.ow r b' v h5 h3 k h4).1 hk
  let hr:=nW nw (dels (dP h0) s.h)
  have hrest:∀k b,hr.get k=some b->∃b0,s.h.get k=some b0/\h0.get k=none/\h1.get k=none/\∀St w v,dG St w g v b0->dG St w g'' v b:=by
    intro k b hb
    have key:∃b0,(dels (dP h0) s.h).get k=some b0:=by
      obtain⟨b0,h2,_⟩:=vN (St:=St) (w:=w) nw (g:=g) (g':=g'') hb hnew;exact⟨b0,h2⟩
    obtain⟨b0,h2⟩:=key;have h3:=h2;rw[pQ]at h3;split at h3
    · cases h3
    · rename_i hnm
      have e0:h0.get k=none:=by
        cases hc:h0.get k with
        |none=>rfl
        |some c=>exact absurd (aJ.get_mem hc) hnm
      have e1:h1.get k=none:=by
        cases hc:h1.get k with
        |none=>rfl
        |some c=>
          have:=hdis k (aJ.get_mem hc);rw[h2]at this;cases this
      refine⟨b0,h3,e0,e1,fun St w v hv=> ?_⟩;obtain⟨b0',h4,h5⟩:=vN (St:=St) (w:=w) nw (g:=g) (g':=g'') hb hnew;rw[h2]at h4;cases h4;exact h5 v hv
  have hget:∀k b,aJ.get (h1++hr) k=some b->h1.get k=some b\/(h1.get k=none/\hr.get k=some b):=by
    intro k b hb;rw[aJ.get_append]at hb
    cases hc:h1.get k with
    |none=>rw[hc]at hb;exact .inr ⟨rfl,hb⟩
    |some c=>rw[hc]at hb;cases hb;exact .inl rfl
  have hownc:∀k,(dQ z St g s.h w h0 lent).Own k->z.Own k\/z.w.heap.size<=k:=by
    rintro k ⟨r,b,v,h2,h3,h4⟩;obtain⟨b',h5,_⟩:=hin r b h2;exact(hW.ow r b' v h5 h3 k h4).2
  have hNput:∀{t:List (Nat×V)} {gg:Gh} {Su:Nat->Prop},eL Su w' gg s.N t a->(d≠none->Rel Su w' gg r x)->eL Su w' gg s.N (putT d r t) (a.put d x):=by
    intro t gg Su ht hx
    cases d with
    |none=>exact ht
    |some k=>exact ht.put (hd k rfl) (hx (by simp))
  have haf:kJ s e=⟨s.N,putT d r (qB nw s.t),h1++hr,s.b,s.o⟩:=by rw[he];rfl
  rw[haf]
  refine ⟨St'', g'', ⟨⟨hW'.frm.os.trans hW.frm.os,hW'.frm.tape.trans hW.frm.tape,hW'.frm.output.trans hW.frm.output,aeF hW.frm.size hW'.frm.size,fun k hk hno=> ?_⟩,
    fun k hk=>hSS k (hW.st0 k hk),fun k hk=> ?_, ?_, ?_, ?_⟩, ?_,hK.to hSS hStw (put_defers ..) (fun k hk=>hnew k (hbb k hk))⟩
  · rw[<-hW.frm.block k hk hno]
    refine hW'.frm.block k (aeD hk hW.frm.size) fun hc=> ?_;rcases hownc k hc with h2|h2
    · exact hno h2
    · omega
  · obtain⟨h2,h3⟩:=hW'.st1 k hk.1
    refine⟨h2, ?_⟩;rcases h3 with(h3|h3)|h3|h3
    · exact(hW.st1 k h3).2
    · exact absurd h3 hk.2
    · rcases hownc k h3 with h4|h4
      · exact .inr (.inl h4)
      · exact .inr (.inr h4)
    · exact .inr (.inr (aeF hW.frm.size h3))
  · intro k b v hb hv q hq
    rcases hget k b hb with h2|⟨h2,h3⟩
    · have e:g' k=some v:=by rw[<-hids' k (aJ.get_mem h2)];exact hv
      obtain⟨h4,h5⟩:=hW'.ow k b v h2 e q hq;refine⟨fun h=>h4 h.1, ?_⟩;rcases h5 with h5|h5
      · exact hownc q h5
      · exact .inr (aeF hW.frm.size h5)
    · obtain⟨b0,h4,h5,h6,h7⟩:=hrest k b h3
      have e : g k = some v := by have : g'' k = g k := by simp [g'', h6]
                                  rw[<-this];exact hv
      obtain⟨h8,h9⟩:=hW.ow k b0 v h4 e q hq;refine⟨?_,h9⟩;rintro⟨h10,h11⟩;rcases(hW'.st1 q h10).2 with(h12|h12)|h12|h12
      · exact h8 h12
      · exact h11 h12
      · obtain⟨r',b',v',h13,h14,h15⟩:=h12
        obtain⟨b2,h16,_⟩:=hin r' b' h13;have hne:k≠r':=fun e=>by subst e;rw[h5]at h13;cases h13
        exact hW.sep k r' b0 b2 v v' h4 h16 e h14 hne q hq h15
      · have:=hlt k b0 v q h4 e hq
        have h12':w.heap.size<=q:=h12;omega
  · intro k b hb
    rcases hget k b hb with h2|⟨h2,h3⟩
    · obtain⟨v,h4,h5⟩:=hW'.ok k b h2
      refine⟨v,by rw[hids' k (aJ.get_mem h2)];exact h4, ?_⟩;have h6:=h5.ghost hids' (aJ.within_get hwh h2);have hf:(lent=[]\/p)\/b.Flat:=hfl.imp id fun h=>aJ.Flat_get h.2 h2
      cases b with
      |cells t cs=>
        obtain⟨bb,vals',rfl,h7,h8,h9,h10⟩:=h6
        exact⟨bb,vals',rfl,h7,h8,fun i hi=>hflat (h9 i hi) (hf.imp id fun h=>V.flatAll_get h),h10⟩
      |rows e sz n f=>
        obtain⟨xs,h7,h8,h9⟩:=h6
        exact⟨xs,h7,fun i j hi hj=>hflat (h8 i j hi hj) (hf.imp id fun h=>h i j hi hj),h9⟩
      |iter n kf vf seen=>
        obtain⟨bb,m,h7,h8,h9⟩:=h6
        exact⟨bb,m,h7,h8,hflat h9 (hf.imp id fun h=>h.elim)⟩
      |siter l pos=>exact h6
      |mapI n kf o hole hq=>
        obtain⟨bb,es,h7,h8,h9,h10,h11,h12⟩:=h6
        exact⟨bb,es,h7,h8,h9,h10,fun i hi=>hflat (h11 i hi) (hf.imp id fun h=>h i hi),h12⟩
      |fam e sz n m f hole=>
        obtain⟨a,h7,h8,h9,h10,h11⟩:=h6;refine⟨a,h7,h8,fun i hi hx=> ?_,h10,h11⟩;obtain⟨xs,ho,h1,h2⟩:=h9 i hi hx
        exact⟨xs,ho,fun j k hj hk=>hflat (h1 j k hj hk) (hf.imp id fun h=>h i j k hi hj hk),h2⟩
      |yld o k=>
        obtain⟨l,r,h7,h8,h9⟩:=h6;refine⟨l,r,h7,h8, ?_⟩
        cases o with
        |none=>trivial
        |some p=>
          obtain⟨ids,C⟩:=p;obtain⟨i1,i2,i3,i4,i5,i6,i6',i7,i8,i9⟩:=h9
          exact⟨i1,i2,i3,i4,i5,i6,i6',i7,i8,fun d=>hflat (i9 d) (hf.imp id fun h=>by cases h)⟩
      |mapB n kf vf=>
        obtain⟨bb,es,h7,h8,h9,h10,h11,h12⟩:=h6;exact⟨bb,es,h7,h8,h9,h10,fun i hi=>hflat (h11 i hi) (hf.imp id fun h=>(h i hi).1),fun i hi=>hflat (h12 i hi) (hf.imp id fun h=>(h i hi).2)⟩
    · obtain⟨b0,h4,h5,h6,h7⟩:=hrest k b h3
      obtain⟨v,h8,h9⟩:=hW.ok k b0 h4
      refine ⟨v, by have : g'' k = g k := by simp [g'', h6]
                    rw[this];exact h8,h7 _ _ v ?_⟩
      refine h9.mono hSS hStw (fun q hq=> ?_) (r:=k) (fun _ _=>rfl) (.inr rfl);refine hW'.frm.block q (hlt k b0 v q h4 h8 hq) ?_;rintro⟨r',b',v',h13,h14,h15⟩;obtain⟨b2,h16,_⟩:=hin r' b' h13;have hne:k≠r':=fun e=>by subst e;rw[h5]at h13;cases h13
      exact hW.sep k r' b0 b2 v v' h4 h16 h8 h14 hne q hq h15
  · intro k k' b b' v v' hb hb' hv hv' hne q hq hq'
    have mixed:∀k k' b b' v v',h1.get k=some b->h1.get k'=none->hr.get k'=some b'->g'' k=some v->g'' k'=some v'->cF v q->cF v' q->False:=by
      intro k k' b b' v v' h2 h2' h3' hv hv' hq hq';have e:g' k=some v:=by rw[<-hids' k (aJ.get_mem h2)];exact hv
      obtain⟨b0,h4,h5,h6,h7⟩:=hrest k' b' h3'
      have e' : g k' = some v' := by have : g'' k' = g k' := by simp [g'', h6]
                                     rw[<-this];exact hv'
      have hql:=hlt k' b0 v' q h4 e' hq';rcases(hW'.ow k b v h2 e q hq).2 with⟨r',b2,v2,h13,h14,h15⟩|h8
      · obtain⟨b3,h16,_⟩:=hin r' b2 h13
        have hne:k'≠r':=fun e=>by subst e;rw[h5]at h13;cases h13
        exact hW.sep k' r' b0 b3 v' v2 h4 h16 e' h14 hne q hq' h15
      · have h8':w.heap.size<=q:=h8
        omega
    rcases hget k b hb with h2|⟨h2,h3⟩<;>rcases hget k' b' hb' with h2'|⟨h2',h3'⟩
    · have e:g' k=some v:=by rw[<-hids' k (aJ.get_mem h2)];exact hv
      have e':g' k'=some v':=by rw[<-hids' k' (aJ.get_mem h2')];exact hv'
      exact hW'.sep k k' b b' v v' h2 h2' e e' hne q hq hq'
    · exact mixed k k' b b' v v' h2 h2' h3' hv hv' hq hq'
    · exact mixed k' k b' b v' v h2' h2 h3 hv' hv hq' hq
    · obtain⟨b0,h4,h5,h6,h7⟩:=hrest k b h3
      obtain⟨b0',h4',h5',h6',h7'⟩:=hrest k' b' h3'
      have e : g k = some v := by have : g'' k = g k := by simp [g'', h6]
                                  rw[<-this];exact hv
      have e' : g k' = some v' := by have : g'' k' = g k' := by simp [g'', h6']
                                     rw[<-this];exact hv'
      exact hW.sep k k' b0 b0' v v' h4 h4' e e' hne q hq hq'
  · have hT1:eL St'' w' g s.N s.t a:=⟨hT.1,hT.2.1,fun k=>(hT.2.2 k).mono hSS hStw⟩
    exact hNput (hT1.drops nw hnew) fun hdn=>hflat ((hrx hdn).within hids' hwr) (hfl.imp id fun h=>h.1)
theorem mJ {s:S} (hW:WSim z St g s.h w) {a:Act} (hT:eL St w g s.N s.t a) (hK:KD z St w g s.b a) (hsb:hcov s.h h0) (lent:List Nat)
    {h1:aJ} {nw:List Nat} {r:V} {x:Value} {d:Option Nat} (hd:∀k,d=some k->k<s.N) {w':World} {St':Nat->Prop} {g':Gh} (hW':WSim (dQ z St g s.h w h0 lent) St' g' h1 w') (hrx:d≠none->Rel St' w' g' r x)
    (hkeep:∀k,k∈dP h1->k∉nw->g' k=g k) (hok:outOk s lent h0 h1 nw r) {t0:List (Nat×V)} {e:Eff} (he:e=⟨d,r,t0,e.hr,h0,h1,nw⟩):Sim z (kJ s e) (a.put d x) w':=
  aCx (p:=False) hW hT hK hsb lent hd hW' hrx hkeep (fun h=>h.elim) ⟨hok.1,hok.2.1,hok.2.2.1,hok.2.2.2.1,hok.2.2.2.2.1,hok.2.2.2.2.2.imp .inl id⟩ he
end
end Go.Abs
