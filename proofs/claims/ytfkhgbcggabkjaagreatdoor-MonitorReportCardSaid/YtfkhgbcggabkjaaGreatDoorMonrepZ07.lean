/- Part 7 of the proof: AbsK, AbsL, AbsM. -/
import Derived.Test.YtfkhgbcggabkjaaGreatDoorMonrepZ06
import Derived.Sort.LoopGhostIn
import Derived.OrdersIn
import Derived.RangeFuncCalls
import Derived.RangeFuncRecord
namespace Go.Abs
open Go
abbrev acW:=@Array.getD_eq_getD_getElem?
abbrev adQ:=@Array.getElem?_eq_none
abbrev aeE:=@Nat.le_of_not_lt
abbrev agW:=@Option.bind_some
abbrev agX:=@Option.getD_some
/-! ### In whatever round -/
def lB (ro:Option Nat):Fence:={fn:=fun _=>True,depth:=none,alive:=false,round:=ro}
theorem callsR {ro:Option Nat} {n:Nat} {P:Program} {f:FuncId} {args:Array Value} {w:World} {R:Ending->World->Prop} (h:Calls P f args w R):CallsIn (lB ro) n P f args w R:=
 (callsIn_wide (n:=n)).2 h
theorem rowsR {ro:Option Nat} {n:Nat} {P:Program} {row:String} {args:Array Value} {w:World} {R:Value->World->Prop} (h:Rows P row args w R):RowsIn (lB ro) n P row args w R:=
 fun c cs _=>let⟨v,w',r,s⟩:=h c cs;⟨v,w',r,stepsIn_wide.2 s⟩
theorem opUp {ro:Option Nat} {P:Program} {o:Oper} {a:Act} {w:World} {K:Act->World->Prop} {Q:Exit->Act->World->Prop} (hd:∀c,o.op≠ .defer c) (h:o.wp P a w K Q):o.wpIn (lB ro) 1 P a w K Q:=by
 refine⟨fun _ _=>trivial, ?_⟩;rw[show(lB ro).round=ro from rfl,Oper.semAt_eq ro a.eval o hd];unfold Oper.wp at h;revert h;generalize(execOp a.eval o).run P w=res;intro h
 cases res with
 |ok nx w'=>
  cases nx with
  |enter f args=>exact⟨fun h=>(by cases h),callsR h⟩
  |row r args=>exact⟨fun h=>(by cases h),rowsR h⟩
  |value=>exact h
  |skip=>exact h
  |defer=>exact h
  |_=>exact h.elim
 |halt hl w'=>cases hl<;>first|exact h|exact h.elim
section
variable {ro:Option Nat} {P:Program} {ops:Array Oper} {Q:Exit->Act->World->Prop} {a:Act} {w:World} {o:Oper} {rest:List Oper}
abbrev lH (ro:Option Nat) (P:Program) (ops:Array Oper) (Q:Exit->Act->World->Prop):List Oper->Act->World->Prop:=wpListIn (lB ro) 1 P ops Q
theorem nO (hd : ∀ c, o.op ≠ .defer c) (h:∀K:Act->World->Prop,(∀a w,lH ro P ops Q rest a w->K a w)->
  if Region.wanted o (yielded ops a.tmps)then o.wp P a w K Q else K (a.put o.dst undef) w):lH ro P ops Q (o::rest) a w:=
 wpListIn_step fun K hK=>by
  have:=h K hK
  split
  ·rename_i hw;rw[if_pos hw]at this;exact opUp hd this
  ·rename_i hw;rw[if_neg hw]at this;exact⟨fun _ _=>trivial,this⟩
theorem fD (hd:∀c,o.op≠ .defer c) (hg:o.guard=none) (h:∀K:Act->World->Prop,(∀a w,lH ro P ops Q rest a w->K a w)->o.wp P a w K Q):lH ro P ops Q (o::rest) a w:=
 wpListIn_plain hg fun K hK=>opUp hd (h K hK)
end
theorem mZ {P:Program} {h:aJ} {wm c:Bool} {t:List (Nat×V)} {op:Op} {r:V×Prop} (hv:pval P h wm c t op=some r):∀c,op≠ .defer c:=by
 rintro c rfl;cases hv
theorem hop_nd {P:Program} {s:S} {d:Option Nat} {op:Op} {r:S×Prop} (hv:hop P s d op=some r):∀c,op≠ .defer c:=by
 rintro c rfl;cases hv
def tBin :BinOp->Bool
 | .eql=>true
 | .neq=>true
 | .lss=>true
 | .leq=>true
 | .gtr=>true
 | .geq=>true
 | .and=>true
 | .or=>true
 | .xor=>true
 | .andNot=>true
 |_=>false
def triv (t:List (Nat×V)):Op->Bool
 | .move _=>true
 | .assign _=>true
 | .fieldAddr _ _ _=>true
 | .field _ _ _=>true
 | .extract _ _=>true
 | .build _ _=>true
 | .makeFunc _ _ _=>true
 | .nilCheck _=>true
 | .call _=>true
 | .load _ a=>match ev t a with
  | .oelem _ _ _ _=>false
  |_=>true
 | .binOp op _ _ _ _=>tBin op
 | .unOp .not _ _=>true
 |_=>false
def trivH :Op->Bool
 | .alloc _=>true
 | .box _ _=>true
 | .buildSlice _ _ _=>true
 |_=>false
theorem triv_opV {P:Program} {wm:Bool} {op:BinOp} {ty:TypeId} {x y v:V} {φ:Prop} (h:opV P wm op ty x y=some (v,φ))
  (ht:tBin op=true):φ:=by
 unfold opV at h;split at h
 ·cases op<;>simp only[eqlV,reduceCtorEq]at h
  all_goals
   split at h
   ·rw[aaQ]at h;obtain⟨q,_,he⟩:=h;cases he;trivial
   ·cases h
 ·split at h
  ·cases op<;>simp only[reduceCtorEq]at h<;>cases h<;>trivial
  ·cases h
 ·split at h
  ·cases op<;>simp only[reduceCtorEq]at h<;>cases h<;>trivial
  ·cases h
 ·split at h
  ·cases op<;>simp only[reduceCtorEq]at h<;>cases h<;>trivial
  ·cases h
 ·unfold binV at h;split at h
  ·cases op<;>(try (simp[tBin]at ht;done))
   all_goals
    dsimp only at h;split at h
    ·cases wm<;>simp only[intV,Option.some.injEq,Prod.mk.injEq]at h<;>obtain⟨_,rfl⟩:=h<;>trivial
    ·cases h
  ·cases op<;>(try (simp[tBin]at ht;done))
   all_goals
    simp only[b16V,Option.some.injEq,Prod.mk.injEq]at h;obtain⟨_,rfl⟩:=h;trivial
  ·cases op<;>(try (simp[tBin]at ht;done))<;>simp at h
  ·cases op<;>(try (simp[tBin]at ht;done))
   all_goals first
    |(simp only[strV,Option.some.injEq,Prod.mk.injEq]at h;obtain⟨_,rfl⟩:=h;trivial)
    |(simp[strV]at h)
  ·cases h
theorem iZ {P:Program} {h:aJ} {wm c:Bool} {t:List (Nat×V)} {op:Op} {v:V} {φ:Prop} (hv:pval P h wm c t op=some (v,φ)) (ht:triv t op=true):φ:=by
 cases op<;>simp only[triv,abL]at ht<;>simp only[pval]at hv
 case move=>cases hv;trivial
 case assign=>cases hv;trivial
 case fieldAddr=>rw[aaQ]at hv;obtain⟨_,_,he⟩:=hv;cases he;trivial
 case field=>rw[aaQ]at hv;obtain⟨_,_,he⟩:=hv;cases he;trivial
 case extract=>
  split at hv
  ·split at hv
   ·cases hv;trivial
   ·cases hv
  ·cases hv
 case build=>rw[aaQ]at hv;obtain⟨_,_,he⟩:=hv;cases he;trivial
 case makeFunc=>
  split at hv
  ·cases hv;trivial
  ·cases hv
 case nilCheck=>split at hv<;>cases hv<;>trivial
 case call=>
  split at hv
  ·rw[aaQ]at hv;obtain⟨_,_,he⟩:=hv;cases he;trivial
  ·cases hv
 case load ty a=>
  split at ht
  ·cases ht
  ·rename_i hne;unfold aCs at hv;split at hv
   ·split at hv
    ·rw[aaQ]at hv;obtain⟨_,_,he⟩:=hv;cases he;trivial
    ·cases hv
   ·rw[aaQ]at hv;obtain⟨_,_,he⟩:=hv;cases he;trivial
   ·rename_i he;exact absurd he (hne _ _ _ _)
   ·cases hv
 case binOp op ty x y yt=>exact triv_opV hv ht
 case unOp op ty x=>
  cases op<;>simp only[abL]at ht;generalize ev t x=u at hv;cases u<;>simp only[unV,reduceCtorEq,Option.some.injEq,Prod.mk.injEq]at hv;obtain⟨_,rfl⟩:=hv;trivial
theorem aAV {P:Program} {s s':S} {dst:Option Nat} {op:Op} {φ:Prop} (hv:hop P s dst op=some (s',φ)) (ht:trivH op=true):φ:=by
 cases op<;>simp only[trivH,abL]at ht<;>simp only[hop]at hv
 case alloc=>
  split at hv
  ·unfold nT at hv;split at hv<;>cases hv;trivial
  ·cases hv
 case box=>
  split at hv
  ·unfold nT at hv;split at hv<;>cases hv;trivial
  ·cases hv
 case buildSlice=>
  split at hv
  ·unfold fZ at hv;split at hv
   ·split at hv
    ·split at hv
     ·split at hv<;>cases hv;trivial
     ·cases hv
    ·cases hv
   ·cases hv
  ·cases hv
def jD (t:List (Nat×V)):List Operand->Bool
 |[]=>true
 |x::l=>match raw t x with
  | .opt _ _=>false
  |_=>jD t l
theorem dC {c:Bool} {t:List (Nat×V)}:∀{l:List Operand},jD t l=true->obl c t l
 |[],_=>trivial
 |x::l,h=>by
  simp only[jD]at h
  simp only[obl]
  split at h
  ·cases h
  ·rename_i hne
   split
   ·rename_i c' v' he;exact absurd he (hne c' v')
   ·exact dC h
def aAU :Option Prop->Prop->Prop
 |none,ψ=>ψ
 |some φ,ψ=>φ/\ψ
def lW (b:Bool) (φ:Prop) (nb:Bool) (o:Prop):Option Prop:=
 match b,nb with
 |true,true=>none
 |false,true=>some φ
 |true,false=>some o
 |false,false=>some (φ/\o)
theorem dY {b:Bool} {φ:Prop} {nb:Bool} {o ψ:Prop} (h:aAU (lW b φ nb o) ψ) (hb:b=true->φ) (hn:nb=true->o):φ/\o/\ψ:=by
 cases b<;>cases nb<;>simp only[lW,aAU]at h
 ·exact⟨h.1.1,h.1.2,h.2⟩
 ·exact⟨h.1,hn rfl,h.2⟩
 ·exact⟨hb rfl,h.1,h.2⟩
 ·exact⟨hb rfl,hn rfl,h⟩
def nX (ops:Array Oper) (t:List (Nat×V)) (j:Nat) (want:Bool):Option Bool:=
 match(ops[j]?).bind (·.dst)with
 |some d=>if G0<=d then none else match dD t d with
  | .bool b=>some (b==want)
  | .opt c (.bool b)=>some (c&&(b==want))
  |_=>none
 |none=>none
def uD (W:List Nat) (o:Oper):Bool:=match o.dst with
 |some d=>W.contains d
 |none=>false
def step (P:Program) (W:List Nat) (ops:Array Oper) (s:S) (o:Oper):Option (S×Option Prop):=
 match o.guard with
 |none=>
  match pval P s.h (uD W o) true s.t o.op with
  |some (v,φ)=>match o.dst with
   |some d=>if d<s.N then some (⟨s.N,(d,v)::s.t,s.h,s.b,s.o⟩,lW (triv s.t o.op) φ (jD s.t (bZ o.op)) (obl true s.t (bZ o.op)))else none
   |none=>some (s,lW (triv s.t o.op) φ (jD s.t (bZ o.op)) (obl true s.t (bZ o.op)))
  |none=>match hop P s o.dst o.op with
   |some (s',φ)=>some (s',lW (trivH o.op) φ (jD s.t (bZ o.op)) (obl true s.t (bZ o.op)))
   |none=>none
 |some (j,want)=>match nX ops s.t j want,o.dst with
  |some c,some d=>match pval P s.h (uD W o) c s.t o.op with
   |some (v,φ)=>if d<s.N then some (⟨s.N,(d,.opt c v)::s.t,s.h,s.b,s.o⟩,lW (triv s.t o.op) (c=true->φ) (jD s.t (bZ o.op)) (obl c s.t (bZ o.op)))else none
   |none=>none
  |_,_=>none
def aC4 (P:Program) (W:List Nat) (ops:Array Oper):Nat->List Oper->S->Option (List Oper×S×Prop)
 |0,l,s=>some (l,s,True)
 |_+1,[],s=>some ([],s,True)
 |n+1,o::l,s=>match step P W ops s o with
  |some (s',φ)=>match aC4 P W ops n l s' with
   |some (l',s'',ψ)=>some (l',s'',aAU φ ψ)
   |none=>none
  |none=>none
theorem step_wp {P:Program} {W:List Nat} {ops:Array Oper} {z:Start} {s s':S} {a:Act} {w:World} (hs:Sim z s a w) {o:Oper} {φ:Option Prop} {ψ:Prop} (hst:step P W ops s o=some (s',φ)) (hφ:aAU φ ψ)
  {Q:Exit->Act->World->Prop} {rest:List Oper} {ro:Option Nat} (hK:ψ->∀a' w',Sim z s' a' w'->lH ro P ops Q rest a' w'):lH ro P ops Q (o::rest) a w:=by
 unfold step at hst;split at hst
 ·rename_i hg;split at hst
  ·rename_i v φ' hv
   have fin:∀{ψ':Prop},(φ'/\obl true s.t (bZ o.op)/\ψ')->ψ'/\∃x,(execOp a.eval o).run P w= .ok (.value x) w/\(∃St g,WSim z St g s.h w/\eL St w g s.N s.t a/\KD z St w g s.b a/\Rel St w g v x):=by
    rintro ψ' ⟨h1,h2,h3⟩;obtain⟨St,g,hW,hT,hKp⟩:=hs;obtain⟨x,hx,hr⟩:=pK (P:=P) hW.ok hT rfl hv h1 h2;exact⟨h3,x,hx,St,g,hW,hT,hKp,hr⟩
   split at hst
   ·rename_i d hd;split at hst
    case isFalse=>cases hst
    rename_i hdN;cases hst;obtain⟨hψ,x,hx,St,g,hW,hT,hKp,hr⟩:=fin (dY hφ (iZ hv) dC);refine fD (mZ hv) hg fun K hKK=> ?_;unfold Oper.wp;rw[hx,Oper.upon_value,hd];exact hKK _ _ (hK hψ _ _ ⟨St,g,hW,hT.put hdN hr,hKp.to (fun _ h=>h) (fun _ _=>rfl) (put_defers ..) (fun _ _=>rfl)⟩)
   ·rename_i hd;cases hst;obtain⟨hψ,x,hx,St,g,hW,hT,hKp,hr⟩:=fin (dY hφ (iZ hv) dC);refine fD (mZ hv) hg fun K hKK=> ?_;unfold Oper.wp;rw[hx,Oper.upon_value,hd];exact hKK _ _ (hK hψ _ _ ⟨St,g,hW,hT,hKp⟩)
  ·split at hst
   case h_2=>cases hst
   rename_i s'' φ' hn;cases hst;obtain⟨h1,h2,h3⟩:=dY hφ (aAV hn) dC;refine fD (hop_nd hn) hg fun K hKK=> ?_;exact run_hop hs hn h1 h2 fun a' w' hsim=>hKK _ _ (hK h3 _ _ hsim)
 ·rename_i j want hg;split at hst
  case h_2=>cases hst
  rename_i c d hgc hd;split at hst
  case h_2=>cases hst
  rename_i v φ' hv;split at hst
  case isFalse=>cases hst
  rename_i hdN;cases hst;obtain⟨h1,h2,h3⟩:=dY hφ (fun ht _=>iZ hv ht) dC;obtain⟨St,g,hW,hT,hKp⟩:=hs
  have hwant:Region.wanted o (yielded ops a.tmps)=c:=by
   unfold nX at hgc;split at hgc
   case h_2=>cases hgc
   rename_i dj hdj;split at hgc
   case isTrue=>cases hgc
   rename_i hdjG;have hrel:=hT.tmp (d:=dj) (by omega)
   have hy:yielded ops a.tmps j=match a.tmps.getD dj undef with| .bool b=>some b|_=>none:=by
    unfold yielded;rw[hdj];simp only[agW];by_cases hlt:dj<a.tmps.size
    ·simp only[hlt,acT,acW,agX];generalize a.tmps[dj]=q;cases q<;>rfl
    ·simp[adQ (aeE hlt),undef]
   unfold Region.wanted;rw[hg];dsimp only;rw[hy];split at hgc
   ·rename_i b hb;cases hgc;rw[hb]at hrel;rw[hrel.bool_inv];cases b<;>cases want<;>rfl
   ·rename_i c' b hb;cases hgc;rw[hb]at hrel;generalize a.tmps.getD dj undef=u at hrel
    cases hrel with
    |opt _ _ _ _ h h0=>
     cases c' with
     |true=>rw[(h rfl).bool_inv];cases b<;>cases want<;>rfl
     |false=>rw[h0 rfl];rfl
   ·cases hgc
  cases c with
  |true=>
   obtain⟨x,hx,hr⟩:=pK (P:=P) hW.ok hT rfl hv (h1 rfl) h2;refine nO (mZ hv) fun K hKK=> ?_;rw[if_pos hwant];unfold Oper.wp;rw[hx,Oper.upon_value,hd]
   exact hKK _ _ (hK h3 _ _ ⟨St,g,hW,hT.put hdN (.opt _ _ _ _ (fun _=>hr) (fun h=>by cases h)),hKp.to (fun _ h=>h) (fun _ _=>rfl) (put_defers ..) (fun _ _=>rfl)⟩)
  |false=>
   refine nO (mZ hv) fun K hKK=> ?_;rw[if_neg (by rw[hwant];simp),hd];exact hKK _ _ (hK h3 _ _ ⟨St,g,hW,hT.put hdN (.opt _ _ _ _ (fun h=>by cases h) (fun _=>rfl)),hKp.to (fun _ h=>h) (fun _ _=>rfl) (put_defers ..) (fun _ _=>rfl)⟩)
def Post (z:Start) (Q:Exit->S->Prop):Exit->Act->World->Prop:=fun e a w=>∃s,Q e s/\Sim z s a w
def vX (P:Program) (ops:Array Oper) (Q:Exit->S->Prop) (l:List Oper) (s:S):Prop:=
 ∀z a w,Sim z s a w->lH z.ro P ops (Post z Q) l a w
def AWp (P:Program) (c:Code) (Q:Exit->S->Prop) (s:S):Prop:=
 ∀z a w,Sim z s a w->c.wpIn (lB z.ro) 1 P (Post z Q) a w
theorem aAT {P:Program} {W:List Nat} {ops:Array Oper} {Q:Exit->S->Prop}:∀(n:Nat) {l l':List Oper} {s s':S} {φ:Prop},aC4 P W ops n l s=some (l',s',φ)->φ->
  vX P ops Q l' s'->vX P ops Q l s:=by
 intro n
 induction n with
 |zero=>intro l l' s s' φ h _ hK;simp only[aC4]at h;cases h;exact hK
 |succ n ih=>
  intro l l' s s' φ h hφ hK
  cases l with
  |nil=>simp only[aC4]at h;cases h;exact hK
  |cons o l=>
   simp only[aC4]at h;split at h
   case h_2=>cases h
   rename_i s1 φ1 hst;split at h
   case h_2=>cases h
   rename_i l2 s2 ψ hrest;cases h;intro z a w hs;exact step_wp hs hst hφ fun hψ a' w' hsim=>ih hrest hψ hK z a' w' hsim
theorem vX.nil {P:Program} {ops:Array Oper} {Q:Exit->S->Prop} {s:S} (h:Q .normal s):vX P ops Q [] s:=fun _ _ _ hs=>⟨s,h,hs⟩
/-! ### The rules for code -/
section
variable {P:Program} {Q:Exit->S->Prop} {s:S}
theorem AWp.skip (h:Q .normal s):AWp P .skip Q s:=fun _ _ _ hs=>wpIn_skip ⟨s,h,hs⟩
theorem AWp.exit {id:Nat} (h:Q (.exit id) s):AWp P (.exit id) Q s:=fun _ _ _ hs=>wpIn_exit ⟨s,h,hs⟩
theorem AWp.ret (h:Q .ret s):AWp P .ret Q s:=fun _ _ _ hs=>wpIn_ret ⟨s,h,hs⟩
def zT (N:S->Prop) (Q:Exit->S->Prop):Exit->S->Prop
 | .normal,s=>N s
 |e,s=>Q e s
theorem AWp.seq {x y:Code} (h:AWp P x (zT (AWp P y Q) Q) s):AWp P (.seq x y) Q s:=fun z a w hs=>
 wpIn_seq (wpIn_mono (h z a w hs) fun e a' w' ⟨s',hq,hs'⟩=>by
  cases e with
  |normal=>exact hq z a' w' hs'
  |_=>exact⟨s',hq,hs'⟩)
theorem AWp.mono {c:Code} {Q':Exit->S->Prop} (h:AWp P c Q s) (hq:∀e s,Q e s->Q' e s):AWp P c Q' s:=fun z a w hs=>
 wpIn_mono (h z a w hs) fun e _a' _w' ⟨s',h1,h2⟩=>⟨s',hq e s' h1,h2⟩
def uC (id:Nat) (Q:Exit->S->Prop):Exit->S->Prop
 | .exit id',s=>if id'=id then Q .normal s else Q (.exit id') s
 |e,s=>Q e s
theorem AWp.block {id:Nat} {c:Code} (h:AWp P c (uC id Q) s):AWp P (.block id c) Q s:=fun z a w hs=>
 wpIn_block (wpIn_mono (h z a w hs) fun e a' w' ⟨s',hq,hs'⟩=>by
  cases e with
  |exit id'=>
   simp only[uC,Exit.inBlock]at hq⊢
   split
   ·rename_i hid;rw[if_pos hid]at hq;exact⟨s',hq,hs'⟩
   ·rename_i hid;rw[if_neg hid]at hq;exact⟨s',hq,hs'⟩
  |_=>exact⟨s',hq,hs'⟩)
theorem AWp.cond {c:Operand} {x y:Code} {b:Bool} (hc:raw s.t c= .bool b) (h1:b=true->AWp P x Q s) (h2:b=false->AWp P y Q s):AWp P (.cond c x y) Q s:=fun z a w hs=>by
 obtain⟨St,g,hW,hT,hKp⟩:=hs
 have:=jC hT c
 rw[hc]at this
 exact wpIn_cond_split this.bool_inv (fun hb=>h1 hb z a w ⟨St,g,hW,hT,hKp⟩) (fun hb=>h2 hb z a w ⟨St,g,hW,hT,hKp⟩)
theorem AWp.loop {c:Code} {α:Type} (inv:α->S) (pre:α->Prop) (μ:α->Nat) (x:α) (hx:pre x)
  (round:∀x,pre x->AWp P c (zT (fun s'=>∃y,s'=inv y/\pre y/\μ y<μ x) Q) (inv x)):AWp P (.loop c) Q (inv x):=by
 intro z a w hs;refine wpIn_loop_ghost (fun n a w=>∃x,pre x/\μ x=n/\Sim z (inv x) a w) (μ x) ⟨x,hx,rfl,hs⟩ ?_;rintro n a w ⟨x,hx,rfl,hs⟩;refine wpIn_mono (round x hx z a w hs) fun e a' w' ⟨s',hq,hs'⟩=> ?_
 cases e with
 |normal=>
  obtain⟨y,rfl,hy,hlt⟩:=hq
  exact⟨μ y,hlt,y,hy,rfl,hs'⟩
 |_=>exact⟨s',hq,hs'⟩
theorem AWp.region {id:Nat} {l:List Oper} (h:vX P l.toArray Q l s):AWp P (.region id l.toArray false) Q s:=fun z a w hs=>wpIn_region_lit (h z a w hs)
end
end Go.Abs
namespace Go.Abs
open Go
abbrev aaU:=@List.mem_cons_of_mem
abbrev aaV:=@List.mem_cons_self
abbrev afQ:=@Nat.sub_zero
abbrev afR:=@Array.getElem?_append
abbrev afU:=@List.cons_append
abbrev afZ:=@Option.map_some
abbrev agA:=@List.nodup_cons
/-! ### Saying less -/
def VLe (v v':V):Prop:=∀St w g x,Rel St w g v x->Rel St w g v' x
def BLe (b b':Blk):Prop:=∀St w g v,dG St w g v b->dG St w g v b'
def Le (s s':S):Prop:=∀z a w,Sim z s a w->Sim z s' a w
theorem VLe.refl (v:V):VLe v v:=fun _ _ _ _ h=>h
theorem VLe.of_eq {v v':V} (h:v=v'):VLe v v':=h▸ .refl v
theorem VLe.any (v:V):VLe v .any:=fun _ _ _ _ _=> .any _ _
theorem VLe.trans {a b c:V} (h:VLe a b) (h':VLe b c):VLe a c:=fun St w g x r=>h' St w g x (h St w g x r)
theorem BLe.refl (b:Blk):BLe b b:=fun _ _ _ _ h=>h
theorem Le.refl (s:S):Le s s:=fun _ _ _ h=>h
theorem Le.trans {a b c:S} (h:Le a b) (h':Le b c):Le a c:=fun z x w r=>h' z x w (h z x w r)
theorem VLe.arr {sz n n':Nat} {f f':Nat->Nat->V} (hn:n=n') (h:∀i j,i<n->j<sz->VLe (f i j) (f' i j)):VLe (.arr sz n f) (.arr sz n' f'):=by
 subst hn;intro St w g x r
 cases r with
 |arr0=>exact .arr0 _ _ _
 |arrE=>exact .arrE _ _ _ _
 |arr _ _ _ _ b o cap x hcap hmax hs hc h1 hr=>exact .arr _ sz n f' b o cap x hcap hmax hs hc h1 fun i j hi hj=>h i j hi hj _ _ _ _ (hr i j hi hj)
theorem VLe.arr_eq {sz n n':Nat} {f f':Nat->Nat->V} (hn:n=n') (h:∀i j,i<n->j<sz->f i j=f' i j):VLe (.arr sz n f) (.arr sz n' f'):=
 .arr hn fun i j hi hj=> .of_eq (h i j hi hj)
theorem VLe.nils {sz:Nat} {f:Nat->Nat->V}:VLe .nils (.arr sz 0 f):=fun _ _ _ _ r=>by rw[r.nils_inv];exact .arr0 _ _ _
theorem VLe.agg {cs cs':List V} (hl:cs.length=cs'.length) (h:∀i,i<cs.length->VLe (cs.getD i .any) (cs'.getD i .any)):VLe (.agg cs) (.agg cs'):=by
 intro St w g x r;obtain⟨vs,rfl,hl2,hr⟩:=r.agg_inv;exact .agg _ _ _ (hl2.trans hl) fun i hi=>h i (by omega) _ _ _ _ (hr i (by omega))
theorem BLe.rows {e:TypeId} {sz n n':Nat} {f f':Nat->Nat->V} (hn:n=n') (h:∀i j,i<n->j<sz->VLe (f i j) (f' i j)):BLe (.rows e sz n f) (.rows e sz n' f'):=by
 subst hn;rintro St w g v ⟨xs,ho,hr,h1⟩;exact⟨xs,ho,fun i j hi hj=>h i j hi hj _ _ _ _ (hr i j hi hj),h1⟩
theorem BLe.rows_eq {e:TypeId} {sz n n':Nat} {f f':Nat->Nat->V} (hn:n=n') (h:∀i j,i<n->j<sz->f i j=f' i j):BLe (.rows e sz n f) (.rows e sz n' f'):=
 .rows hn fun i j hi hj=> .of_eq (h i j hi hj)
theorem BLe.cells {t:TypeId} {cs cs':List V} (hl:cs.length=cs'.length) (h:∀i,i<cs.length->VLe (cs.getD i .any) (cs'.getD i .any)):BLe (.cells t cs) (.cells t cs'):=by
 rintro St w g v ⟨b,vals,rfl,hb,hs,hr,h1⟩;exact⟨b,vals,rfl,hb,hs.trans hl,fun i hi=>h i (by omega) _ _ _ _ (hr i (by omega)),fun i hi=>h1 i (by omega)⟩
def tcov (t:List (Nat×V)):List (Nat×V)->Prop
 |[]=>True
 |(d,v)::l=>VLe (dD t d) v/\tcov t l
theorem aA0 {t:List (Nat×V)}:∀{l:List (Nat×V)},tcov t l->∀d,VLe (dD t d) (dD l d)
 |[],_,d=> .any _
 |(a,v)::l,h,d=>by
  simp only[dD]
  split
  ·rename_i hd;subst hd;exact h.1
  ·exact aA0 h.2 d
def hcov (h:aJ):aJ->Prop
 |[]=>True
 |(r,b')::l=>(∃b,h.get r=some b/\BLe b b')/\hcov h l
theorem mE {h:aJ}:∀{l:aJ},hcov h l->∀r b',l.get r=some b'->∃b,h.get r=some b/\BLe b b'
 |[],_,r,b',hg=>by simp[aJ.get]at hg
 |(a,c)::l,hh,r,b',hg=>by
  simp only[aJ.get]at hg
  split at hg
  ·rename_i ha;subst ha;cases hg;exact hh.1
  ·exact mE hh.2 r b' hg
theorem eL.le {St:Nat->Prop} {w:World} {g:Gh} {N:Nat} {t t':List (Nat×V)} {a:Act} (h:eL St w g N t a) (ht:∀d,VLe (dD t d) (dD t' d)):eL St w g N t' a:=
 ⟨h.1,h.2.1,fun d=>ht d _ _ _ _ (h.2.2 d)⟩
theorem Le.mk {s s':S} (hN:s.N=s'.N) (hb:s'.b=s.b) (ht:tcov s.t s'.t) (hh:hcov s.h s'.h):Le s s':=by
 rintro z a w ⟨St,g,hW,hT,hK⟩;refine⟨St,g,hW.less fun r b' hb'=> ?_,hN▸hT.le (aA0 ht),by rw[hb];exact hK⟩;obtain⟨b,h1,h2⟩:=mE hh r b' hb';exact⟨b,h1,fun v hv=>h2 _ _ _ _ hv⟩
theorem Le.nilOwn {s:S} (d r:Nat) (e:TypeId) (sz:Nat) (f:Nat->Nat->V) (hd:dD s.t d= .nils) (hr:s.b.contains r=false) (hN:d<s.N):
  Le s ⟨s.N,(d,.own r)::pE r s.t,(r,.rows e sz 0 f)::(hdrop r s.h).del r,s.b,s.o⟩:=by
 rintro z a w ⟨St,g,hW,hT,hK⟩;have hrel:=hT.tmp (d:=d) (by have h1:=hT.1.2;have h2:a.tmps.size=s.N:=hT.2.1;omega);rw[hd]at hrel;have hv:=hrel.nils_inv
 have:=kO hW hT hN (v':= .slice none 0 0) (ro:=none) (r:=r) (xs:=[]) (e:=e) (sz:=sz) (n:=0) (f:=f) (w':=w) (o:=s.o) (fun k hk=>by cases hk) rfl rfl rfl (aaY _) (fun _ _ _=>rfl) (fun k hk=>by simp[cF,bS]at hk) rfl (World.ownsRow_nil w 0 e sz)
  (fun i j hi=>by omega) (by simp) hK (qO hr)
 have hput:a.put (some d) (.slice none 0 0)=a:=by
  obtain⟨tm,df⟩:=a;have hlt:d<tm.size:=by have h2:tm.size=s.N:=hT.2.1;omega
  have hv':tm[d]= .slice none 0 0:=by simpa[hlt]using hv
  simp only[Act.put,Act.mk.injEq,and_true];rw[Array.setIfInBounds,dif_pos hlt,<-hv'];exact Array.set_getElem_self hlt
 rwa [hput]at this
mutual
def V.frz (r sz n:Nat) (f:Nat->Nat->V):V->V
 | .own k=>if k=r then .arr sz n f else .own k
 | .oelem k sz' i off=>if k=r then .any else .oelem k sz' i off
 | .osl k sz' i off=>if k=r then .any else .osl k sz' i off
 | .ptr k o=>if k=r then .any else .ptr k o
 | .agg cs=> .agg (V.frzAll r sz n f cs)
 | .tup cs=> .tup (V.frzAll r sz n f cs)
 | .fn k cs=> .fn k (V.frzAll r sz n f cs)
 | .opt _ _=> .any
 |v=>v
def V.frzAll (r sz n:Nat) (f:Nat->Nat->V):List V->List V
 |[]=>[]
 |v::l=>V.frz r sz n f v::V.frzAll r sz n f l
end
theorem cJ (r sz n:Nat) (f:Nat->Nat->V):∀l:List V,(V.frzAll r sz n f l).length=l.length
 |[]=>rfl
 |v::l=>by simp[V.frzAll,cJ r sz n f l]
theorem gU (r sz n:Nat) (f:Nat->Nat->V):∀(l:List V) (i:Nat),(V.frzAll r sz n f l).getD i .any=V.frz r sz n f (l.getD i .any)
 |[],i=>by simp[V.frzAll,V.frz]
 |v::l,0=>by simp[V.frzAll]
 |v::l,i+1=>by simpa[V.frzAll]using gU r sz n f l i
theorem Rel.frz {St St':Nat->Prop} {w:World} {r sz n:Nat} {f:Nat->Nat->V} {u:Value} (hS:∀k,St k->St' k) (hu:Rel St' w dS (.arr sz n f) u):
  ∀{g:Gh} {v:V} {x:Value},Rel St w g v x->g r=some u->Rel St' w g (V.frz r sz n f v) x:=by
 intro g v x h
 induction h with
 |any=>intro _;exact .any _ _
 |bool=>intro _;exact .bool _ _
 |int=>intro _;exact .int _ _ _
 |b16=>intro _;exact .b16 _ _
 |str g l s h=>intro _;exact .str _ _ _ h
 |agg g cs vs hl h ih=>intro e;simp only[V.frz];exact .agg _ _ _ (by rw[cJ];exact hl) fun i hi=>by rw[gU];exact ih i (by rwa [cJ]at hi) e
 |tup g cs vs hl h ih=>intro e;simp only[V.frz];exact .tup _ _ _ (by rw[cJ];exact hl) fun i hi=>by rw[gU];exact ih i (by rwa [cJ]at hi) e
 |nils=>intro _;exact .nils _
 |arr0=>intro _;exact .arr0 _ _ _
 |arrE=>intro _;exact .arrE _ _ _ _
 |arr g sz n f b o cap x hcap hmax hs hc h1 hr ih=>intro _;exact .arr _ sz n f b o cap x hcap hmax (fun h hz=>hS _ (hs h hz)) hc h1 fun i j hi hj=>(hr i j hi hj).mono hS (fun _ _=>rfl)
 |elem g sz n f i off b o x hi hs hc h1 hr ih=>intro _;exact .elem _ sz n f i off b o x hi (fun hz=>hS _ (hs hz)) hc h1 fun i j hi hj=>(hr i j hi hj).mono hS (fun _ _=>rfl)
 |own g k v h h1=>
  intro e;simp only[V.frz];split
  ·rename_i hk;subst hk;rw[h]at e;cases e;exact eJ hu rfl
  ·exact .own _ _ _ h h1
 |ptr g k off b h=>
  intro e;simp only[V.frz];split
  ·exact .any _ _
  ·exact .ptr _ _ _ _ h
 |oelem g k sz' i off b n' cap h=>
  intro e;simp only[V.frz];split
  ·exact .any _ _
  ·exact .oelem _ _ _ _ _ _ _ _ h
 |osl g k sz' i off b n' cap h=>
  intro e;simp only[V.frz];split
  ·exact .any _ _
  ·exact .osl _ _ _ _ _ _ _ _ h
 |fn g k cs vs hl h ih=>intro e;simp only[V.frz];exact .fn _ _ _ _ (by rw[cJ];exact hl) fun i hi=>by rw[gU];exact ih i (by rwa [cJ]at hi) e
 |lit=>intro _;exact .lit _ _
 |opt g c v x h h0 ih=>intro _;exact .any _ _
 |abool g p b h=>intro _;exact .abool _ p b h
 |mp g n kf vf b es hs ho hn hb hk hv=>intro _;exact .mp _ n kf vf b es (hS _ hs) ho hn hb (fun i hi=>(hk i hi).mono hS (fun _ _=>rfl)) fun i hi=>(hv i hi).mono hS (fun _ _=>rfl)
 |tab g k l b t fr hs ho=>intro _;exact .tab _ k l b t fr (hS _ hs) ho
 |ifc g b x h=>intro _;exact .ifc _ b x h
 |opq g x h=>intro _;exact .opq _ x h
def Blk.frz (r sz n:Nat) (f:Nat->Nat->V):Blk->Blk
 | .cells t cs=> .cells t (V.frzAll r sz n f cs)
 |b=>b
def hfrz (r sz n:Nat) (f:Nat->Nat->V) (h:aJ):aJ:=h.map fun p=>(p.1,p.2.frz r sz n f)
theorem aBh (r sz n:Nat) (f:Nat->Nat->V) (k:Nat):∀h:aJ,aJ.get (hfrz r sz n f h) k=(aJ.get h k).map (Blk.frz r sz n f)
 |[]=>rfl
 |(a,b)::h=>by
  have ih:=aBh r sz n f k h
  unfold hfrz at ih⊢
  simp only[abS,aJ.get]
  split
  ·rfl
  ·exact ih
def tfrz (r sz n:Nat) (f:Nat->Nat->V) (t:List (Nat×V)):List (Nat×V):=t.map fun p=>(p.1,V.frz r sz n f p.2)
theorem aAZ (r sz n:Nat) (f:Nat->Nat->V) (k:Nat):∀t:List (Nat×V),dD (tfrz r sz n f t) k=V.frz r sz n f (dD t k)
 |[]=>rfl
 |(a,v)::t=>by
  have ih:=aAZ r sz n f k t
  unfold tfrz at ih⊢
  simp only[abS,dD]
  split
  ·rfl
  ·exact ih
theorem Le.freeze {s:S} (r:Nat) {e:TypeId} {sz n:Nat} {f:Nat->Nat->V} (hh:s.h.get r=some (.rows e sz n f)) (_hr:s.b.contains r=false):
  Le s ⟨s.N,tfrz r sz n f s.t,(hfrz r sz n f s.h).del r,s.b,s.o⟩:=by
 rintro z a w ⟨St,g,hW,hT,hK⟩;obtain⟨u,hgu,xs,ho,hrr,h1⟩:=hW.ok r _ hh;let St':Nat->Prop:=fun k=>St k\/cF u k
 have hS:∀k,St k->St' k:=fun k hk=> .inl hk
 have hu:Rel St' w dS (.arr sz n f) u:=by
  rcases ho.2 with⟨rfl,hn⟩|⟨b,cap,cur,rfl,_,hb,hncap,hcapm,hsz,htake⟩
  ·subst hn;exact .arr0 _ _ _
  ·refine .arr _ sz n f b 0 cap (fun i j=>xs.getD (i *sz+j) undef) hncap (aeF hncap hcapm) (fun _ _=> .inr rfl) (fun i j hi hj=> ?_) (fun i j hi hj=> ?_) (fun i j hi hj=>(hrr i j hi hj).mono hS (fun _ _=>rfl))
   ·rw[abW];exact fE ho rfl _ (fC hi hj)
   ·have hq:=fC hi hj;refine h1 _ ?_;have:i *sz+j<xs.length:=by rw[ho.1];exact hq
    rw[aaC,aaO this];exact acU this
 have hget:∀k b,aJ.get ((hfrz r sz n f s.h).del r) k=some b->k≠r/\∃b0,s.h.get k=some b0/\b=b0.frz r sz n f:=by
  intro k b hb;rw[aJ.get_del]at hb;split at hb
  ·cases hb
  ·rename_i hk;rw[aBh,aaQ]at hb;obtain⟨b0,h2,rfl⟩:=hb;exact⟨hk,b0,h2,rfl⟩
 refine⟨St',g,⟨hW.frm,fun k hk=> .inl (hW.st0 k hk), ?_, ?_, ?_, ?_⟩,⟨hT.1,hT.2.1,fun d=>by rw[aAZ];exact Rel.frz hS hu (hT.2.2 d) hgu⟩,hK.to hS (fun _ _=>rfl) rfl (fun _ _=>rfl)⟩
 ·rintro k (hk|hk)
  ·exact hW.st1 k hk
  ·refine⟨?_,.inr (hW.ow r _ u hh hgu k hk).2⟩;obtain⟨v,h2,h3⟩:=hW.ok r _ hh;rw[hgu]at h2;cases h2;exact h3.lt k hk
 ·intro k b v hb hv q hq;obtain⟨hkr,b0,h2,rfl⟩:=hget k b hb;have h3:=hW.ow k b0 v h2 hv q hq;refine⟨?_,h3.2⟩;rintro(h4|h4)
  ·exact h3.1 h4
  ·exact hW.sep k r b0 _ v u h2 hh hv hgu hkr q hq h4
 ·intro k b hb;obtain⟨hkr,b0,h2,rfl⟩:=hget k b hb;obtain⟨v,h3,h4⟩:=hW.ok k b0 h2;refine⟨v,h3, ?_⟩
  cases b0 with
  |rows e' sz' n' f'=>exact h4.mono hS (fun _ _=>rfl) (fun _ _=>rfl) (r:=r) (fun _ _=>rfl) (.inr rfl)
  |iter=>exact h4.mono hS (fun _ _=>rfl) (fun _ _=>rfl) (r:=r) (fun _ _=>rfl) (.inr rfl)
  |siter=>exact h4.mono hS (fun _ _=>rfl) (fun _ _=>rfl) (r:=r) (fun _ _=>rfl) (.inr rfl)
  |fam=>exact h4.mono hS (fun _ _=>rfl) (fun _ _=>rfl) (r:=r) (fun _ _=>rfl) (.inr rfl)
  |mapI=>exact h4.mono hS (fun _ _=>rfl) (fun _ _=>rfl) (r:=r) (fun _ _=>rfl) (.inr rfl)
  |mapB=>exact h4.mono hS (fun _ _=>rfl) (fun _ _=>rfl) (r:=r) (fun _ _=>rfl) (.inr rfl)
  |yld=>exact h4.mono hS (fun _ _=>rfl) (fun _ _=>rfl) (r:=r) (fun _ _=>rfl) (.inr rfl)
  |cells t cs=>
   obtain⟨b,vals,rfl,hb2,hl,hr2,h12⟩:=h4;refine⟨b,vals,rfl,hb2,by rw[cJ];exact hl,fun i hi=> ?_,fun i hi=>h12 i (by rwa [cJ]at hi)⟩;rw[cJ]at hi;rw[gU];exact Rel.frz hS hu (hr2 i hi) hgu
 ·intro k k' b b' v v' hb hb' hv hv' hne;obtain⟨_,b0,h2,rfl⟩:=hget k b hb;obtain⟨_,b0',h2',rfl⟩:=hget k' b' hb';exact hW.sep k k' b0 b0' v v' h2 h2' hv hv' hne
theorem AWp.le {P:Program} {c:Code} {Q:Exit->S->Prop} {s s':S} (h:Le s s') (h':AWp P c Q s'):AWp P c Q s:=fun z a w hs=>h' z a w (h z a w hs)
theorem vX.le {P:Program} {ops:Array Oper} {Q:Exit->S->Prop} {l:List Oper} {s s':S} (h:Le s s') (h':vX P ops Q l s'):vX P ops Q l s:=fun z a w hs=>h' z a w (h z a w hs)
/-! ### A chunk of a region, down to what is used later -/
def proj (s:S) (ds rs:List Nat):S:=⟨s.N,ds.map fun d=>(d,dD s.t d),rs.filterMap fun r=>(s.h.get r).map fun b=>(r,b),s.b,s.o⟩
theorem wB (t:List (Nat×V)) (d:Nat):∀ds:List Nat,dD (ds.map fun d=>(d,dD t d)) d=dD t d\/dD (ds.map fun d=>(d,dD t d)) d= .any
 |[]=> .inr rfl
 |a::ds=>by
  simp only[abS,dD]
  split
  ·rename_i h;subst h;exact .inl rfl
  ·exact wB t d ds
theorem uR (h:aJ) (r:Nat) (b:Blk):∀rs:List Nat,aJ.get (rs.filterMap fun r=>(h.get r).map fun b=>(r,b)) r=some b->h.get r=some b
 |[],hb=>by simp[aJ.get]at hb
 |a::rs,hb=>by
  simp only[List.filterMap_cons]at hb
  cases ha:aJ.get h a with
  |none=>rw[ha]at hb;exact uR h r b rs hb
  |some c=>
   rw[ha]at hb
   simp only[afZ,aJ.get]at hb
   split at hb
   ·rename_i e;subst e;rw[ha];exact hb
   ·exact uR h r b rs hb
theorem Le.proj (s:S) (ds rs:List Nat):Le s (proj s ds rs):=by
 rintro z a w ⟨St,g,hW,hT,hK⟩;exact⟨St,g,hW.less fun r b hb=>⟨b,uR s.h r b rs hb,fun _ h=>h⟩,hT.get_any fun d=>wB s.t d ds,hK⟩
def achunk (P:Program) (W:List Nat) (ops:Array Oper) (n:Nat) (ds rs:List Nat) (l:List Oper) (s:S):Option (List Oper×S×Prop):=
 match aC4 P W ops n l s with
 |some (l',s',φ)=>some (l',proj s' ds rs,φ)
 |none=>none
theorem vX.chunk {P:Program} {W:List Nat} {ops:Array Oper} {Q:Exit->S->Prop} {n:Nat} {ds rs:List Nat} {l l':List Oper} {s s':S} {φ:Prop} (h:achunk P W ops n ds rs l s=some (l',s',φ)) (hφ:φ)
  (hK:vX P ops Q l' s'):vX P ops Q l s:=by
 unfold achunk at h;split at h
 case h_2=>cases h
 rename_i l1 s1 φ1 hr;cases h;exact aAT n hr hφ (.le (.proj s1 ds rs) hK)
/-! ### Entering and leaving a function -/
def aCg (P:Program) (s:S):ResultVar->Option V
 | .tmp t=>if t<G0 then some (dD s.t t)else none
 | .cell a ty=>if G0<=a then none else match dD s.t a with
  | .ptr r off=>(aCs P s.h ty (.ptr r off)).map (·.1)
  |_=>none
def resV (P:Program) (fn:Func) (s:S):Option V:=
 match fn.results.toList.mapM (aCg P s)with
 |some [v]=>some v
 |some vs=>some (.tup vs)
 |none=>none
def resFn (a:Act):ResultVar->Sem Value
 | .tmp t=>pure (a.tmps.getD t undef)
 | .cell b t=>do loadVar t (<-asAddr (a.tmps.getD b undef))
theorem run_resV1 {P:Program} {St:Nat->Prop} {w:World} {g:Gh} {s:S} {a:Act} (hb:BOk St w g s.h) (ht:eL St w g s.N s.t a) {r:ResultVar} {v:V} (h:aCg P s r=some v):
  ∃x,(resFn a r).run P w= .ok x w/\Rel St w g v x:=by
 cases r with
 |tmp t=>
  simp only[aCg]at h;split at h
  case isFalse=>cases h
  rename_i hg
  cases h;exact⟨_,rfl,ht.tmp hg⟩
 |cell b ty=>
  simp only[aCg]at h;split at h
  case isTrue=>cases h
  rename_i hbG;split at h
  case h_2=>cases h
  rename_i r off he;rw[aaQ]at h;obtain⟨⟨v',φ⟩,hv,rfl⟩:=h;have hr:=ht.tmp (d:=b) (by omega);rw[he]at hr
  have hφ:φ:=by
   have hv':=hv;simp only[aCs]at hv';split at hv'
   ·rw[aaQ]at hv';obtain⟨_,_,e⟩:=hv';cases e;trivial
   ·cases hv'
  obtain⟨y,hy,hrel⟩:=wM (P:=P) hb hr hv hφ;refine⟨y, ?_,hrel⟩;show(do loadVar ty (<-asAddr (a.tmps.getD b undef)):Sem Value).run P w= .ok y w;generalize a.tmps.getD b undef=u at hr hy⊢
  cases hr with
  |ptr _ _ _ bb hg=>
   simp only[abI,asAddr,abO,aaP];simpa[Instr.loadAt,Instr.sureAddr]using hy
theorem nS {P:Program} {St:Nat->Prop} {w:World} {g:Gh} {s:S} {a:Act} (hb:BOk St w g s.h) (ht:eL St w g s.N s.t a):∀{rs:List ResultVar} {vs:List V},rs.mapM (aCg P s)=some vs->
  ∃xs:List Value,(rs.mapM (resFn a)).run P w= .ok xs w/\xs.length=vs.length/\
   ∀i,i<vs.length->Rel St w g (vs.getD i .any) (xs.getD i undef)
 |[],vs,h=>by simp at h;subst h;exact⟨[],rfl,rfl,fun i hi=>by simp at hi⟩
 |r::rs,vs,h=>by
  simp only[agK,Option.bind_eq_bind,Option.bind_eq_some_iff,Option.pure_def,Option.some.injEq]at h
  obtain⟨v,hv,vs',hvs,rfl⟩:=h
  obtain⟨x,hx,hr⟩:=run_resV1 hb ht hv
  obtain⟨xs,hxs,hl,hrs⟩:=nS hb ht hvs
  refine⟨x::xs, ?_,by simp[hl],fun i hi=> ?_⟩
  ·simp only[agK,abI]
   rw[hx]
   simp only[aaP]
   rw[hxs]
   rfl
  ·cases i with
   |zero=>simpa using hr
   |succ i=>simpa using hrs i (by simpa using hi)
theorem run_resV {P:Program} {St:Nat->Prop} {w:World} {g:Gh} {s:S} {a:Act} (hb:BOk St w g s.h) (ht:eL St w g s.N s.t a) {fn:Func} {v:V} (h:resV P fn s=some v):
  ∃x,(results fn a.tmps).run P w= .ok x w/\Rel St w g v x:=by
 unfold resV at h
 have key:∀vs,fn.results.toList.mapM (aCg P s)=some vs->∃xs:List Value,(results fn a.tmps).run P w= .ok (if h:xs.toArray.size=1 then xs.toArray[0]else .tuple xs.toArray) w/\xs.length=vs.length/\
   ∀i,i<vs.length->Rel St w g (vs.getD i .any) (xs.getD i undef):=by
  intro vs hvs;obtain⟨xs,hxs,hl,hr⟩:=nS hb ht hvs;refine⟨xs, ?_,hl,hr⟩;show(do let vs<-fn.results.mapM (resFn a);pure (if h:vs.size=1 then vs[0]else .tuple vs):Sem Value).run P w=_;rw[agP,abI,Sem.run_map];rw[hxs];simp only[aaP,abO]
 split at h
 ·rename_i v' hvs;cases h;obtain⟨xs,hx,hl,hr⟩:=key _ hvs
  match xs,hl with
  |[x],_=>exact⟨x,hx,by simpa using hr 0 (by simp)⟩
 ·rename_i vs hne hvs;cases h;obtain⟨xs,hx,hl,hr⟩:=key _ hvs
  have h1:xs.toArray.size≠1:=by
   intro e;simp at e
   match vs,(hl.symm.trans e:vs.length=1)with
   |[v],_=>exact hne v rfl
  rw[dif_neg h1]at hx;refine⟨_,hx,.tup _ _ _ (by simpa using hl) fun i hi=>by simpa[aaC]using hr i hi⟩
 ·cases h
def Spec (P:Program) (f:FuncId) (gs:List (Nat×V)) (bk:List Nat) (h0:aJ) (args:List V) (R:V->aJ->Prop):Prop:=
 ∀(z:Start) (vals:Array Value),WSim z z.St z.g h0 z.w->vals.size=args.length->(∀i,i<args.length->Rel z.St z.w z.g (args.getD i .any) (vals.getD i undef))->(∀p∈gs,Rel z.St z.w z.g p.2 (.pointer (some ⟨p.1,0,none⟩)))->
  Calls P f vals z.w (fun e w'=>∃x r h1 St' g',e= .returned x/\R r h1/\WSim z St' g' h1 w'/\Rel St' w' g' r x/\
   (∀k,k∈bk->g' k=z.g k))
theorem Spec.mono {P:Program} {f:FuncId} {gs:List (Nat×V)} {bk:List Nat} {h0:aJ} {args:List V} {R R':V->aJ->Prop} (h:Spec P f gs bk h0 args R) (hr:∀r h1,R r h1->R' r h1):Spec P f gs bk h0 args R':=
 fun z vals h1 h2 h3 h4=>(h z vals h1 h2 h3 h4).mono fun _e _w' ⟨x,r,hh,St',g',he,hR,rest⟩=>⟨x,r,hh,St',g',he,hr _ _ hR,rest⟩
theorem Spec.args {P:Program} {f:FuncId} {gs:List (Nat×V)} {bk:List Nat} {h0:aJ} {args args':List V} {R:V->aJ->Prop} (h:Spec P f gs bk h0 args' R) (hl:args.length=args'.length) (ha:∀i,i<args.length->VLe (args.getD i .any) (args'.getD i .any)):Spec P f gs bk h0 args R:=
 fun z vals h1 h2 h3 h4=>h z vals h1 (h2.trans hl) (fun i hi=>ha i (by omega) _ _ _ _ (h3 i (by omega))) h4
def kZ :Nat->List V->List (Nat×V)
 |_,[]=>[]
 |k,v::l=>(k,v)::kZ (k+1) l
theorem kK :∀(l:List V) (k d:Nat),dD (kZ k l) d=if k<=d then l.getD (d-k) .any else .any
 |[],k,d=>by simp[kZ,dD]
 |v::l,k,d=>by
  simp only[kZ,dD]
  split
  ·rename_i h;subst h;simp
  ·rename_i h
   rw[kK l (k+1) d]
   by_cases h1:k<=d
   ·rw[if_pos (by omega),if_pos h1]
    have:d-k=(d-(k+1))+1:=by omega
    rw[this,abP]
   ·rw[if_neg (by omega),if_neg h1]
def vT (P:Program) (fn:Func) (b:List Nat) (R:V->aJ->Prop):Exit->S->Prop
 | .normal,s=>∃s',Le s s'/\∃v,resV P fn s'=some v/\R v s'.h/\s'.b=b
 | .ret,s=>∃v,resV P fn s=some v/\R v s.h/\s.b=b
 |_,_=>False
def sK (gs:List (Nat×V)):List (Nat×V):=gs.map fun p=>(G0+p.1,p.2)
theorem mB (d:Nat) (l2:List (Nat×V)):∀l1:List (Nat×V),dD (l1++l2) d=if d∈l1.map (·.1)then dD l1 d else dD l2 d
 |[]=>by simp
 |(k,v)::l1=>by
  simp only[afU,dD,abS,abC]
  by_cases h:k=d
  ·subst h;simp
  ·have h':¬d=k:=fun e=>h e.symm
   rw[if_neg h,if_neg h,mB d l2 l1]
   by_cases hm:d∈l1.map (·.1)
   ·rw[if_pos hm,if_pos (.inr hm)]
   ·rw[if_neg hm,if_neg (fun h2=>h2.elim h' hm)]
theorem sZ {d:Nat}:∀{l:List V} {k:Nat},d∈(kZ k l).map (·.1)↔k<=d/\d<k+l.length
 |[],k=>by simp[kZ]
 |v::l,k=>by simp only[kZ,abS,abC,sZ (l:=l),aaN];omega
theorem jE {d:Nat} {l:List V}:d∈(kZ 0 l).map (·.1)↔d<l.length:=by rw[sZ];omega
theorem qH {St:Nat->Prop} {w:World} {g:Gh} {a:Act}:∀{gs:List (Nat×V)},(∀p∈gs,Rel St w g p.2 (.pointer (some ⟨p.1,0,none⟩)))->∀d,Rel St w g (dD (sK gs) d) (zV a d)
 |[],_,d=> .any _ _
 |p::gs,h,d=>by
  have ih:=qH (a:=a) (fun q hq=>h q (aaU _ hq)) d
  unfold sK at ih⊢
  simp only[abS,dD]
  split
  ·rename_i e;subst e
   rw[zV,if_neg (by omega),aeI]
   exact h p (aaV ..)
  ·exact ih
def nV (w:World) (k:Nat):Prop:=(∃i x,w.cell? ⟨k,i,none⟩=some x)\/(∃es n,w.heap[k]? =some (.map es n))\/∃cs t fr,w.heap[k]? =some (.cells cs t fr)
theorem wW {w:World} {k:Nat} (h:nV w k):∀ds,w.heap[k]? ≠some (.deferred ds):=by
 rintro ds e;rcases h with⟨i,x,h⟩|⟨es,n,h⟩|⟨cs,t,fr,h⟩
 ·simp[World.cell?,e]at h
 ·rw[e]at h;cases h
 ·rw[e]at h;cases h
theorem uL {w:World} {k:Nat} (h:nV w k):∀r,w.heap[k]? ≠some (.loop r):=by
 rintro r e;rcases h with⟨i,x,h⟩|⟨es,n,h⟩|⟨cs,t,fr,h⟩
 ·simp[World.cell?,e]at h
 ·rw[e]at h;cases h
 ·rw[e]at h;cases h
theorem Rel.cut {St St':Nat->Prop} {w w':World} (hS:∀k,St k->nV w k->St' k) (hw:∀k,St' k->w'.heap[k]? =w.heap[k]?):
  ∀{g:Gh} {v:V} {x:Value},Rel St w g v x->Rel St' w' g v x:=by
 have data:∀{b i:Nat} {x:Value},w.cell? ⟨b,i,none⟩=some x->nV w b:=fun hc=> .inl ⟨_,_,hc⟩;intro g v x h
 induction h with
 |any g x=>exact .any g x
 |bool g b=>exact .bool g b
 |int g k n=>exact .int g k n
 |b16 g x=>exact .b16 g x
 |str g l s h=>exact .str g l s h
 |agg g cs vs hl h ih=>exact .agg g cs vs hl ih
 |tup g cs vs hl h ih=>exact .tup g cs vs hl ih
 |nils g=>exact .nils g
 |arr0 g sz f=>exact .arr0 g sz f
 |arrE g sz f a=>exact .arrE g sz f a
 |arr g sz n f b o cap x hcap hmax hs hc h1 hr ih=>
  have hb:0<n->0<sz->St' b:=fun hn hz=>hS b (hs hn hz) (data (hc 0 0 hn hz))
  exact .arr g sz n f b o cap x hcap hmax hb (fun i j hi hj=>by
   rw[World.cell?_of_block (w:=w) (hw b (hb (by omega) (by omega)))];exact hc i j hi hj) h1 ih
 |elem g sz n f i off b o x hi hs hc h1 hr ih=>
  have hb:0<sz->St' b:=fun hz=>hS b (hs hz) (data (hc i 0 hi hz))
  exact .elem g sz n f i off b o x hi hb (fun i j hi hj=>by
   rw[World.cell?_of_block (w:=w) (hw b (hb (by omega)))];exact hc i j hi hj) h1 ih
 |own g r v h h1=>exact .own g r v h h1
 |ptr g r off b h=>exact .ptr g r off b h
 |oelem g r sz i off b n cap h=>exact .oelem g r sz i off b n cap h
 |osl g r sz i off b n cap h=>exact .osl g r sz i off b n cap h
 |fn g f cs vs hl h ih=>exact .fn g f cs vs hl ih
 |lit g x=>exact .lit g x
 |opt g c v x h h0 ih=>exact .opt g c v x ih h0
 |abool g p b h=>exact .abool g p b h
 |mp g n kf vf b es hs ho hn hb hk hv ihk ihv=>
  have hb':St' b:=hS b hs (.inr (.inl ⟨_,_,ho⟩))
  exact .mp g n kf vf b es hb' (by rw[hw b hb'];exact ho) hn hb ihk ihv
 |tab g k l b t fr hs ho=>
  have hb':St' b:=hS b hs (.inr (.inr ⟨_,_,_,ho⟩))
  exact .tab g k l b t fr hb' (by rw[hw b hb'];exact ho)
 |ifc g b x h=>exact .ifc g b x h
 |opq g x h=>exact .opq g x h
theorem dG.cut {St St':Nat->Prop} {w w':World} (hS:∀k,St k->nV w k->St' k) (hw:∀k,St' k->w'.heap[k]? =w.heap[k]?)
  {g:Gh} {v:Value} {b:Blk} (h:dG St w g v b) (hb:∀k,cF v k->w'.heap[k]? =w.heap[k]?):dG St' w' g v b:=by
 cases b with
 |cells t cs=>
  obtain⟨b,vals,rfl,hh,hl,hr,h1⟩:=h
  exact⟨b,vals,rfl,by rw[hb b rfl];exact hh,hl,fun i hi=>(hr i hi).cut hS hw,h1⟩
 |rows e sz n f=>
  obtain⟨xs,ho,hr,h1⟩:=h
  exact⟨xs,gF ho fun k hk=>hb k ((kQ ho k).2 hk),fun i j hi hj=>(hr i j hi hj).cut hS hw,h1⟩
 |iter n kf vf seen=>
  obtain⟨b,m,rfl,hh,hr⟩:=h
  exact⟨b,m,rfl,by rw[hb b rfl];exact hh,hr.cut hS hw⟩
 |siter l pos=>
  obtain⟨b,s,rfl,hh,hr⟩:=h
  exact⟨b,s,rfl,by rw[hb b rfl];exact hh,hr⟩
 |mapB n kf vf=>
  obtain⟨b,es,rfl,hh,hn,hbn,hk,hv⟩:=h
  exact⟨b,es,rfl,by rw[hb b rfl];exact hh,hn,hbn,fun i hi=>(hk i hi).cut hS hw,fun i hi=>(hv i hi).cut hS hw⟩
 |mapI n kf o hole hq=>
  obtain⟨b,es,rfl,hh,hn,hbn,hk,hv⟩:=h
  exact⟨b,es,rfl,by rw[hb b rfl];exact hh,hn,hbn,fun i hi=>(hk i hi).cut hS hw,hv⟩
 |fam e sz n m f hole=>
  obtain⟨a,rfl,hs,hr,hh,hd⟩:=h;refine⟨a,rfl,hs,fun i hi hx=> ?_,hh,hd⟩;obtain⟨xs,ho,h1,h2⟩:=hr i hi hx
  exact⟨xs,gF ho fun k hk=>hb k ⟨i,by omega,hk⟩,fun i j hi hj=>(h1 i j hi hj).cut hS hw,h2⟩
 |yld o k=>
  obtain⟨l,r,rfl,hh,hy⟩:=h;refine⟨l,r,rfl,by rw[hb l rfl];exact hh, ?_⟩
  cases o with
  |none=>trivial
  |some p=>
   obtain⟨ids,C⟩:=p;obtain⟨h1,h2,h3,h4,h5,h6,h6',h7,h8,h9⟩:=hy;exact⟨h1,h2,h3,h4,h5,h6,h6',h7,h8,fun d=>(h9 d).cut hS hw⟩
theorem qR {F:Fence} {n:Nat} {P:Program} {fn:Func} {tmps:Array Value} {R:Ending->World->Prop}:∀(dm:List Nat) (w:World),dm.Nodup->(∀D,D∈dm->w.heap[D]? =some (.deferred (some [])))->
  (∀w':World,w'.os=w.os->w'.tape=w.tape->w'.output=w.output->w'.heap.size=w.heap.size->(∀k,k∉dm->w'.heap[k]? =w.heap[k]?)->LeavesInM F n P fn tmps R [] .returning w')->LeavesInM F n P fn tmps R (dm.map markD) .returning w
 |[],w,_,_,h=>h w rfl rfl rfl rfl fun _ _=>rfl
 |D::dm,w,hnd,hd,h=>by
  have hD:=hd D (aaV ..)
  refine⟨by simp,.inl ⟨D,_,rfl,run_takeDeferred hD, ?_⟩⟩
  rw[agA]at hnd
  refine qR dm _ hnd.2 (fun D' hD'=> ?_) fun w' h1 h2 h3 h4 h5=> ?_
  ·rw[World.putObj_heap_other (by rintro rfl;exact hnd.1 hD')];exact hd D' (aaU _ hD')
  ·refine h w' h1 h2 h3 (h4.trans World.putObj_size) fun k hk=> ?_
   rw[h5 k (fun h=>hk (aaU _ h)),World.putObj_heap_other (by rintro rfl;exact hk (aaV ..))]
theorem Spec.body {P:Program} {f:FuncId} {fn:Func} {c:Code} {N:Nat} {h0:aJ} {args:List V} {R:V->aJ->Prop} (o:Nat) (gs:List (Nat×V)) (bk:List Nat) (hf:P.funcs[f]? =some fn) (hb:fn.body=some c) (hN:fn.ntmps=N) (hle:args.length<=N) (hG:N<=G0)
  (h:AWp P c (vT P fn bk R) ⟨N,kZ 0 args++sK gs,h0,bk,o⟩):Spec P f gs bk h0 args R:=by
 intro z1 vals hW1 hl hr hgs;let z:Start:={z1 with ro:=none}
 have hW:WSim z z.St z.g h0 z.w:=⟨hW1.frm,hW1.st0,hW1.st1,hW1.ow,hW1.ok,hW1.sep⟩;refine(callsIn_wide (n:=1)).1 (callsIn_of_wp_marks (F:=lB none) hf hb trivial ?_)
 have hsim:Sim z ⟨N,kZ 0 args++sK gs,h0,bk,o⟩ {tmps:=vals++Array.replicate (fn.ntmps-vals.size) undef,defers:=[]} z.w:=by
  refine⟨z.St,z.g,hW,⟨⟨trivial,by simp;omega⟩,by simp;omega,fun d=> ?_⟩,⟨fun _ _=>rfl,⟨[],.nil,rfl,fun D hD=>by cases hD⟩,fun _ h=>(by cases h),fun _=>rfl⟩⟩;rw[mB];by_cases hd:d<args.length
  ·rw[kK];simp only[abM,if_true,afQ];have:=hr d hd;have h2:d<vals.size:=by omega
   rw[if_pos (jE.2 hd),zV,if_pos (by omega)];simpa[afR,h2]using this
  ·rw[if_neg (fun h=>hd (jE.1 h))];exact qH hgs d
 refine wpIn_mono (h z _ _ hsim) fun e a w' ⟨s',hq,hs'⟩=> ?_
 have fin : ∀ s', Sim z s' a w' -> (∃ v, resV P fn s' = some v /\ R v s'.h /\ s'.b = bk) -> LeavesInM (lB none) 1 P fn a.tmps (fun e w'=>∃x r h1 St' g',e= .returned x/\R r h1/\WSim z1 St' g' h1 w'/\Rel St' w' g' r x/\
   (∀k,k∈bk->g' k=z1.g k)) a.defers .returning w':=by
  rintro s' hs' ⟨v,hv,hR,hsb⟩;obtain⟨St',g',hW',hT',hK',⟨dm,hnd,hdm,hall⟩,_,_⟩:=hs';rw[hdm];refine qR dm w' hnd (fun D hD=>(hall D hD).2.1) fun w2 e1 e2 e3 e4 e5=> ?_;let St2:Nat->Prop:=fun k=>St' k/\k∉dm
  have hS:∀k,St' k->nV w' k->St2 k:=fun k hk hnd=>⟨hk,fun hm=>wW hnd _ (hall k hm).2.1⟩;have hw2:∀k,St2 k->w2.heap[k]? =w'.heap[k]? :=fun k hk=>e5 k hk.2
  have hW2:WSim z St2 g' s'.h w2:=by
   refine⟨⟨e1.trans hW'.frm.os,e2.trans hW'.frm.tape,e3.trans hW'.frm.output,by rw[e4];exact hW'.frm.size,fun k hk hno=> ?_⟩,fun k hk=>⟨hW'.st0 k hk,fun hm=> ?_⟩,fun k hk=> ?_,fun r b u hb hu k hk=> ?_,fun r b hb=> ?_,hW'.sep⟩
   ·rw[e5 k (fun hm=>by have:=(hall k hm).2.2;omega)];exact hW'.frm.block k hk hno
   ·have:=(hW.st1 k hk).1;have:=(hall k hm).2.2;omega
   ·rw[e4];exact hW'.st1 k hk.1
   ·have:=hW'.ow r b u hb hu k hk;exact⟨fun h=>this.1 h.1,this.2⟩
   ·obtain⟨u,hu,hok⟩:=hW'.ok r b hb;exact⟨u,hu,hok.cut hS hw2 fun k hk=>e5 k fun hm=>(hW'.ow r b u hb hu k hk).1 (hall k hm).1⟩
  have hT2:eL St2 w2 g' s'.N s'.t a:=⟨hT'.1,hT'.2.1,fun d=>(hT'.2.2 d).cut hS hw2⟩;obtain⟨x,hx,hrel⟩:=run_resV (P:=P) hW2.ok hT2 hv;exact⟨x,hx,x,v,s'.h,St2,g',rfl,hR,⟨hW2.frm,hW2.st0,hW2.st1,hW2.ow,hW2.ok,hW2.sep⟩,hrel,fun k hk=>hK' k (by rw[hsb];exact hk)⟩
 cases e with
 |normal=>exact hq.elim fun s2 h2=>fin s2 (h2.1 _ _ _ hs') h2.2
 |ret=>exact fin s' hs' hq
 |_=>exact hq.elim
end Go.Abs
namespace Go.Abs
open Go
mutual
def V.flat :V->Bool
 | .arr _ _ _=>false
 | .elem _ _ _ _ _=>false
 | .mp _ _ _=>false
 | .tab _ _=>false
 | .agg cs=>V.flatAll cs
 | .tup cs=>V.flatAll cs
 | .fn _ cs=>V.flatAll cs
 | .opt _ v=>V.flat v
 |_=>true
def V.flatAll :List V->Bool
 |[]=>true
 |v::l=>V.flat v&&V.flatAll l
end
theorem V.flatAll_get :∀{l:List V} {i:Nat},V.flatAll l=true->V.flat (l.getD i .any)=true
 |[],i,_=>by simp[V.flat]
 |v::l,0,h=>by simp only[V.flatAll,aaL]at h;simpa using h.1
 |v::l,i+1,h=>by simp only[V.flatAll,aaL]at h;simpa using V.flatAll_get (i:=i) h.2
theorem Rel.flat {St St':Nat->Prop} {w:World}:∀{g:Gh} {v:V} {x:Value},Rel St w g v x->v.flat=true->Rel St' w g v x:=by
 intro g v x h
 induction h with
 |any=>intro _;exact .any _ _
 |bool=>intro _;exact .bool _ _
 |int=>intro _;exact .int _ _ _
 |b16=>intro _;exact .b16 _ _
 |str g l s h=>intro _;exact .str _ _ _ h
 |agg g cs vs hl h ih=>intro e;simp only[V.flat]at e;exact .agg _ _ _ hl fun i hi=>ih i hi (V.flatAll_get e)
 |tup g cs vs hl h ih=>intro e;simp only[V.flat]at e;exact .tup _ _ _ hl fun i hi=>ih i hi (V.flatAll_get e)
 |nils=>intro _;exact .nils _
 |arr0=>intro _;exact .arr0 _ _ _
 |arrE=>intro _;exact .arrE _ _ _ _
 |arr g sz n f b o cap x hcap hmax hs hc h1 hr ih=>intro e;simp[V.flat]at e
 |elem g sz n f i off b o x hi hs hc h1 hr=>intro e;simp[V.flat]at e
 |own g r v h h1=>intro _;exact .own _ _ _ h h1
 |ptr g r off b h=>intro _;exact .ptr _ _ _ _ h
 |oelem g r sz i off b n cap h=>intro _;exact .oelem _ _ _ _ _ _ _ _ h
 |osl g r sz i off b n cap h=>intro _;exact .osl _ _ _ _ _ _ _ _ h
 |fn g f cs vs hl h ih=>intro e;simp only[V.flat]at e;exact .fn _ _ _ _ hl fun i hi=>ih i hi (V.flatAll_get e)
 |lit=>intro _;exact .lit _ _
 |abool g p b h=>intro _;exact .abool _ p b h
 |mp g n kf vf b es hs ho hn hb hk hv=>intro e;simp[V.flat]at e
 |tab g k l b t fr hs ho=>intro e;simp[V.flat]at e
 |ifc g b x h=>intro _;exact .ifc _ b x h
 |opq g x h=>intro _;exact .opq _ x h
 |opt g c v x h h0 ih=>intro e;simp only[V.flat]at e;exact .opt _ _ _ _ (fun hc=>ih hc e) h0
mutual
def V.within (ids:List Nat):V->Bool
 | .own r=>ids.contains r
 | .ptr r _=>ids.contains r
 | .oelem r _ _ _=>ids.contains r
 | .osl r _ _ _=>ids.contains r
 | .agg cs=>V.withinAll ids cs
 | .tup cs=>V.withinAll ids cs
 | .fn _ cs=>V.withinAll ids cs
 | .opt _ v=>V.within ids v
 |_=>true
def V.withinAll (ids:List Nat):List V->Bool
 |[]=>true
 |v::l=>V.within ids v&&V.withinAll ids l
end
theorem V.withinAll_get {ids:List Nat}:∀{l:List V} {i:Nat},V.withinAll ids l=true->V.within ids (l.getD i .any)=true
 |[],i,_=>by simp[V.within]
 |v::l,0,h=>by simp only[V.withinAll,aaL]at h;simpa using h.1
 |v::l,i+1,h=>by simp only[V.withinAll,aaL]at h;simpa using V.withinAll_get (i:=i) h.2
theorem Rel.within {St:Nat->Prop} {w:World} {ids:List Nat}:∀{g:Gh} {v:V} {x:Value},Rel St w g v x->∀{g':Gh},(∀k,k∈ids->g' k=g k)->v.within ids=true->Rel St w g' v x:=by
 intro g v x h
 induction h with
 |any=>intro _ _ _;exact .any _ _
 |bool=>intro _ _ _;exact .bool _ _
 |int=>intro _ _ _;exact .int _ _ _
 |b16=>intro _ _ _;exact .b16 _ _
 |str g l s h=>intro _ _ _;exact .str _ _ _ h
 |agg g cs vs hl h ih=>intro g' hg e;simp only[V.within]at e;exact .agg _ _ _ hl fun i hi=>ih i hi hg (V.withinAll_get e)
 |tup g cs vs hl h ih=>intro g' hg e;simp only[V.within]at e;exact .tup _ _ _ hl fun i hi=>ih i hi hg (V.withinAll_get e)
 |nils=>intro _ _ _;exact .nils _
 |arr0=>intro _ _ _;exact .arr0 _ _ _
 |arrE=>intro _ _ _;exact .arrE _ _ _ _
 |arr g sz n f b o cap x hcap hmax hs hc h1 hr ih=>intro _ _ _;exact .arr _ sz n f b o cap x hcap hmax hs hc h1 hr
 |elem g sz n f i off b o x hi hs hc h1 hr ih=>intro _ _ _;exact .elem _ sz n f i off b o x hi hs hc h1 hr
 |own g r v h h1=>intro g' hg e;simp[V.within]at e;exact .own _ _ _ (by rw[hg r e];exact h) h1
 |ptr g r off b h=>intro g' hg e;simp[V.within]at e;exact .ptr _ _ _ _ (by rw[hg r e];exact h)
 |oelem g r sz i off b n cap h=>intro g' hg e;simp[V.within]at e;exact .oelem _ _ _ _ _ _ _ _ (by rw[hg r e];exact h)
 |osl g r sz i off b n cap h=>intro g' hg e;simp[V.within]at e;exact .osl _ _ _ _ _ _ _ _ (by rw[hg r e];exact h)
 |fn g f cs vs hl h ih=>intro g' hg e;simp only[V.within]at e;exact .fn _ _ _ _ hl fun i hi=>ih i hi hg (V.withinAll_get e)
 |lit=>intro _ _ _;exact .lit _ _
 |abool g p b h=>intro _ _ _;exact .abool _ p b h
 |mp g n kf vf b es hs ho hn hb hk hv=>intro _ _ _;exact .mp _ n kf vf b es hs ho hn hb hk hv
 |tab g k l b t fr hs ho=>intro _ _ _;exact .tab _ k l b t fr hs ho
 |ifc g b x h=>intro _ _ _;exact .ifc _ b x h
 |opq g x h=>intro _ _ _;exact .opq _ x h
 |opt g c v x h h0 ih=>intro g' hg e;simp only[V.within]at e;exact .opt _ _ _ _ (fun hc=>ih hc hg e) h0
def Blk.within (ids:List Nat):Blk->Bool
 | .cells _ cs=>V.withinAll ids cs
 | .rows .. =>true
 | .iter .. =>true
 | .siter .. =>true
 | .mapB .. =>true
 | .fam .. =>true
 | .mapI _ _ o _ hq=>o.all ids.contains&&hq.all ids.contains
 | .yld o _=>(iV o).all ids.contains
def aJ.within (ids:List Nat):aJ->Bool
 |[]=>true
 |(_,b)::h=>b.within ids&&aJ.within ids h
theorem aJ.within_get {ids:List Nat}:∀{h:aJ} {k:Nat} {b:Blk},aJ.within ids h=true->h.get k=some b->b.within ids=true
 |[],_,_,_,hg=>by simp[aJ.get]at hg
 |(a,c)::h,k,b,hf,hg=>by
  simp only[aJ.within,aaL]at hf
  simp only[aJ.get]at hg
  split at hg
  ·cases hg;exact hf.1
  ·exact aJ.within_get hf.2 hg
def Blk.Flat :Blk->Prop
 | .cells _ cs=>V.flatAll cs=true
 | .rows _ sz n f=>∀i j,i<n->j<sz->(f i j).flat=true
 | .iter .. =>False
 | .siter .. =>True
 | .mapB n kf vf=>∀i,i<n->(kf i).flat=true/\(vf i).flat=true
 | .mapI n kf _ _ _=>∀i,i<n->(kf i).flat=true
 | .fam _ sz n m f _=>∀i j k,i<n->j<m i->k<sz->(f i j k).flat=true
 | .yld o _=>o=none
def aJ.Flat :aJ->Prop
 |[]=>True
 |(_,b)::h=>b.Flat/\aJ.Flat h
theorem aJ.Flat_get :∀{h:aJ} {k:Nat} {b:Blk},aJ.Flat h->h.get k=some b->b.Flat
 |[],_,_,_,hg=>by simp[aJ.get]at hg
 |(a,c)::h,k,b,hf,hg=>by
  simp only[aJ.get]at hg
  split at hg
  ·cases hg;exact hf.1
  ·exact aJ.Flat_get hf.2 hg
theorem aJ.get_append (h1 h2:aJ) (k:Nat):aJ.get (h1++h2) k=match h1.get k with|some b=>some b|none=>h2.get k:=by
 induction h1 with
 |nil=>rfl
 |cons p h ih=>
  obtain⟨a,b⟩:=p;simp only[afU,aJ.get];split
  ·rfl
  ·exact ih
theorem aJ.get_mem {h:aJ} {k:Nat} {b:Blk} (hk:h.get k=some b):k∈h.map (·.1):=by
 induction h with
 |nil=>simp[aJ.get]at hk
 |cons p h ih=>
  obtain⟨a,c⟩:=p;simp only[aJ.get]at hk;simp only[abS,abC];split at hk
  ·rename_i ha;exact .inl ha.symm
  ·exact .inr (ih hk)
theorem aJ.mem_get {h:aJ} {k:Nat} (hk:k∈h.map (·.1)):∃b,h.get k=some b:=by
 induction h with
 |nil=>simp at hk
 |cons p h ih=>
  obtain⟨a,c⟩:=p;simp only[abS,abC]at hk;simp only[aJ.get];split
  ·exact⟨c,rfl⟩
  ·rename_i hne;rcases hk with rfl|hk
   ·exact absurd rfl hne
   ·exact ih hk
def dels (ks:List Nat) (h:aJ):aJ:=h.filter fun p=> !ks.contains p.1
theorem pQ (ks:List Nat) (k:Nat):∀h:aJ,aJ.get (dels ks h) k=if k∈ks then none else h.get k
 |[]=>by simp[dels,aJ.get]
 |(a,b)::h=>by
  have ih:=pQ ks k h
  unfold dels at ih⊢
  by_cases ha:a∈ks
  ·have:ks.contains a=true:=by simpa using ha
   simp only[aeC,this,acS,abL,if_false,ih,aJ.get]
   by_cases hk:k∈ks
   ·simp[hk]
   ·have:a≠k:=fun e=>hk (e▸ha)
    simp[hk,this]
  ·have:ks.contains a=false:=by simpa using ha
   simp only[aeC,this,adW,if_true,aJ.get,ih]
   by_cases hk:a=k
   ·subst hk;simp[ha]
   ·simp[hk]
def qB (ks:List Nat) (t:List (Nat×V)):List (Nat×V):=ks.foldr pE t
def nW (ks:List Nat) (h:aJ):aJ:=ks.foldr hdrop h
def sI (h:aJ):List Nat->V->V
 |[],v=>v
 |r::L,v=>match h.get r with
  |some (.rows _ sz n f)=>sI h L (V.frz r sz n f v)
  |_=>sI h L v
def hsub (h0 h:aJ):Prop:=hcov h h0
theorem Rel.lend {z:Start} {St:Nat->Prop} {g:Gh} {h:aJ} {w:World} (hW:WSim z St g h w) {St':Nat->Prop} (hS:∀k,St k->St' k):∀(L:List Nat),
  (∀r,r∈L->∀b v k,h.get r=some b->g r=some v->cF v k->St' k)->∀{v:V} {x:Value},Rel St' w g v x->Rel St' w g (sI h L v) x
 |[],_,v,x,hr=>hr
 |r::L,hL,v,x,hr=>by
  simp only[sI]
  split
  ·rename_i e sz n f hh
   refine Rel.lend hW hS L (fun q hq=>hL q (aaU _ hq)) ?_
   obtain⟨u,hgu,xs,ho,hrr,h1⟩:=hW.ok r _ hh
   refine Rel.frz (fun _ h=>h) ?_ hr hgu
   rcases ho.2 with⟨rfl,hn⟩|⟨b,cap,cur,rfl,_,hb,hncap,hcapm,hsz,htake⟩
   ·subst hn;exact .arr0 _ _ _
   ·refine .arr _ sz n f b 0 cap (fun i j=>xs.getD (i *sz+j) undef) hncap (aeF hncap hcapm) (fun _ _=>hL r (aaV ..) _ _ b hh hgu rfl) (fun i j hi hj=> ?_) (fun i j hi hj=> ?_) (fun i j hi hj=>(hrr i j hi hj).mono hS (fun _ _=>rfl))
    ·rw[abW];exact fE ho rfl _ (fC hi hj)
    ·have hq:=fC hi hj
     refine h1 _ ?_
     have:i *sz+j<xs.length:=by rw[ho.1];exact hq
     rw[aaC,aaO this]
     exact acU this
  ·exact Rel.lend hW hS L (fun q hq=>hL q (aaU _ hq)) hr
theorem eL.drops {St:Nat->Prop} {w:World} {N:Nat} {a:Act}:∀(ks:List Nat) {g g':Gh} {t:List (Nat×V)},eL St w g N t a->(∀k,k∉ks->g' k=g k)->eL St w g' N (qB ks t) a
 |[],g,g',t,h,hg=>by
  have:g'=g:=funext fun k=>hg k (by simp)
  rw[this];exact h
 |d::ks,g,g',t,h,hg=>by
  let g1:Gh:=fun k=>if k∈ks then g' k else g k
  have h1:=eL.drops ks (g':=g1) h (fun k hk=>by simp[g1,hk])
  refine h1.drop (w':=w) (fun _ _=>rfl) (d:=d) fun k hk=> ?_
  by_cases hks:k∈ks
  ·simp[g1,hks]
  ·rw[hg k (by simp[hk,hks])];simp[g1,hks]
theorem dG.ghost {St:Nat->Prop} {w:World} {g g':Gh} {v:Value} {b:Blk} (h:dG St w g v b) {ids:List Nat} (hg:∀k,k∈ids->g' k=g k) (hb:b.within ids=true):dG St w g' v b:=by
 cases b with
 |rows=>exact h
 |iter=>exact h
 |siter=>exact h
 |mapB=>exact h
 |fam=>exact h
 |mapI n kf o hole hq=>
  obtain⟨bb,es,h1,h2,h3,h4,h5,h6,h8⟩:=h;simp only[Blk.within,aaL]at hb;refine⟨bb,es,h1,h2,h3,h4,h5,fun r hr=> ?_,fun r hr=> ?_⟩
  ·obtain⟨a,ha,h7⟩:=h6 r hr;subst hr;exact⟨a,by rw[hg r (by simpa using hb.1)];exact ha,h7⟩
  ·subst hr
   rw[hg r (by simpa using hb.2)];exact h8 r rfl
 |yld o k=>
  obtain⟨l,r,hv,hh,hy⟩:=h;refine⟨l,r,hv,hh,hy.mono (fun _ h=>h) (fun _ _=>rfl) fun i hi=>hg i ?_⟩
  simpa using aaX.1 hb i hi
 |cells t cs=>
  obtain⟨b,vals,rfl,h2,hl,hr,h1⟩:=h;exact⟨b,vals,rfl,h2,hl,fun i hi=>(hr i hi).within hg (V.withinAll_get hb),h1⟩
theorem dG.dropG {St:Nat->Prop} {w:World} {g g':Gh} {v:Value} {b:Blk} {d:Nat} (h:dG St w g v b) (hg:∀k,k≠d->g' k=g k):dG St w g' v (b.drop d):=by
 cases b with
 |rows=>exact h
 |iter=>exact h
 |siter=>exact h
 |mapB=>exact h
 |fam=>exact h
 |mapI n kf o hole hq=>
  obtain⟨bb,es,h1,h2,h3,h4,h5,h6,h10⟩:=h;refine⟨bb,es,h1,h2,h3,h4,h5,fun r hr=> ?_,fun r hr=> ?_⟩
  ·obtain⟨h8,h9⟩:=aeR.1 hr;obtain⟨a,ha,h7⟩:=h6 r h8;exact⟨a,by rw[hg r (by rintro rfl;simp at h9)];exact ha,h7⟩
  ·obtain⟨h8,h9⟩:=aeR.1 hr
   rw[hg r (by rintro rfl;simp at h9)];exact h10 r h8
 |yld o k=>
  obtain⟨l,r,hv,hh,hy⟩:=h;refine⟨l,r,hv,hh, ?_⟩;unfold hJ;split
  ·trivial
  ·rename_i hc;exact hy.mono (fun _ h=>h) (fun _ _=>rfl) fun i hi=>hg i (by rintro rfl;exact hc (by simpa using hi))
 |cells t cs=>
  obtain⟨b,vals,rfl,h2,hl,hr,h1⟩:=h;refine⟨b,vals,rfl,h2,by simpa using hl,fun i hi=> ?_,fun i hi=>h1 i (by simpa using hi)⟩;have hi':i<cs.length:=by simpa using hi
  have e:(cs.map fun v=>if v.fresh d then v else .any).getD i .any=if(cs.getD i .any).fresh d then cs.getD i .any else .any:=by
   simp[aaC,hi']
  rw[e];split
  ·rename_i hf;exact(hr i hi').rebind hg hf
  ·exact .any _ _
theorem vN {St:Nat->Prop} {w:World}:∀(ks:List Nat) {g g':Gh} {h:aJ} {r:Nat} {b:Blk},(nW ks h).get r=some b->(∀k,k∉ks->g' k=g k)->
  ∃b0,h.get r=some b0/\∀v,dG St w g v b0->dG St w g' v b
 |[],g,g',h,r,b,hb,hg=>by
  have:g'=g:=funext fun k=>hg k (by simp)
  exact⟨b,hb,fun v hv=>by rw[this];exact hv⟩
 |d::ks,g,g',h,r,b,hb,hg=>by
  simp only[nW,ahC]at hb
  rw[gS,aaQ]at hb
  obtain⟨b1,hb1,rfl⟩:=hb
  let g1:Gh:=fun k=>if k∈ks then g' k else g k
  obtain⟨b0,h0,hk⟩:=vN (St:=St) (w:=w) ks (g:=g) (g':=g1) hb1 (fun k hk=>by simp[g1,hk])
  refine⟨b0,h0,fun v hv=>(hk v hv).dropG fun k hkd=> ?_⟩
  by_cases hks:k∈ks
  ·simp[g1,hks]
  ·rw[hg k (by simp[hkd,hks])];simp[g1,hks]
def vR (P:Program) (f:FuncId):Bool:=match P.funcs[f]? with
 |some fn=>fn.name != "runtime.NumGoroutine" &&fn.body.isSome
 |none=>false
def eU :List V->List V->Prop
 |[],[]=>True
 |v::l,v'::l'=>VLe v v'/\eU l l'
 |_,_=>False
theorem eU.len :∀{l l':List V},eU l l'->l.length=l'.length
 |[],[],_=>rfl
 |[],_::_,h=>h.elim
 |_::_,[],h=>h.elim
 |_::l,_::l',h=>by simp[eU.len h.2]
theorem eU.get :∀{l l':List V},eU l l'->∀i,VLe (l.getD i .any) (l'.getD i .any)
 |[],[],_,i=>by simpa using VLe.refl _
 |[],_::_,h,_=>h.elim
 |_::_,[],h,_=>h.elim
 |v::l,v'::l',h,0=>by simpa using h.1
 |v::l,v'::l',h,i+1=>by simpa using eU.get h.2 i
end Go.Abs
