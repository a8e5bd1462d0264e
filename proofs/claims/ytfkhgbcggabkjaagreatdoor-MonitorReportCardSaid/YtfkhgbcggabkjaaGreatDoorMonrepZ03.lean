/- Part 3 of the proof: AbsC. -/
import Derived.Test.YtfkhgbcggabkjaaGreatDoorMonrepZ02
import Derived.Laws.Cells
namespace Go.Abs
open Go
abbrev aaC:=@List.getD_eq_getElem?_getD
abbrev aaP:=@Result.andThen_ok
abbrev aaQ:=@Option.map_eq_some_iff
abbrev aaT:=@Nat.mul_le_mul_right
abbrev abI:=@Sem.run_bind
abbrev abW:=@Nat.zero_add
abbrev acA:=@Nat.add_mul
abbrev acT:=@Array.getElem?_eq_getElem
abbrev adD:=@List.getElem?_eq_some_iff
abbrev adK:=@Array.getElem?_toList
abbrev adY:=@Nat.add_assoc
def sA (P:Program) (t:TypeId):Option Nat:=match P.info? t with|some i=>some i.size|none=>none
def aggT (P:Program) (t:TypeId):Option Bool:=
 match P.underlying t with
 |some (.struct _)=>some true
 |some (.array _ _)=>some true
 |some _=>some false
 |none=>none
def BOk (St:Nat->Prop) (w:World) (g:Gh) (h:aJ):Prop:=∀r b,h.get r=some b->∃v,g r=some v/\dG St w g v b
section
variable {P:Program} {w:World}
theorem cO {t:TypeId} {k:Nat} (h:sA P t=some k):(sizeOf t).run P w= .ok k w:=by
 unfold sA at h;split at h
 ·rename_i i hi;cases h;simp[sizeOf,typeInfo,hi]
 ·cases h
theorem pL {t:TypeId} {b:Bool} (h:aggT P t=some b):(isAgg t).run P w= .ok b w:=by
 unfold aggT at h;split at h
 ·rename_i f hu;cases h;simp[isAgg,run_underlying hu]
 ·rename_i n e hu;cases h;simp[isAgg,run_underlying hu]
 ·rename_i d h1 h2 hu;cases h;simp only[isAgg,abI,run_underlying hu,aaP];cases d<;>first|rfl|(rename_i f;exact(h1 f rfl).elim)|(rename_i n e;exact(h2 n e rfl).elim)
 ·cases h
theorem add_plain (b o n:Nat):(⟨b,o,none⟩:Addr).add n=⟨b,o+n,none⟩:=by
 unfold Addr.add;split<;>simp_all
theorem pF {t:TypeId} {k b o:Nat} {vs:List Value} (ha:aggT P t=some true) (hs:sA P t=some k) (hl:vs.length=k)
  (hc:∀j,j<k->w.cell? ⟨b,o+j,none⟩=some (vs.getD j undef)):(loadVar t ⟨b,o,none⟩).run P w= .ok (.agg vs.toArray) w:=by
 have h := run_loadCells_list (P := P) w ⟨b, o, none⟩ vs (fun j v hv=>by
  have hj:j<vs.length:=(adD.1 hv).1;rw[add_plain,hc j (by omega)];simp[hv])
 rw[hl]at h;simp[loadVar,pL ha,cO hs,h]
theorem qD {t:TypeId} {a:Addr} {v:Value} (ha:aggT P t=some false) (hc:w.cell? a=some v):(loadVar t a).run P w= .ok v w:=by
 simp[loadVar,pL ha,hc]
end
def zU (P:Program) (t:TypeId) (n:Nat) (get:Nat->V) (off:Nat):Option V:=
 match aggT P t,sA P t with
 |some true,some k=>if off+k<=n then some (.agg ((List.range k).map fun j=>get (off+j)))else none
 |some false,some _=>if off<n then some (get off)else none
 |_,_=>none
theorem qC {P:Program} {St:Nat->Prop} {w:World} {g:Gh} {t:TypeId} {n:Nat} {get:Nat->V} {off:Nat} {v:V} (h:zU P t n get off=some v)
  {b o:Nat} {x:Nat->Value} (hc:∀j,j<n->w.cell? ⟨b,o+j,none⟩=some (x j)) (hr:∀j,j<n->Rel St w g (get j) (x j)):
  ∃y,(loadVar t ⟨b,o+off,none⟩).run P w= .ok y w/\Rel St w g v y:=by
 unfold zU at h;split at h
 ·rename_i k ha hs;split at h
  ·rename_i hle;cases h;refine⟨_,pF (vs:=(List.range k).map fun j=>x (off+j)) ha hs (by simp) (fun j hj=> ?_), ?_⟩
   ·rw[adY,hc _ (by omega)];simp[hj]
   ·refine .agg _ _ _ (by simp) fun i hi=> ?_;have hi':i<k:=by simpa using hi
    simpa[hi']using hr (off+i) (by omega)
  ·cases h
 ·rename_i k ha hs;split at h
  ·rename_i hlt;cases h;exact⟨_,qD ha (hc off hlt),hr off hlt⟩
  ·cases h
 ·cases h
def aCs (P:Program) (h:aJ) (t:TypeId):V->Option (V×Prop)
 | .ptr r off=>match h.get r with
  |some (.cells _ cs)=>(zU P t cs.length (fun j=>cs.getD j .any) off).map fun v=>(v,True)
  |_=>none
 | .elem sz _ f i off=>(zU P t sz (f i) off).map fun v=>(v,True)
 | .oelem r sz i off=>match h.get r with
  |some (.rows _ sz' n f)=>if sz'=sz then(zU P t sz (f i) off).map fun v=>(v,i<n)else none
  |_=>none
 |_=>none
theorem eJ {St:Nat->Prop} {w:World}:∀{g0 g:Gh} {v:V} {x:Value},Rel St w g0 v x->g0=dS->Rel St w g v x:=by
 intro g0 g v x h
 induction h with
 |any=>intro _;exact .any _ _
 |bool=>intro _;exact .bool _ _
 |int=>intro _;exact .int _ _ _
 |b16=>intro _;exact .b16 _ _
 |str g l s h=>intro _;exact .str _ _ _ h
 |agg g cs vs hl h ih=>intro e;exact .agg _ _ _ hl fun i hi=>ih i hi e
 |tup g cs vs hl h ih=>intro e;exact .tup _ _ _ hl fun i hi=>ih i hi e
 |nils=>intro _;exact .nils _
 |arr0=>intro _;exact .arr0 _ _ _
 |arrE=>intro _;exact .arrE _ _ _ _
 |arr g sz n f b o cap x hcap hmax hs hc h1 hr ih=>intro _;exact .arr _ sz n f b o cap x hcap hmax hs hc h1 hr
 |elem g sz n f i off b o x hi hs hc h1 hr ih=>intro _;exact .elem _ sz n f i off b o x hi hs hc h1 hr
 |own g r v h h1=>intro e;subst e;cases h
 |ptr g r off b h=>intro e;subst e;cases h
 |oelem g r sz i off b n cap h=>intro e;subst e;cases h
 |osl g r sz i off b n cap h=>intro e;subst e;cases h.1
 |fn g f cs vs hl h ih=>intro e;exact .fn _ _ _ _ hl fun i hi=>ih i hi e
 |lit=>intro _;exact .lit _ _
 |opt g c v x h h0 ih=>intro e;exact .opt _ _ _ _ (fun hc=>ih hc e) h0
 |abool=>intro _;exact .abool _ _ _ (by assumption)
 |mp g n kf vf b es hs ho hn hb hk hv=>intro _;exact .mp _ n kf vf b es hs ho hn hb hk hv
 |tab g k l b t fr hs ho=>intro _;exact .tab _ k l b t fr hs ho
 |ifc g b x h=>intro _;exact .ifc _ b x h
 |opq g x h=>intro _;exact .opq _ x h
theorem fE {w:World} {e:TypeId} {sz n:Nat} {v:Value} {xs:List Value} (h:w.ownsRow 0 e sz v n xs) {b n' cap:Nat} (hv:v= .slice (some ⟨b,0,none⟩) n' cap):
  ∀j,j<n *sz->w.cell? ⟨b,j,none⟩=some (xs.getD j undef):=by
 intro j hj
 have hx:xs[j]? =some (xs.getD j undef):=by
  have:j<xs.length:=by rw[h.1];exact hj
  simp[this]
 have:=h.cells (g:=b) (by rw[hv];rfl) j _ hx;rwa [add_plain,abW]at this
theorem fC {i n j sz:Nat} (hi:i<n) (hj:j<sz):i *sz+j<n *sz:=by
 have:(i+1) *sz<=n *sz:=aaT _ hi;rw[acA]at this;omega
theorem wM {P:Program} {St:Nat->Prop} {w:World} {g:Gh} {h:aJ} (hb:BOk St w g h) {t:TypeId} {p v:V} {φ:Prop} {x:Value}
  (hp:Rel St w g p x) (hv:aCs P h t p=some (v,φ)) (hφ:φ):∃y,(Instr.loadAt t x).run P w= .ok y w/\Rel St w g v y:=by
 cases hp<;>simp only[aCs,reduceCtorEq]at hv
 case elem sz n f i off b o x hi hs hc h1 hr=>
  rw[aaQ]at hv;obtain⟨v',hv',he⟩:=hv;cases he;simp only[Instr.loadAt,Instr.sureAddr,abI,abO,aaP];exact qC hv' (x:=x i) (fun j hj=>hc i j hi hj) (fun j hj=>eJ (hr i j hi hj) rfl)
 case ptr r off b hg=>
  split at hv
  ·rename_i ty cs hh;rw[aaQ]at hv;obtain⟨v',hv',he⟩:=hv;cases he;obtain⟨u,hgu,b',vals,hu,hheap,hl,hr,h1⟩:=hb r _ hh;rw[hg]at hgu;cases hgu;cases hu;simp only[Instr.loadAt,Instr.sureAddr,abI,abO,aaP]
   have:=qC (P:=P) hv' (b:=b) (o:=0) (x:=fun j=>vals.getD j undef) (w:=w) (g:=g) (St:=St)
    (fun j hj=>by
     rw[abW,cell_of_row w b j vals ty (0,0) hheap];have:j<vals.size:=by omega
     simp[this]) (fun j hj=>hr j hj)
   rwa [abW]at this
  ·cases hv
 case oelem r sz i off b n cap hg=>
  split at hv
  ·rename_i e sz' n' f hh;split at hv
   ·rename_i hsz;subst hsz;rw[aaQ]at hv;obtain⟨v',hv',he⟩:=hv;cases he;obtain⟨u,hgu,xs,ho,hr,h1⟩:=hb r _ hh;rw[hg]at hgu;cases hgu;simp only[Instr.loadAt,Instr.sureAddr,abI,abO,aaP]
    exact qC (P:=P) hv' (b:=b) (o:=i *sz') (x:=fun j=>xs.getD (i *sz'+j) undef)
     (fun j hj=>fE ho rfl _ (fC hφ hj)) (fun j hj=>eJ (hr i j hφ hj) rfl)
   ·cases hv
  ·cases hv
/-! ### Addresses -/
def nH (P:Program) (st:TypeId) (fld:Nat) (p:V):Option V:=
 match P.underlying st with
 |some (.struct fields)=>match fields[fld]? with
  |some f=>match sA P f.type with
   |some (_+1)=>match p with
    | .ptr r off=>some (.ptr r (off+f.offset))
    | .elem sz n fn i off=>some (.elem sz n fn i (off+f.offset))
    | .oelem r sz i off=>some (.oelem r sz i (off+f.offset))
    |_=>none
   |_=>none
  |none=>none
 |_=>none
theorem sF {P:Program} {St:Nat->Prop} {w:World} {g:Gh} {st:TypeId} {fld:Nat} {p v:V} {x:Value}
  (hp:Rel St w g p x) (hv:nH P st fld p=some v):∃y,(Instr.fieldAt st x fld).run P w= .ok y w/\Rel St w g v y:=by
 unfold nH at hv;split at hv
 case h_2=>cases hv
 rename_i fields hu;split at hv
 case h_2=>cases hv
 rename_i f hf;split at hv
 case h_2=>cases hv
 rename_i k hs
 have key:∀b o,(Instr.fieldAt st (.pointer (some ⟨b,o,none⟩)) fld).run P w= .ok (.pointer (some ⟨b,o+f.offset,none⟩)) w:=by
  intro b o;simp[Instr.fieldAt,run_underlying hu,hf,Instr.sureAddr,fieldPlace,cO hs,add_plain]
 cases hp<;>simp only[reduceCtorEq,Option.some.injEq]at hv<;>subst hv
 case elem sz n fn i off b o x hi hs hc h1 hr=>exact⟨_,key _ _,by rw[adY];exact .elem _ sz n fn i _ b o x hi hs hc h1 hr⟩
 case ptr r off b hg=>exact⟨_,key _ _,.ptr _ r _ b hg⟩
 case oelem r sz i off b n cap hg=>exact⟨_,key _ _,by rw[adY];exact .oelem _ r sz i _ b n cap hg⟩
def nE (P:Program) (h:aJ) (t:TypeId) (p ix:V):Option (V×Prop):=
 match P.underlying t,ix with
 |some (.slice e),.int _ i=>match p with
  | .arr sz n f=>if sA P e=some sz then some (.elem sz n f i.toNat 0,0<=i/\i<n)else none
  | .own r=>match h.get r with
   |some (.rows _ sz n _)=>if sA P e=some sz then some (.oelem r sz i.toNat 0,0<=i/\i<n)else none
   |_=>none
  | .osl r sz i0 n=>if sA P e=some sz then some (.oelem r sz (i0+i.toNat) 0,0<=i/\i<n)else none
  |_=>none
 |some (.array len e),.int _ i=>match p,sA P e with
  | .ptr r off,some sz=>some (.ptr r (off+i.toNat *sz),0<=i/\i<len)
  | .elem sz0 _ f j off,some sz=>if off+len *sz<=sz0 then some (.elem sz len (fun a c=>f j (off+a *sz+c)) i.toNat 0,0<=i/\i<len)else none
  | .oelem r sz0 j off,some sz=>some (.oelem r sz0 j (off+i.toNat *sz),0<=i/\i<len)
  |_,_=>none
 |_,_=>none
theorem sE {P:Program} {St:Nat->Prop} {w:World} {g:Gh} {h:aJ} (hb:BOk St w g h) {t:TypeId} {p ix v:V} {φ:Prop} {x y:Value}
  (hp:Rel St w g p x) (hi:Rel St w g ix y) (hv:nE P h t p ix=some (v,φ)) (hφ:φ):∃z,(Instr.indexAt t x y).run P w= .ok z w/\Rel St w g v z:=by
 unfold nE at hv;split at hv
 ·rename_i e k i hu;have:=hi.int_inv;subst this;split at hv
  ·rename_i sz n f;split at hv
   ·rename_i hs;cases hv;obtain⟨h0,h1⟩:=hφ
    cases hp with
    |arr0=>omega
    |arrE=>omega
    |arr _ _ _ _ b o cap x hcap hmax hS hc h1c hr=>
     refine⟨.pointer (some ⟨b,o+i.toNat *sz+0,none⟩), ?_,.elem _ sz n f i.toNat 0 b o x (by omega) (fun hz=>hS (by omega) hz) hc h1c hr⟩;simp[Instr.indexAt,asIntOf,run_underlying hu,h0,h1,cO hs,add_plain]
   ·cases hv
  ·rename_i r;split at hv
   ·rename_i e' sz n f hh;split at hv
    ·rename_i hs;cases hv;obtain⟨h0,h1⟩:=hφ;obtain⟨u,hgu,xs,ho,hr,h1c⟩:=hb r _ hh;have hx:=hp.own_inv;rw[hx]at hgu;cases hgu;rcases ho.2 with⟨rfl,hn⟩|⟨b,cap,cur,rfl,_,hg,hncap,hcapm,hsz,htake⟩
     ·subst hn;omega
     ·refine⟨.pointer (some ⟨b,i.toNat *sz+0,none⟩), ?_,.oelem _ r sz i.toNat 0 b n cap hx⟩;simp[Instr.indexAt,asIntOf,run_underlying hu,h0,h1,cO hs,add_plain]
    ·cases hv
   ·cases hv
  ·rename_i r sz i0 n;split at hv
   case isFalse=>cases hv
   rename_i hs;cases hv;obtain⟨h0,h1⟩:=hφ
   cases hp with
   |osl _ _ _ _ _ b n0 cap h=>
    obtain⟨hg,hle,hb0⟩:=h
    cases b with
    |none=>have:=hb0 rfl;omega
    |some b=>
     refine⟨.pointer (some ⟨b,(i0+i.toNat) *sz+0,none⟩), ?_,.oelem _ r sz (i0+i.toNat) 0 b n0 cap hg⟩;have hne:¬cap=i0:=by omega
     simp[Instr.indexAt,asIntOf,run_underlying hu,h0,h1,cO hs,add_plain,hne,acA]
  ·cases hv
 ·rename_i len e k i hu;have:=hi.int_inv;subst this
  have key:∀(b o sz:Nat),sA P e=some sz->0<=i/\i<len->(Instr.indexAt t (.pointer (some ⟨b,o,none⟩)) (.int k i)).run P w= .ok (.pointer (some ⟨b,o+i.toNat *sz,none⟩)) w:=by
   intro b o sz hs hlt;simp[Instr.indexAt,asIntOf,run_underlying hu,Instr.sureAddr,hlt.1,hlt.2,cO hs,add_plain]
  split at hv
  ·rename_i r off sz hs;cases hv
   cases hp with
   |ptr _ _ _ b hg=>exact⟨_,key b off sz hs hφ,.ptr _ r _ b hg⟩
  ·rename_i sz0 n f j off sz hs;split at hv
   case isFalse=>cases hv
   rename_i hle;cases hv
   cases hp with
   |elem _ _ _ _ _ _ b o x hi hS hc h1 hr=>
    have hlt:∀a c,a<len->c<sz->off+a *sz+c<sz0:=by
     intro a c ha hcc;have:=fC ha hcc;omega
    have:=Rel.elem (St:=St) (w:=w) g sz len (fun a c=>f j (off+a *sz+c)) i.toNat 0 b (o+j *sz0+off) (fun a c=>x j (off+a *sz+c)) (by omega) (fun hz=>hS (by have:=hlt i.toNat 0 (by omega) hz;omega))
     (fun a c ha hcc=>by
      have:=hc j (off+a *sz+c) hi (hlt a c ha hcc);rw[show o+j *sz0+off+a *sz+c=o+j *sz0+(off+a *sz+c) by omega];exact this)
     (fun a c ha hcc=>h1 j _ hi (hlt a c ha hcc)) (fun a c ha hcc=>hr j _ hi (hlt a c ha hcc))
    exact⟨_,key b _ sz hs hφ,by simpa using this⟩
  ·rename_i r sz0 j off sz hs;cases hv
   cases hp with
   |oelem _ _ _ _ _ b n cap hg=>exact⟨_,key b _ sz hs hφ,by rw[adY];exact .oelem _ r sz0 j _ b n cap hg⟩
  ·cases hv
 ·cases hv
/-! ### Parts of structs and arrays by value; strings -/
def aCl (P:Program) (t:TypeId) (cs:List V) (off:Nat):Option V:=zU P t cs.length (fun j=>cs.getD j .any) off
theorem jA {P:Program} {St:Nat->Prop} {w:World} {g:Gh} {t:TypeId} {cs:List V} {off:Nat} {v:V} (h:aCl P t cs off=some v) {vs:Array Value} (hl:vs.size=cs.length)
  (hr:∀i,i<cs.length->Rel St w g (cs.getD i .any) (vs.getD i undef)):∃y,(part t vs off).run P w= .ok y w/\Rel St w g v y:=by
 unfold aCl zU at h;split at h
 ·rename_i k ha hs;split at h
  ·rename_i hle;cases h;refine⟨.agg (vs.extract off (off+k)), ?_, ?_⟩
   ·simp[part,pL ha,cO hs]
   ·refine .agg _ _ _ (by simp;omega) fun i hi=> ?_;have hi':i<k:=by simpa using hi
    have h2:=hr (off+i) (by omega);have h3:off+i<vs.size:=by omega
    have h4:i<min (off+k) vs.size-off:=by omega
    simpa[hi',h3,h4]using h2
  ·cases h
 ·rename_i k ha hs;split at h
  ·rename_i hlt;cases h;refine⟨vs.getD off undef, ?_,hr off hlt⟩;have:off<vs.size:=by omega
   simp[part,pL ha,this]
  ·cases h
 ·cases h
def fieldV (P:Program) (st:TypeId) (fld:Nat):V->Option V
 | .agg cs=>match P.underlying st with
  |some (.struct fields)=>match fields[fld]? with
   |some f=>aCl P f.type cs f.offset
   |none=>none
  |_=>none
 |_=>none
theorem aCc {P:Program} {St:Nat->Prop} {w:World} {g:Gh} {st:TypeId} {fld:Nat} {p v:V} {x:Value}
  (hp:Rel St w g p x) (hv:fieldV P st fld p=some v):∃y,(Instr.field st x fld).run P w= .ok y w/\Rel St w g v y:=by
 cases p<;>simp only[fieldV,reduceCtorEq]at hv;split at hv
 case h_2=>cases hv
 rename_i fields hu;split at hv
 case h_2=>cases hv
 rename_i f hf;obtain⟨vs,rfl,hl,hr⟩:=hp.agg_inv;obtain⟨y,hy,hr'⟩:=jA hv hl hr;exact⟨y,by simp[Instr.field,run_underlying hu,hf,asAgg,hy],hr'⟩
def indexV (P:Program) (t:TypeId) (p ix:V):Option (V×Prop):=
 match P.underlying t,p,ix with
 |some .string,.str l,.int _ i=>some (.int .u8 ((l.getD i.toNat 0).toNat:Int),0<=i/\i<l.length)
 |some (.array len e),.agg cs,.int _ i=>match sA P e with
  |some sz=>(aCl P e cs (i.toNat *sz)).map fun v=>(v,0<=i/\i<len)
  |none=>none
 |_,_,_=>none
theorem aCb {P:Program} {St:Nat->Prop} {w:World} {g:Gh} {t:TypeId} {p ix v:V} {φ:Prop} {x y:Value}
  (hp:Rel St w g p x) (hi:Rel St w g ix y) (hv:indexV P t p ix=some (v,φ)) (hφ:φ):∃z,(Instr.index t x y).run P w= .ok z w/\Rel St w g v z:=by
 unfold indexV at hv;split at hv
 ·rename_i l k i hu;cases hv;have:=hi.int_inv;subst this;obtain⟨s,rfl,rfl⟩:=hp.str_inv;obtain⟨h0,h1⟩:=hφ;have hlt:i.toNat<s.size:=by simp at h1;omega
  refine⟨.int .u8 (s[i.toNat].toNat:Int),by simp[Instr.index,asIntOf,run_underlying hu,h0,hlt], ?_⟩
  have e:s.data.toList.getD i.toNat 0=s[i.toNat]:=by
   have h':i.toNat<s.data.size:=hlt;rw[aaC,adK,acT h'];rfl
  rw[e];exact .int _ _ _
 ·rename_i len e cs k i hu;have:=hi.int_inv;subst this;split at hv
  ·rename_i sz hs;rw[aaQ]at hv;obtain⟨v',hv',he⟩:=hv;cases he;obtain⟨vs,rfl,hl,hr⟩:=hp.agg_inv;obtain⟨y,hy,hr'⟩:=jA hv' hl hr;exact⟨y,by simp[Instr.index,asIntOf,run_underlying hu,hφ.1,hφ.2,cO hs,hy],hr'⟩
  ·cases hv
 ·cases hv
end Go.Abs
