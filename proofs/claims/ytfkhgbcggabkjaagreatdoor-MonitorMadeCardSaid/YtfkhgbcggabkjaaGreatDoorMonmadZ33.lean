/- Part 33 of the proof: Card54_6a. -/
import Derived.Test.YtfkhgbcggabkjaaGreatDoorMonmadZ32
import Derived.Test.YtfkhgbcggabkjaaGreatDoorCards
import Derived.Test.YtfkhgbcggabkjaaGreatDoorTie
import Derived.WalkKit
import Derived.ProofKit
import Derived.OpenShut
import Derived.Deep.DeepHandedRow
import Derived.Lib.LaidTab
namespace Go.Proofs.YtfkhgbcggabkjaaGreatDoor.monitorMade
open Go Go.ChangeShapes Go.WideShapes Go.ChangeAt Go.RowKit Go.Abs
theorem own :ownKnob Tryz.prog.godebug=none:=by kernel_rfl
theorem laidOut :laidOutB Tryz.prog=true:=by kernel_rfl
def wit :Array Value:= #[.slice none 0 0]
def lA (k:IntKind) (l:List Nat):Array Value:=(l.map fun(n:Nat)=>Value.int k (n:Int)).toArray
def lay (a:Array Value):Obj->Obj
 | .cells _ t frozen=> .cells a t frozen
 |o=>o
noncomputable def low :Nat:=(World.holding Tryz.prog default ⟨#[], #[],[]⟩).heap.size
noncomputable def pD (os:Os):World:=
 {(World.holding Tryz.prog os ⟨#[.cells #[.string ⟨#[118,97,108,117,101,32,111,117,116,32,111,102,32,114,97,110,103,101]⟩] 295,.cells #[.string ⟨#[105,110,118,97,108,105,100,32,115,121,110,116,97,120]⟩] 295], #[],[]⟩)with heap:=((((((((World.holding Tryz.prog os ⟨#[.cells #[.string ⟨#[118,97,108,117,101,32,111,117,116,32,111,102,32,114,97,110,103,101]⟩] 295,.cells #[.string ⟨#[105,110,118,97,108,105,100,32,115,121,110,116,97,120]⟩] 295], #[],[]⟩).heap.modify 4 (lay (lA .u8 T4))).modify 5 (lay (lA .u8 T5))).modify 1 (lay (lA .u64 T1))).modify 8 (lay (lA .u8 T8))).modify 3 (lay #[.iface 293 (.pointer (some ⟨low+0,0,none⟩))])).modify 2 (lay #[.iface 293 (.pointer (some ⟨low+1,0,none⟩))])).modify 7 (lay (lA .u8 Go.Pinned.utf8FirstZ)))}
theorem laid_met (os:Os):laidMet Tryz.prog Rows.monitorMadeRow.laid ((pD os).forCall (fun _ _=>0) ⟨#[],wit,[]⟩).memory:=
 laidMet_of_run' 8 (by kernel_rfl) (by kernel_rfl)
theorem reads (os:Os) {H:Type} (enc:TypeId×Value->H):∃places,DataW.whole enc Tryz.prog ((pD os).forCall (fun _ _=>0) ⟨#[],wit,[]⟩).memory Tryz.f6.params.toList Rows.monitorMadeSpec.vars false wit.toList 8=some ([.nil],[],places):=
 ⟨[],by kernel_rfl⟩
noncomputable def nm :Nat→String:=fun k=>(Rows.monitorMadeRow.laid.map Prod.fst).getD k ""
theorem cW {P:Program} {x:String×DataW Unit} {rest:List (String×DataW Unit)} {W:World} (h:laidMet P (x::rest) W):laidMet P rest W:=by
 obtain⟨ps,⟨g',t',cs,fuel,p,q,hg',ht',hvar,hd,hrest,he⟩,hnd,hcells⟩:=h;subst he;exact⟨q,hrest,(agS.1 hnd).2.1,fun b off hb=>hcells b off (adV _ hb)⟩
def intsOf (l:List Nat):List Int:=l.map fun(n:Nat)=>(n:Int)
noncomputable def gty (g:Nat):TypeId:=(Tryz.prog.globals[g]?.map (·.type)).getD 0
noncomputable def gel (g:Nat):TypeId:=match Tryz.prog.underlying (gty g)with|some (.array _ e)=>e|_=>0
theorem tab1 {W:World} (h:laidMetH Tryz.prog Rows.monitorMadeRow.laid W):Lib.TabIs Tryz.prog W (nm 2) .u64 (intsOf T1):=
 Lib.tabIs_of_head (rest:=Rows.monitorMadeRow.laid.drop 3) (g:=1) (t:=gty 1) (n:=20) (e:=gel 1) (by kernel_rfl) (by kernel_rfl) (by kernel_rfl) (by kernel_rfl) (by kernel_rfl) (by kernel_rfl) (cW (cW h))
theorem starE : "*" ++ "errors.errorString" = "*errors.errorString" :=by decide
theorem rowE (u:TypeId) (h:Tryz.prog.typeName? 3 u=some "*errors.errorString"):u=293:=
 typeName_ptr_named (nm:= "errors.errorString") (by rw[starE];kernel_rfl) (by kernel_rfl) (by decide) u (by rw[starE];exact h)
theorem tab3 {W:World} (h:laidMetH Tryz.prog Rows.monitorMadeRow.laid W):∃x,W.var? Tryz.prog (nm 4)=some #[.iface 293 x]:=by
 obtain⟨a,s,h1,_⟩:=laid_sentinel (P:=Tryz.prog) (r:=Rows.monitorMadeRow.laid.drop 5) (g:=3) (ti:=178) (tp:=293) (te:=295) (ts:=9) (text:=[118,97,108,117,101,32,111,117,116,32,111,102,32,114,97,110,103,101]) (cW (cW (cW (cW h)))) (by kernel_rfl) (by kernel_rfl) Tryz.underlying178 rowE Tryz.underlying293 Tryz.underlying295 rfl rfl Tryz.underlying9 (by kernel_rfl) (by kernel_rfl);exact⟨_,h1⟩
theorem tab2 {W:World} (h:laidMetH Tryz.prog Rows.monitorMadeRow.laid W):∃x,W.var? Tryz.prog (nm 5)=some #[.iface 293 x]:=by
 obtain⟨a,s,h1,_⟩:=laid_sentinel (P:=Tryz.prog) (r:=Rows.monitorMadeRow.laid.drop 6) (g:=2) (ti:=178) (tp:=293) (te:=295) (ts:=9) (text:=[105,110,118,97,108,105,100,32,115,121,110,116,97,120]) (cW (cW (cW (cW (cW h))))) (by kernel_rfl) (by kernel_rfl) Tryz.underlying178 rowE Tryz.underlying293 Tryz.underlying295 rfl rfl Tryz.underlying9 (by kernel_rfl) (by kernel_rfl);exact⟨_,h1⟩
theorem tab1t {W:World} (h:laidMetH Tryz.prog Rows.monitorMadeRow.laid W):Lib.TabIs Tryz.prog W (nm 2) .u64 Lib.pow10Tab:=by
 rw[<-show intsOf T1=Lib.pow10Tab from by kernel_rfl];exact tab1 h
set_option maxRecDepth 100000 in
theorem contract (H:Type) (enc:TypeId×Value->H) (W:World) (base:Nat) (args:Array Value) (ds gs:List (DataW H)) (before:List MemPlace)
  (hval:∀(j:Nat) t v,Tryz.f6.params[j]? =some t->args[j]? =some v->Value.okWide Tryz.prog W .any base t v)
  (hW:DataW.Whole enc Tryz.prog Tryz.f6.params.toList Rows.monitorMadeSpec.vars false W args.toList ds gs before) (hL:laidMetH Tryz.prog Rows.monitorMadeRow.laid W):
  Calls Tryz.prog 6 args W fun e W'=>∃v,e= .returned v/\Rows.monitorMadeSpec.post enc Tryz.prog Tryz.f6 false true false false W args v W':=by
 have hW':=hW;obtain⟨p,q,hA0,hV,rfl,hfz,hnd⟩:=hW;have hA:DataW.TrodAll enc Tryz.prog W 0 (fun _=>true) true Tryz.f6.params.toList args.toList ds p:=hA0;rw[Tryz.params6]at hA hval;obtain⟨v0,vs0,d0,ds0,p0,q0,hargs0,rfl,rfl,h0,r0⟩:=trodAll_cons hA;obtain⟨rfl,rfl,rfl⟩:=trodAll_nil r0;obtain rfl:args= #[v0]:=by cases args;simp_all
 obtain⟨rfl,rfl⟩:=trodVars_none hV;have hv0:Value.okWide Tryz.prog W .any base 22 v0:=hval 0 22 v0 (by simp) (by simp)
 obtain ⟨l0, hrel0, ok0, n0⟩ := aBu (P := Tryz.prog) (t := 22) (e := 85) (n4 := 4) rfl (dA := default) (encA := cP) Tryz.underlying22 Tryz.underlying85 rfl (by kernel_rfl) (fun i f hf=>by
  match i,hf with
  |0,hf=>cases hf;exact⟨rfl,by kernel_rfl,by kernel_rfl⟩
  |1,hf=>cases hf;exact⟨rfl,by kernel_rfl,by kernel_rfl⟩
  |2,hf=>cases hf;exact⟨rfl,by kernel_rfl,by kernel_rfl⟩
  |3,hf=>cases hf;exact⟨rfl,by kernel_rfl,by kernel_rfl⟩
  | _ + 4, hf => simp at hf) (fun a i hi=>by
  match i,hi with
  |0,_=>rfl
  |1,_=>rfl
  |2,_=>rfl
  |3,_=>rfl
  ) hv0 h0
 have hcall := law_true (f6_ok l0 true (f6_true l0 ok0 n0)) W #[_] rfl (fun i hi=>by
  have hi':i<1:=hi
  match i,hi' with
  | 0, _ => exact hrel0) (fun pr hp=>by
  simp only[abB,aeJ,or_false]at hp;rcases hp with rfl|rfl|rfl
  ·exact rel_tab (tab1t hL) (by kernel_rfl)
  ·obtain⟨x,hx⟩:=tab2 hL;exact aAi (by kernel_rfl) hx
  ·obtain⟨x,hx⟩:=tab3 hL;exact aAi (by kernel_rfl) hx)
 refine hcall.mono fun e W' ⟨he,hb⟩=>⟨_,he, ?_⟩;exact post_law laidOut (by kernel_rfl) rfl Tryz.underlying4 rfl hW' rfl rfl rfl hb
set_option maxRecDepth 100000 in
theorem lifted (os:Os) (started:os.Started) (H:Type) (enc:TypeId×Value->H) (F:Stop.Interp):
  ReturnsInHanded {} Tryz.checked os 6 .any ((OpenSpec.ofChange Rows.monitorMadeSpec).preRow enc Tryz.prog Tryz.f6 Rows.monitorMadeRow.domain false Rows.monitorMadeRow.laid) (((OpenSpec.ofChange Rows.monitorMadeSpec).at F).post enc Tryz.prog Tryz.f6 false true false false):=by
 obtain⟨places,hx⟩:=reads os enc
 refine returnsInHanded_of_row (C:=Tryz.checked) (s:=OpenSpec.ofChange Rows.monitorMadeSpec) own started (by kernel_rfl) Tryz.func6
  (witness_row_at (enc:=enc) (C:=Tryz.checked) false (pD os) wit rfl (by kernel_rfl) (by kernel_rfl) (by kernel_rfl)
   (OpenSpec.preRow_of_cond 8 hx (by kernel_rfl) (fun k hk=>by cases hk) (by kernel_rfl) (laid_met os))) ?_
 intro W base args ds gs before hval hW _ _ _ hL _ _;exact contract H enc W base args ds gs before hval hW hL
end Go.Proofs.YtfkhgbcggabkjaaGreatDoor.monitorMade
