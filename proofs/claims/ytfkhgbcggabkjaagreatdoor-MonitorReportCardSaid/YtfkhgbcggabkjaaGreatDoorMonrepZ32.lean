/- Part 32 of the proof: Card54_9a. -/
import Derived.Test.YtfkhgbcggabkjaaGreatDoorMonrepZ31
import Derived.Test.YtfkhgbcggabkjaaGreatDoorCards
import Derived.Test.YtfkhgbcggabkjaaGreatDoorTie
import Derived.WalkKit
import Derived.ProofKit
import Derived.OpenShut
import Derived.Deep.DeepHandedRow
import Derived.Lib.LaidTab
namespace Go.Proofs.YtfkhgbcggabkjaaGreatDoor.monitorReport
open Go Go.ChangeShapes Go.WideShapes Go.ChangeAt Go.RowKit Go.Abs
theorem own :ownKnob Tryz.prog.godebug=none:=by kernel_rfl
theorem laidOut :laidOutB Tryz.prog=true:=by kernel_rfl
def wit :Array Value:= #[.agg #[.int .u8 0,.int .u8 0,.int .u8 0,.slice none 0 0],.slice none 0 0]
def mC (k:IntKind) (l:List Nat):Array Value:=(l.map fun(n:Nat)=>Value.int k (n:Int)).toArray
def lay (a:Array Value):Obj->Obj
 | .cells _ t frozen=> .cells a t frozen
 |o=>o
noncomputable def low :Nat:=(World.holding Tryz.prog default ⟨#[], #[],[]⟩).heap.size
noncomputable def qS (os:Os):World:=
 {(World.holding Tryz.prog os ⟨#[.cells #[.string ⟨#[118,97,108,117,101,32,111,117,116,32,111,102,32,114,97,110,103,101]⟩] 295,.cells #[.string ⟨#[105,110,118,97,108,105,100,32,115,121,110,116,97,120]⟩] 295], #[],[]⟩)with heap:=(((((((((World.holding Tryz.prog os ⟨#[.cells #[.string ⟨#[118,97,108,117,101,32,111,117,116,32,111,102,32,114,97,110,103,101]⟩] 295,.cells #[.string ⟨#[105,110,118,97,108,105,100,32,115,121,110,116,97,120]⟩] 295], #[],[]⟩).heap.modify 4 (lay (mC .u8 T4))).modify 5 (lay (mC .u8 T5))).modify 1 (lay (mC .u64 T1))).modify 8 (lay (mC .u8 T8))).modify 3 (lay #[.iface 293 (.pointer (some ⟨low+0,0,none⟩))])).modify 2 (lay #[.iface 293 (.pointer (some ⟨low+1,0,none⟩))])).modify 0 (lay #[.string ⟨#[]⟩,.string ⟨#[102,111,114,107]⟩,.string ⟨#[103,97,112]⟩,.string ⟨#[97,99,107,110,111,119,108,101,100,103,101,109,101,110,116]⟩])).modify 7 (lay (mC .u8 Go.Pinned.utf8FirstZ)))}
theorem laid_met (os:Os):laidMet Tryz.prog Rows.monitorReportRow.laid ((qS os).forCall (fun _ _=>0) ⟨#[],wit,[]⟩).memory:=
 laidMet_of_run' 8 (by kernel_rfl) (by kernel_rfl)
theorem reads (os:Os) {H:Type} (enc:TypeId×Value->H):∃places,DataW.whole enc Tryz.prog ((qS os).forCall (fun _ _=>0) ⟨#[],wit,[]⟩).memory Tryz.f9.params.toList Rows.monitorReportSpec.vars false wit.toList 8=some ([.agg [.lit (.int .u8 0),.lit (.int .u8 0),.lit (.int .u8 0),.nil],.nil],[],places):=
 ⟨[],by kernel_rfl⟩
noncomputable def nm :Nat→String:=fun k=>(Rows.monitorReportRow.laid.map Prod.fst).getD k ""
theorem cE {P:Program} {x:String×DataW Unit} {rest:List (String×DataW Unit)} {W:World} (h:laidMet P (x::rest) W):laidMet P rest W:=by
 obtain⟨ps,⟨g',t',cs,fuel,p,q,hg',ht',hvar,hd,hrest,he⟩,hnd,hcells⟩:=h;subst he;exact⟨q,hrest,(agT.1 hnd).2.1,fun b off hb=>hcells b off (adU _ hb)⟩
def intsOf (l:List Nat):List Int:=l.map fun(n:Nat)=>(n:Int)
noncomputable def gty (g:Nat):TypeId:=(Tryz.prog.globals[g]?.map (·.type)).getD 0
noncomputable def gel (g:Nat):TypeId:=match Tryz.prog.underlying (gty g)with|some (.array _ e)=>e|_=>0
theorem tab1 {W:World} (h:laidMetH Tryz.prog Rows.monitorReportRow.laid W):Lib.TabIs Tryz.prog W (nm 2) .u64 (intsOf T1):=
 Lib.tabIs_of_head (rest:=Rows.monitorReportRow.laid.drop 3) (g:=1) (t:=gty 1) (n:=20) (e:=gel 1) (by kernel_rfl) (by kernel_rfl) (by kernel_rfl) (by kernel_rfl) (by kernel_rfl) (by kernel_rfl) (cE (cE h))
theorem starE : "*" ++ "errors.errorString" = "*errors.errorString" :=by decide
theorem rowE (u:TypeId) (h:Tryz.prog.typeName? 3 u=some "*errors.errorString"):u=293:=
 typeName_ptr_named (nm:= "errors.errorString") (by rw[starE];kernel_rfl) (by kernel_rfl) (by decide) u (by rw[starE];exact h)
theorem tab3 {W:World} (h:laidMetH Tryz.prog Rows.monitorReportRow.laid W):∃x,W.var? Tryz.prog (nm 4)=some #[.iface 293 x]:=by
 obtain⟨a,s,h1,_⟩:=laid_sentinel (P:=Tryz.prog) (r:=Rows.monitorReportRow.laid.drop 5) (g:=3) (ti:=178) (tp:=293) (te:=295) (ts:=9) (text:=[118,97,108,117,101,32,111,117,116,32,111,102,32,114,97,110,103,101]) (cE (cE (cE (cE h)))) (by kernel_rfl) (by kernel_rfl) Tryz.underlying178 rowE Tryz.underlying293 Tryz.underlying295 rfl rfl Tryz.underlying9 (by kernel_rfl) (by kernel_rfl);exact⟨_,h1⟩
theorem tab2 {W:World} (h:laidMetH Tryz.prog Rows.monitorReportRow.laid W):∃x,W.var? Tryz.prog (nm 5)=some #[.iface 293 x]:=by
 obtain⟨a,s,h1,_⟩:=laid_sentinel (P:=Tryz.prog) (r:=Rows.monitorReportRow.laid.drop 6) (g:=2) (ti:=178) (tp:=293) (te:=295) (ts:=9) (text:=[105,110,118,97,108,105,100,32,115,121,110,116,97,120]) (cE (cE (cE (cE (cE h))))) (by kernel_rfl) (by kernel_rfl) Tryz.underlying178 rowE Tryz.underlying293 Tryz.underlying295 rfl rfl Tryz.underlying9 (by kernel_rfl) (by kernel_rfl);exact⟨_,h1⟩
theorem tab0 {W:World} (h:laidMetH Tryz.prog Rows.monitorReportRow.laid W):aB3 Tryz.prog W (nm 6) T0:=
 wD (rest:=Rows.monitorReportRow.laid.drop 7) (g:=0) (t:=gty 0) (n:=4) (e:=gel 0) (by kernel_rfl) (by kernel_rfl) (by kernel_rfl) (by kernel_rfl) (by kernel_rfl) (by kernel_rfl) (cE (cE (cE (cE (cE (cE h))))))
theorem tab1t {W:World} (h:laidMetH Tryz.prog Rows.monitorReportRow.laid W):Lib.TabIs Tryz.prog W (nm 2) .u64 Lib.pow10Tab:=by
 rw[<-show intsOf T1=Lib.pow10Tab from by kernel_rfl];exact tab1 h
set_option maxRecDepth 100000 in
theorem contract (H:Type) (enc:TypeId×Value->H) (W:World) (base:Nat) (args:Array Value) (ds gs:List (DataW H)) (before:List MemPlace)
  (hval:∀(j:Nat) t v,Tryz.f9.params[j]? =some t->args[j]? =some v->Value.okWide Tryz.prog W .any base t v)
  (hW:DataW.Whole enc Tryz.prog Tryz.f9.params.toList Rows.monitorReportSpec.vars false W args.toList ds gs before) (hL:laidMetH Tryz.prog Rows.monitorReportRow.laid W) (hwt:∀n,n∈DataW.weightsEach Tryz.prog (Tryz.f9.params.toList++(OpenSpec.ofChange Rows.monitorReportSpec).bare.plain.varTypes Tryz.prog) (ds++gs)->n<=reachBytes):
  Calls Tryz.prog 9 args W fun e W'=>∃v,e= .returned v/\Rows.monitorReportSpec.post enc Tryz.prog Tryz.f9 false true false false W args v W':=by
 have hW':=hW;obtain⟨p,q,hA0,hV,rfl,hfz,hnd⟩:=hW;have hA:DataW.TrodAll enc Tryz.prog W 0 (fun _=>true) true Tryz.f9.params.toList args.toList ds p:=hA0;rw[Tryz.params9]at hA hval;obtain⟨v0,vs0,d0,ds0,p0,q0,hargs0,rfl,rfl,h0,r0⟩:=trodAll_cons hA;obtain⟨v1,vs1,d1,ds1,p1,q1,hargs1,rfl,rfl,h1,r1⟩:=trodAll_cons r0;obtain⟨rfl,rfl,rfl⟩:=trodAll_nil r1;subst hargs1;obtain rfl:args= #[v0,v1]:=by cases args;simp_all
 obtain⟨rfl,rfl⟩:=trodVars_none hV;have hv0:Value.okWide Tryz.prog W .any base 68 v0:=hval 0 68 v0 (by simp) (by simp);obtain⟨m0,w0,c0,l0,hrel0,b0,bw0,bc0,ok0⟩:=aCo (P:=Tryz.prog) (t:=68) (tu:=5) (tl:=66) (e:=129) (ew:=31) (ep:=186) Tryz.underlying68 ⟨⟨rfl,rfl⟩,⟨rfl,rfl⟩,⟨rfl,rfl⟩,⟨rfl,rfl⟩⟩ (by kernel_rfl) (by kernel_rfl) Tryz.underlying5 Tryz.underlying66 (by kernel_rfl) Tryz.underlying129 (by kernel_rfl) ⟨rfl,rfl,rfl,rfl,rfl,rfl⟩ ⟨by kernel_rfl,by kernel_rfl,by kernel_rfl,by kernel_rfl,by kernel_rfl,by kernel_rfl⟩ Tryz.underlying5 Tryz.underlying5 Tryz.underlying5 Tryz.underlying127 Tryz.underlying127 Tryz.underlying71 Tryz.underlying31 (by kernel_rfl) Tryz.underlying186 (by kernel_rfl) rfl rfl (by kernel_rfl) (by kernel_rfl) Tryz.underlying32 Tryz.underlying32 hv0 h0;have hv1:Value.okWide Tryz.prog W .any base 24 v1:=hval 1 24 v1 (by simp) (by simp)
 have oneSg : aC6 Tryz.prog 41 := hU [3, 9] Tryz.underlying41 (fun u hu=>by
  simp only[abC,adJ,or_false]at hu;rcases hu with rfl|rfl
  ·exact qL Tryz.underlying3
  ·exact uK Tryz.underlying9
  ) (by kernel_rfl) (by kernel_rfl)
 have oneSn : aC6 Tryz.prog 47 := hU [3, 9, 29, 42, 43, 44, 45] Tryz.underlying47 (fun u hu=>by
  simp only[abC,adJ,or_false]at hu;rcases hu with rfl|rfl|rfl|rfl|rfl|rfl|rfl
  ·exact qL Tryz.underlying3
  ·exact uK Tryz.underlying9
  ·exact dV Tryz.underlying29
  ·exact dV Tryz.underlying42
  ·exact dV Tryz.underlying43
  ·exact dV Tryz.underlying44
  ·exact dV Tryz.underlying45
  ) (by kernel_rfl) (by kernel_rfl)
 have oneMg : aC6 Tryz.prog 49 := hU [2, 3, 9, 41, 47, 29, 42, 43, 44, 45] Tryz.underlying49 (fun u hu=>by
  simp only[abC,adJ,or_false]at hu;rcases hu with rfl|rfl|rfl|rfl|rfl|rfl|rfl|rfl|rfl|rfl
  ·exact qL Tryz.underlying2
  ·exact qL Tryz.underlying3
  ·exact uK Tryz.underlying9
  ·exact oneSg
  ·exact oneSn
  ·exact dV Tryz.underlying29
  ·exact dV Tryz.underlying42
  ·exact dV Tryz.underlying43
  ·exact dV Tryz.underlying44
  ·exact dV Tryz.underlying45
  ) (by kernel_rfl) (by kernel_rfl)
 have onePt : aC6 Tryz.prog 51 := hU [3, 9, 49] Tryz.underlying51 (fun u hu=>by
  simp only[abC,adJ,or_false]at hu;rcases hu with rfl|rfl|rfl
  ·exact qL Tryz.underlying3
  ·exact uK Tryz.underlying9
  ·exact oneMg
  ) (by kernel_rfl) (by kernel_rfl)
 have hwt1:∀n,n∈d1.weights Tryz.prog 24->n<=reachBytes:=fun n hn=>hwt n (uN (j:=1) (t:=24) (d:=d1) (by rw[Tryz.params9];rfl) rfl hn)
 obtain ⟨l1, hrel1, ok1, n1⟩ := aCp (P := Tryz.prog) (t := 24) (e := 51) (bs := [false, false, false, false, false, true, true]) (sz := 28) (dA := default) (encA := sB) okPtW Tryz.underlying24 Tryz.underlying51 (by decide) (by kernel_rfl) (by decide) (by decide) onePt (fun i f hb hf=>by
  match i,hb,hf with
  |0,_,hf=>cases hf;exact⟨rfl,by kernel_rfl,by kernel_rfl⟩
  |1,_,hf=>cases hf;exact⟨rfl,by kernel_rfl,by kernel_rfl⟩
  |2,_,hf=>cases hf;exact⟨rfl,by kernel_rfl,by kernel_rfl⟩
  |3,_,hf=>cases hf;exact⟨rfl,by kernel_rfl,by kernel_rfl⟩
  |4,_,hf=>cases hf;exact⟨rfl,by kernel_rfl,by kernel_rfl⟩
  |5,_,hf=>cases hf;exact⟨rfl,by kernel_rfl,by kernel_rfl⟩
  |6,_,hf=>cases hf;exact⟨rfl,by kernel_rfl,by kernel_rfl⟩
  | _ + 7, hb, _ => exact absurd hb (by simp)) (fun a j h1 h2=>by
  match j,h1,h2 with
  |7,_,_=>rfl
  |8,_,_=>rfl
  |9,_,_=>rfl
  |10,_,_=>rfl
  |11,_,_=>rfl
  |12,_,_=>rfl
  |13,_,_=>rfl
  |14,_,_=>rfl
  |15,_,_=>rfl
  |16,_,_=>rfl
  |17,_,_=>rfl
  |18,_,_=>rfl
  |19,_,_=>rfl
  |20,_,_=>rfl
  |21,_,_=>rfl
  |22,_,_=>rfl
  |23,_,_=>rfl
  |24,_,_=>rfl
  |25,_,_=>rfl
  |26,_,_=>rfl
  |27,_,_=>rfl
  |_+28,_,h2=>omega
  ) (mkPtW (encA := sB) (fun a i hi=>by
  match i,hi with
  |0,_=>rfl
  |1,_=>rfl
  |2,_=>rfl
  |3,_=>rfl
  |4,_=>rfl
  |5,_=>rfl
  |6,_=>rfl
  )) hwt1 hv1 h1
 have hcall := law_true (f9_ok m0 w0 c0 l0 l1 true (f9_true m0 w0 c0 l0 l1 b0 bw0 bc0 ok0 ok1 n1)) W #[_, _] rfl (fun i hi=>by
  have hi':i<2:=hi
  match i,hi' with
  |0,_=>exact hrel0
  | 1, _ => exact hrel1) (fun pr hp=>by
  simp only[abC,adJ,or_false]at hp;rcases hp with rfl|rfl|rfl|rfl
  ·exact rel_strs (ls:=T0) (fun _ _=>rfl) (by decide) (tab0 hL) (by kernel_rfl)
  ·exact rel_tab (tab1t hL) (by kernel_rfl)
  ·obtain⟨x,hx⟩:=tab2 hL;exact aA7 (by kernel_rfl) hx
  ·obtain⟨x,hx⟩:=tab3 hL;exact aA7 (by kernel_rfl) hx)
 refine hcall.mono fun e W' ⟨he,hb⟩=>⟨_,he, ?_⟩;exact post_law laidOut (by kernel_rfl) rfl Tryz.underlying4 rfl hW' rfl rfl rfl hb
set_option maxRecDepth 100000 in
theorem lifted (os:Os) (started:os.Started) (H:Type) (enc:TypeId×Value->H) (F:Stop.Interp):
  ReturnsInHanded {} Tryz.checked os 9 .any ((OpenSpec.ofChange Rows.monitorReportSpec).preRow enc Tryz.prog Tryz.f9 Rows.monitorReportRow.domain false Rows.monitorReportRow.laid) (((OpenSpec.ofChange Rows.monitorReportSpec).at F).post enc Tryz.prog Tryz.f9 false true false false):=by
 obtain⟨places,hx⟩:=reads os enc
 refine returnsInHanded_of_row (C:=Tryz.checked) (s:=OpenSpec.ofChange Rows.monitorReportSpec) own started (by kernel_rfl) Tryz.func9
  (witness_row_at (enc:=enc) (C:=Tryz.checked) false (qS os) wit rfl (by kernel_rfl) (by kernel_rfl) (by kernel_rfl)
   (OpenSpec.preRow_of_cond 8 hx (by kernel_rfl) (fun k hk=>by cases hk) (by kernel_rfl) (laid_met os))) ?_
 intro W base args ds gs before hval hW _ _ hz hL _ _;exact contract H enc W base args ds gs before hval hW hL (fun n hn=>of_decide_eq_true (aaX.1 hz n hn))
end Go.Proofs.YtfkhgbcggabkjaaGreatDoor.monitorReport
