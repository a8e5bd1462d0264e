/- Part 22 of the proof: Cardta_3a. -/
import Derived.Test.YtjgboohpholnbaaDoorTpagnZ21
import Derived.Test.YtjgboohpholnbaaDoorCards
import Derived.Test.YtjgboohpholnbaaDoorTie
import Derived.WalkKit
import Derived.ProofKit
import Derived.OpenShut
import Derived.Deep.DeepHandedRow
import Derived.Lib.LaidTab
namespace Go.Proofs.YtjgboohpholnbaaDoor.topAgain
open Go Go.ChangeShapes Go.WideShapes Go.ChangeAt Go.RowKit Go.Abs
theorem own :ownKnob Tryd.prog.godebug=none:=by kernel_rfl
theorem laidOut :laidOutB Tryd.prog=true:=by kernel_rfl
def wit :Array Value:= #[.agg #[.slice none 0 0]]
def tabCells (k:IntKind) (l:List Nat):Array Value:=(l.map fun(n:Nat)=>Value.int k (n:Int)).toArray
def lay (a:Array Value):Obj→Obj
 | .cells _ t frozen=> .cells a t frozen
 |o=>o
noncomputable def nM (os:Os):World:=
 {(World.holding Tryd.prog os ⟨#[], #[],[]⟩)with heap:=((World.holding Tryd.prog os ⟨#[], #[],[]⟩).heap.modify 0 (lay (tabCells .u8 T0)))}
theorem laid_met (os:Os):laidMet Tryd.prog Rows.topAgainRow.laid ((nM os).forCall (fun _ _=>0) ⟨#[],wit,[]⟩).memory:=
 laidMet_of_run' 8 (by kernel_rfl) (by kernel_rfl)
theorem reads (os:Os) {H:Type} (enc:TypeId×Value→H):∃places,DataW.whole enc Tryd.prog ((nM os).forCall (fun _ _=>0) ⟨#[],wit,[]⟩).memory Tryd.f3.params.toList Rows.topAgainSpec.vars false wit.toList 8=some ([.agg [.nil]],[],places):=
 ⟨[],by kernel_rfl⟩
noncomputable def nm :Nat→String:=fun k=>(Rows.topAgainRow.laid.map Prod.fst).getD k ""
def xB (l:List Nat):List Int:=l.map fun(n:Nat)=>(n:Int)
noncomputable def gty (g:Nat):TypeId:=(Tryd.prog.globals[g]?.map (·.type)).getD 0
noncomputable def gel (g:Nat):TypeId:=match Tryd.prog.underlying (gty g)with|some (.array _ e)=>e|_=>0
theorem tab0 {W:World} (h:laidMetH Tryd.prog Rows.topAgainRow.laid W):Lib.TabIs Tryd.prog W (nm 0) .u8 (xB T0):=
 Lib.tabIs_of_head (rest:=Rows.topAgainRow.laid.drop 1) (g:=0) (t:=gty 0) (n:=32) (e:=gel 0) (by kernel_rfl) (by kernel_rfl) (by kernel_rfl) (by kernel_rfl) (by kernel_rfl) (by kernel_rfl) h
theorem cell_of {W:World} {name:String} {k:IntKind} {l:List Nat} {g:Nat} (h:Lib.TabIs Tryd.prog W name k (xB l)) (hg:Tryd.prog.globalNamed name=some g) (j:Nat) (hj:j<l.length):
  W.cell? ⟨g,j,none⟩=some (.int k ((l.getD j 0:Nat):Int)):=by
 rw[h.cell hg j (by simpa[xB]using hj)];simp[xB,List.getD_eq_getElem?_getD,hj]
set_option maxRecDepth 100000 in
theorem contract (H:Type) (enc:TypeId×Value→H) (W:World) (base:Nat) (args:Array Value) (ds gs:List (DataW H)) (before:List MemPlace)
  (hval:∀(j:Nat) t v,Tryd.f3.params[j]? =some t→args[j]? =some v→Value.okWide Tryd.prog W .any base t v)
  (hW:DataW.Whole enc Tryd.prog Tryd.f3.params.toList Rows.topAgainSpec.vars false W args.toList ds gs before) (hL:laidMetH Tryd.prog Rows.topAgainRow.laid W):
  Calls Tryd.prog 3 args W fun e W'=>∃v,e= .returned v∧Rows.topAgainSpec.post enc Tryd.prog Tryd.f3 false true false false W args v W':=by
 have hW':=hW;obtain⟨p,q,hA0,hV,rfl,hfz,hnd⟩:=hW;have hA:DataW.TrodAll enc Tryd.prog W 0 (fun _=>true) true Tryd.f3.params.toList args.toList ds p:=hA0;rw[Tryd.params3]at hA hval;obtain⟨v0,vs0,d0,ds0,p0,q0,hargs0,rfl,rfl,h0,r0⟩:=trodAll_cons hA;obtain⟨rfl,rfl,rfl⟩:=trodAll_nil r0;obtain rfl:args= #[v0]:=by cases args;simp_all
 obtain⟨rfl,rfl⟩:=trodVars_none hV;have hv0:Value.okWide Tryd.prog W .any base 24 v0:=hval 0 24 v0 (by simp) (by simp)
 obtain ⟨l0, hrel0, ok0, n0⟩ := vB (P := Tryd.prog) (t := 24) (tl := 22) (e := 65) (ew := 5) (dA := default) (encA := eT65) (fun a i hi=>by
  match i,hi with
  |0,_=>rfl
  |1,_=>rfl
  |2,_=>rfl
  |3,_=>rfl
  |4,_=>rfl
  ) Tryd.underlying24 ⟨rfl,rfl⟩ (by kernel_rfl) (by kernel_rfl) Tryd.underlying22 (by kernel_rfl) Tryd.underlying65 (by kernel_rfl) ⟨rfl,rfl,rfl,rfl,rfl⟩ ⟨by kernel_rfl,by kernel_rfl,by kernel_rfl,by kernel_rfl,by kernel_rfl⟩ Tryd.underlying5 Tryd.underlying5 Tryd.underlying5 Tryd.underlying4 Tryd.underlying63 Tryd.underlying5 (by kernel_rfl) hv0 h0
 have hcall := law_true (f3_ok l0 true (f3_true l0 ok0 n0)) W #[_] rfl (fun i hi=>by
  have hi':i<1:=hi
  match i,hi' with
  | 0, _ => exact hrel0) (fun pr hp=>by
  simp only[List.mem_cons,List.not_mem_nil,or_false]at hp;subst hp
  ·exact rel_table (l:=T0) (fun _=>rfl) (by decide) (fun j hj=>cell_of (tab0 hL) (by kernel_rfl) j hj))
 refine hcall.mono fun e W' ⟨he,hb⟩=>⟨_,he, ?_⟩;exact post_law laidOut (by kernel_rfl) rfl Tryd.underlying4 rfl hW' rfl rfl rfl hb
set_option maxRecDepth 100000 in
theorem lifted (os:Os) (started:os.Started) (H:Type) (enc:TypeId×Value→H) (F:Stop.Interp):
  ReturnsInHanded {} Tryd.checked os 3 .any ((OpenSpec.ofChange Rows.topAgainSpec).preRow enc Tryd.prog Tryd.f3 Rows.topAgainRow.domain false Rows.topAgainRow.laid) (((OpenSpec.ofChange Rows.topAgainSpec).at F).post enc Tryd.prog Tryd.f3 false true false false):=by
 obtain⟨places,hx⟩:=reads os enc
 refine returnsInHanded_of_row (C:=Tryd.checked) (s:=OpenSpec.ofChange Rows.topAgainSpec) own started (by kernel_rfl) Tryd.func3
  (witness_row_at (enc:=enc) (C:=Tryd.checked) false (nM os) wit rfl (by kernel_rfl) (by kernel_rfl) (by kernel_rfl)
   (OpenSpec.preRow_of_cond 8 hx (by kernel_rfl) (fun k hk=>by cases hk) (by kernel_rfl) (laid_met os))) ?_
 intro W base args ds gs before hval hW _ _ _ hL _ _;exact contract H enc W base args ds gs before hval hW hL
end Go.Proofs.YtjgboohpholnbaaDoor.topAgain
