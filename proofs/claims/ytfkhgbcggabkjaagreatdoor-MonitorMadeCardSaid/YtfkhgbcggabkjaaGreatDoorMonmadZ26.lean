/- Part 26 of the proof: AbsY. -/
import Derived.Test.YtfkhgbcggabkjaaGreatDoorMonmadZ25
import Derived.Lib.LaidTab
namespace Go.Abs
open Go Go.RowKit
def mL (W:World):Nat->Prop:=fun k=>k<W.heap.size
theorem law_calls {P:Program} {f:FuncId} {gs:List (Nat×V)} {args:List V} {r:V} (h:aE P f gs [] [] args r []) (W:World) (vals:Array Value) (hl:vals.size=args.length)
  (hr:∀i,i<args.length->Rel (mL W) W eD (args.getD i .any) (vals.getD i undef)) (hg:∀p∈gs,Rel (mL W) W eD p.2 (.pointer (some ⟨p.1,0,none⟩))):
  Calls P f vals W fun e W'=>(∃x St g,e= .returned x/\Rel St W' g r x)/\Below W.heap.size W W':=by
 let z:Start:={w:=W,St:=mL W,Own:=fun _=>False,g:=eD,ro:=none}
 have hW:WSim z z.St z.g [] z.w:=⟨Frm.refl _ _,fun _ h=>h,fun k hk=>⟨hk,.inl hk⟩,fun r b v hb=>by simp[aJ.get]at hb,fun r b hb=>by simp[aJ.get]at hb,fun r r' b b' v v' hb=>by simp[aJ.get]at hb⟩;refine(h z vals hW hl hr hg).mono ?_;rintro e W' ⟨x,r',h1,St',g',rfl,⟨rfl,rfl⟩,hW',hrx,_⟩;exact⟨⟨x,St',g',rfl,hrx⟩,⟨hW'.frm.os,hW'.frm.tape,hW'.frm.output,hW'.frm.size,fun k hk=>hW'.frm.block k hk (fun h=>h)⟩⟩
theorem law_true {P:Program} {f:FuncId} {gs:List (Nat×V)} {args:List V} (h:aE P f gs [] [] args (.bool true) []) (W:World) (vals:Array Value) (hl:vals.size=args.length)
  (hr:∀i,i<args.length->Rel (mL W) W eD (args.getD i .any) (vals.getD i undef)) (hg:∀p∈gs,Rel (mL W) W eD p.2 (.pointer (some ⟨p.1,0,none⟩))):
  Calls P f vals W fun e W'=>e= .returned (.bool true)/\Below W.heap.size W W':=
 (law_calls h W vals hl hr hg).mono fun e W' ⟨⟨x,St,g,he,hx⟩,hb⟩=>⟨by rw[he,hx.bool_inv],hb⟩
theorem lT {W:World} {a:Addr} {v:Value} (h:W.cell? a=some v):a.block<W.heap.size:=World.block_lt_of_cell? W a h
end Go.Abs
