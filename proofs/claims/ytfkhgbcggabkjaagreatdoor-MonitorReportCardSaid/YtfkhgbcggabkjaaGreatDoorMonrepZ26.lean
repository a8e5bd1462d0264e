/- Part 26 of the proof: AbsY. -/
import Derived.Test.YtfkhgbcggabkjaaGreatDoorMonrepZ25
import Derived.Lib.LaidTab
namespace Go.Abs
open Go Go.RowKit
def fI (W:World):Nat->Prop:=fun k=>k<W.heap.size
theorem law_calls {P:Program} {f:FuncId} {gs:List (Nat×V)} {args:List V} {r:V} (h:aG P f gs [] [] args r []) (W:World) (vals:Array Value) (hl:vals.size=args.length)
  (hr:∀i,i<args.length->Rel (fI W) W dS (args.getD i .any) (vals.getD i undef)) (hg:∀p∈gs,Rel (fI W) W dS p.2 (.pointer (some ⟨p.1,0,none⟩))):
  Calls P f vals W fun e W'=>(∃x St g,e= .returned x/\Rel St W' g r x)/\Below W.heap.size W W':=by
 let z:Start:={w:=W,St:=fI W,Own:=fun _=>False,g:=dS,ro:=none}
 have hW:WSim z z.St z.g [] z.w:=⟨Frm.refl _ _,fun _ h=>h,fun k hk=>⟨hk,.inl hk⟩,fun r b v hb=>by simp[aJ.get]at hb,fun r b hb=>by simp[aJ.get]at hb,fun r r' b b' v v' hb=>by simp[aJ.get]at hb⟩;refine(h z vals hW hl hr hg).mono ?_;rintro e W' ⟨x,r',h1,St',g',rfl,⟨rfl,rfl⟩,hW',hrx,_⟩;exact⟨⟨x,St',g',rfl,hrx⟩,⟨hW'.frm.os,hW'.frm.tape,hW'.frm.output,hW'.frm.size,fun k hk=>hW'.frm.block k hk (fun h=>h)⟩⟩
theorem law_true {P:Program} {f:FuncId} {gs:List (Nat×V)} {args:List V} (h:aG P f gs [] [] args (.bool true) []) (W:World) (vals:Array Value) (hl:vals.size=args.length)
  (hr:∀i,i<args.length->Rel (fI W) W dS (args.getD i .any) (vals.getD i undef)) (hg:∀p∈gs,Rel (fI W) W dS p.2 (.pointer (some ⟨p.1,0,none⟩))):
  Calls P f vals W fun e W'=>e= .returned (.bool true)/\Below W.heap.size W W':=
 (law_calls h W vals hl hr hg).mono fun e W' ⟨⟨x,St,g,he,hx⟩,hb⟩=>⟨by rw[he,hx.bool_inv],hb⟩
theorem dR {W:World} {a:Addr} {v:Value} (h:W.cell? a=some v):a.block<W.heap.size:=World.block_lt_of_cell? W a h
theorem rel_sets {W:World} {b o cap:Nat} {l:aaB} (hcap:l.length<=cap) (hm:cap<=maxLen) (hc:∀j,j<l.length->W.cell? ⟨b,o+j,none⟩=some (.int .u16 ((l.getD j 0#16).toNat:Int))):
  Rel (fI W) W dS (.arr 1 l.length (bY (fun x=>[.b16 x]) 0#16 l)) (.slice (some ⟨b,o,none⟩) l.length cap):=by
 refine .arr _ 1 _ _ b o cap (fun i _=> .int .u16 ((l.getD i 0#16).toNat:Int)) hcap (aeF hcap hm) (fun hn _=>dR (hc 0 hn)) (fun i j hi hj=> ?_) (fun _ _ _ _=>rfl) (fun i j hi hj=> ?_)
 ·have:j=0:=by omega
  subst this;rw[ahD,aeZ];exact hc i hi
 ·have:j=0:=by omega
  subst this;exact .b16 _ _
end Go.Abs
