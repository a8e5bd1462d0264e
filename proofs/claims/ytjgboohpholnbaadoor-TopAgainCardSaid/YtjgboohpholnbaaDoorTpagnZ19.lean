/- Part 19 of the proof: AbsY. -/
import Derived.Test.YtjgboohpholnbaaDoorTpagnZ18
import Derived.Lib.LaidTab
namespace Go.Abs
open Go Go.RowKit
def mC (W:World):Nat→Prop:=fun k=>k<W.heap.size
theorem law_calls {P:Program} {f:FuncId} {gs:List (Nat×V)} {args:List V} {r:V} (h:aF P f gs [] [] args r []) (W:World) (vals:Array Value) (hl:vals.size=args.length)
  (hr:∀i,i<args.length→Rel (mC W) W dU (args.getD i .any) (vals.getD i undef)) (hg:∀p∈gs,Rel (mC W) W dU p.2 (.pointer (some ⟨p.1,0,none⟩))):
  Calls P f vals W fun e W'=>(∃x St g,e= .returned x∧Rel St W' g r x)∧Below W.heap.size W W':=by
 let z:Start:={w:=W,St:=mC W,Own:=fun _=>False,g:=dU,ro:=none}
 have hW:WSim z z.St z.g [] z.w:=⟨Frm.refl _ _,fun _ h=>h,fun k hk=>⟨hk,.inl hk⟩,fun r b v hb=>by simp[aG.get]at hb,fun r b hb=>by simp[aG.get]at hb,fun r r' b b' v v' hb=>by simp[aG.get]at hb⟩;refine(h z vals hW hl hr hg).mono ?_;rintro e W' ⟨x,r',h1,St',g',rfl,⟨rfl,rfl⟩,hW',hrx,_⟩;exact⟨⟨x,St',g',rfl,hrx⟩,⟨hW'.frm.os,hW'.frm.tape,hW'.frm.output,hW'.frm.size,fun k hk=>hW'.frm.block k hk (fun h=>h)⟩⟩
theorem law_true {P:Program} {f:FuncId} {gs:List (Nat×V)} {args:List V} (h:aF P f gs [] [] args (.bool true) []) (W:World) (vals:Array Value) (hl:vals.size=args.length)
  (hr:∀i,i<args.length→Rel (mC W) W dU (args.getD i .any) (vals.getD i undef)) (hg:∀p∈gs,Rel (mC W) W dU p.2 (.pointer (some ⟨p.1,0,none⟩))):
  Calls P f vals W fun e W'=>e= .returned (.bool true)∧Below W.heap.size W W':=
 (law_calls h W vals hl hr hg).mono fun e W' ⟨⟨x,St,g,he,hx⟩,hb⟩=>⟨by rw[he,hx.bool_inv],hb⟩
theorem fV {W:World} {a:Addr} {v:Value} (h:W.cell? a=some v):a.block<W.heap.size:=World.block_lt_of_cell? W a h
theorem rel_table {W:World} {k:Nat} {kind:IntKind} {l:List Nat} {f:Nat→Nat→V} (hf:∀c,f 0 c= .int kind ((l.getD c 0:Nat):Int)) (h0:0<l.length)
  (hc:∀j,j<l.length→W.cell? ⟨k,j,none⟩=some (.int kind ((l.getD j 0:Nat):Int))):Rel (mC W) W dU (.elem l.length 1 f 0 0) (.pointer (some ⟨k,0,none⟩)):=by
 have := Rel.elem (St := mC W) (w := W) dU l.length 1 f 0 0 k 0 (fun _ c => .int kind ((l.getD c 0 : Nat) : Int)) (by decide) (fun _ => fV (hc 0 h0)) (fun i j hi hj=>by
  have:i=0:=by omega
  subst this
  simpa using hc j hj) (fun _ _ _ _ => rfl) (fun i j hi _=>by
  have:i=0:=by omega
  subst this;rw[hf];exact .int _ _ _)
 simpa using this
end Go.Abs
