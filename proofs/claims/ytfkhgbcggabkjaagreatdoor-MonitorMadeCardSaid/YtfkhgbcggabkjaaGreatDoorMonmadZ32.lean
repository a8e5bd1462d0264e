/- Part 32 of the proof: Open5. -/
import Derived.Test.YtfkhgbcggabkjaaGreatDoorMonmadZ31
import Derived.Stop.LaidErr
namespace Go.Abs
open Go Go.RowKit Go.ChangeShapes Go.WideShapes Go.ChangeAt Go.Deep
section
variable {H:Type} {enc:TypeId×Value->H} {P:Program} {W:World} {t e:TypeId} {base:Nat} {v:Value} {d:DataW H} {ps:List MemPlace}
end
theorem aAi {P:Program} {W:World} {name:String} {g:Nat} {tp:TypeId} {x:Value} (hg:P.globalNamed name=some g) (h:W.var? P name=some #[.iface tp x]):Rel (mL W) W eD bV (.pointer (some ⟨g,0,none⟩)):=by
 have hc:W.cell? ⟨g,0,none⟩=some (.iface tp x):=by
  have:=World.var?_cell hg h 0;simpa using this
 unfold bV;have hs:mL W g:=lT hc
 have := Rel.elem (St := mL W) (w := W) eD 1 1 (fun _ _ => V.ifc true) 0 0 g 0 (fun _ _ => .iface tp x) (by omega) (fun _ => hs) (fun i j hi hj=>by
  obtain rfl:i=0:=by omega
  obtain rfl:j=0:=by omega
  exact hc) (fun _ _ _ _=>rfl) (fun _ _ _ _=> .ifc _ _ _ ⟨_,_,rfl⟩)
 exact this
end Go.Abs
