/- Part 28 of the proof: Open3, Open4. -/
import Derived.Test.YtfkhgbcggabkjaaGreatDoorMonmadZ27
import Derived.Deep.SlicePairs
import Derived.Lib.LaidTab
namespace Go.Abs
open Go Go.RowKit Go.ChangeShapes Go.WideShapes Go.ChangeAt Go.Deep
theorem rel_tab {P:Program} {W:World} {name:String} {k:IntKind} {zs:List Int} {g:Nat} (h:Lib.TabIs P W name k zs) (hg:P.globalNamed name=some g):Rel (mL W) W eD (.tab k zs) (.pointer (some ⟨g,0,none⟩)):=by
 unfold Lib.TabIs World.var? at h;rw[hg]at h;simp only[agV]at h;split at h
 ·rename_i cs t fr hb;cases h;refine .tab _ _ _ _ _ _ ?_ hb;unfold mL;exact(abC.1 hb).1
 ·cases h
section
variable {H:Type} {enc:TypeId×Value->H} {P:Program} {W:World} {t e:TypeId} {base:Nat} {v:Value} {d:DataW H} {ps:List MemPlace}
end
end Go.Abs
namespace Go.Abs
open Go Go.RowKit Go.ChangeShapes Go.WideShapes Go.ChangeAt Go.Deep
section
variable {P:Program} {W:World} {t e:TypeId} {base:Nat} {v:Value}
end
end Go.Abs
