/- Part 28 of the proof: Open3, Open4. -/
import Derived.Test.YtfkhgbcggabkjaaGreatDoorMonrepZ27
import Derived.Deep.SlicePairs
import Derived.Lib.LaidTab
namespace Go.Abs
open Go Go.RowKit Go.ChangeShapes Go.WideShapes Go.ChangeAt Go.Deep
theorem rel_tab {P:Program} {W:World} {name:String} {k:IntKind} {zs:List Int} {g:Nat} (h:Lib.TabIs P W name k zs) (hg:P.globalNamed name=some g):Rel (fI W) W dS (.tab k zs) (.pointer (some ⟨g,0,none⟩)):=by
 unfold Lib.TabIs World.var? at h;rw[hg]at h;simp only[agW]at h;split at h
 ·rename_i cs t fr hb;cases h;refine .tab _ _ _ _ _ _ ?_ hb;unfold fI;exact(abD.1 hb).1
 ·cases h
section
variable {H:Type} {enc:TypeId×Value->H} {P:Program} {W:World} {t e:TypeId} {base:Nat} {v:Value} {d:DataW H} {ps:List MemPlace}
def fldV (b:Bool) (x:Value):Prop:=if b then ∃s:ByteArray,x= .string s/\s.size<=9223372036854775807 else ∃n:Int,x= .int .i64 n/\ -9223372036854775808<=n/\n<=9223372036854775807
theorem fld_of {spare:Nat->Bool} {held:Bool} {fuel:Nat} {tf:TypeId} {x:Value} {y:DataW H×List MemPlace} {b:Bool} (ht:P.underlying tf=some (if b then .string else .int .i64)) (h:DataW.trod enc P W base spare held fuel tf [x]=some y):fldV b x:=by
 cases b
 ·obtain⟨n,e,_,hw⟩:=DataW.trod_int (by simpa using ht) h;simp only[List.cons.injEq,and_true]at e;refine⟨n,e, ?_⟩
  have h3:IntKind.i64.min<=n/\n<=9223372036854775807:=by
   unfold Lit.wf at hw;simpa using hw
  simp[IntKind.min,IntKind.signed,IntKind.bits]at h3;omega
 ·obtain⟨s,e,_,hw⟩:=DataW.trod_string (by simpa using ht) h;simp only[List.cons.injEq,and_true]at e;refine⟨s,e, ?_⟩;have:maxLen=9223372036854775807:=rfl;omega
end
end Go.Abs
namespace Go.Abs
open Go Go.RowKit Go.ChangeShapes Go.WideShapes Go.ChangeAt Go.Deep
section
variable {P:Program} {W:World} {t e:TypeId} {base:Nat} {v:Value}
end
end Go.Abs
