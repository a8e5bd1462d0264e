/- Part 17 of the proof: AbsX2. -/
import Derived.Test.YtfkhgbcggabkjaaGreatDoorMonrepZ16
import Derived.Lib.Bytealg
namespace Go.Abs
open Go Go.RowKit
theorem str2_spec {P:Program} {f:FuncId} (g:aaA->aaA->Int) (h:∀(a b:ByteArray) (w:World),Calls P f #[.string a,.string b] w fun e w'=>e= .returned (.int .i64 (g a.data.toList b.data.toList))/\w'=w) (a b:aaA) (r:Int) (hr:some (g a b)=some r):
  aG P f [] [] [] [.str a,.str b] (.int .i64 r) []:=by
 cases hr;intro z vals hW hl hv _;have e0:=hv 0 (by simp);have e1:=hv 1 (by simp);simp only[abK,abP]at e0 e1;obtain⟨s,hs1,hs2⟩:=e0.str_inv;obtain⟨s',hs1',hs2'⟩:=e1.str_inv
 have hv:vals= #[vals.getD 0 undef,vals.getD 1 undef]:=by
  apply Array.ext
  ·simpa using hl
  ·intro i h1 h2;have:i=0\/i=1:=by simp at h2;omega
   rcases this with rfl|rfl<;>simp[h1]
 rw[hv,hs1,hs1'];refine(h s s' z.w).mono ?_;rintro e w' ⟨rfl,rfl⟩;refine⟨_,_,_,z.St,z.g,rfl,⟨rfl,rfl⟩,hW, ?_,by simp⟩;rw[hs2,hs2'];exact .int _ _ _
end Go.Abs
