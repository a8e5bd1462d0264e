/- Part 22 of the proof: Cmp54. -/
import Derived.Test.YtfkhgbcggabkjaaGreatDoorMonrepZ21
import Derived.Test.YtfkhgbcggabkjaaGreatDoorProg
import Derived.Lib.Strings
import Derived.Lib.Slices
import Derived.Lib.Walk
namespace Go.Abs
open Go Go.Proofs
set_option maxHeartbeats 1000000 in
set_option maxRecDepth 100000 in
theorem cmpString (a b:ByteArray) (w:World):
  Calls Tryz.prog 220 #[.string a,.string b] w fun e w'=>e= .returned (.int .i64 (Lib.compareBytes a.data.toList b.data.toList))/\w'=w:=by
 go_enter Tryz.func220,Tryz.ntmps220
 go_wp2
 rw[run_callFunc_extern Tryz.func229 (by kernel_rfl) (by kernel_rfl) (by kernel_rfl) (e:=Extern.BytealgCompare.compare) (by kernel_rfl),Lib.run_compareString];simp only[Result.andThen];rw[Oper.upon_value]
 go_wp2
 go_ret
 exact⟨rfl,rfl⟩
end Go.Abs
