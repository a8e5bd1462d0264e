/-
  NARROWER THAN 'FOR EVERY INPUT', by the rows' own cells (each row's printed sentence says how): FamilyValid: laid · FamilyMinimal: laid · FamilyJoined: laid · FamilyGiven: laid · FamilyAlgebra: laid · FamilyAccepts: laid · FamilySearch: laid.
  DERIVED. THE GIVEN ROWS OF THIS SEAT. 7 by the template 'for every input the law returns true; each argument reads behind the call as it read before'; 0 by the template 'total and deterministic' (their statements: YtncjecbhohcfoaaDoorTotals.lean).
  GIVEN WITH THE SEED: the statements are not yours to turn. If you find one false, say at which input.
  Laid BY PROGRAM, IN A SANDBOX (cutbox-rows.mjs): the forced cells as the released guide's own fill.sh prints them over the translation cfc8a4bd1390ba68… (all of the seat's roots in one cut). By AI agents, Wed Nov 11 2026. No macro, syntax, notation, axiom, sorry.
-/
import Derived.Test.YtncjecbhohcfoaaDoorChecked
import GoSem.Claim
import GoSem.ClaimJoined
import GoSem.ClaimMapViews
import Derived.JoinedTies
import Derived.KernelRfl
namespace Go.Proofs.YtncjecbhohcfoaaDoor
/- THE CELL 'sum', in the pinned program and in every row, IS THE sha256 OF THE DUMP (.gsa) THAT YtncjecbhohcfoaaDoorProg.lean LOADS. Nothing in Lean hashes anything: it is a label: what it is worth is what the hold of that sum in a sandbox is worth. -/
noncomputable def Tryd.pinned : Pinned := { name := "ytncjecbhohcfoaadoor", sum := "cfc8a4bd1390ba68766ffbde9ea03790e008bd18ea6f46c788c38fbf7f7bc297", checked := Tryd.checked }
namespace Rows
def none {H : Type} : Left H := { results := [], args := [] }

/- WHAT THE LISTED PACKAGE-LEVEL VARIABLES READ AS WHEN THE CALL BEGINS. Each datum BY PROGRAM (the guide's laid-datum.mjs) off the statement by which the dump's own 'gosem.cut.vars' lays the variable. In a bare row this is a premise. The card (YtncjecbhohcfoaaDoorCards.lean) ties it to the program's text. -/
def laid_math_bits_deBruijn32tab {H : Type} : DataW H := .agg [.lit (.int .u8 0), .lit (.int .u8 1), .lit (.int .u8 28), .lit (.int .u8 2), .lit (.int .u8 29), .lit (.int .u8 14), .lit (.int .u8 24), .lit (.int .u8 3), .lit (.int .u8 30), .lit (.int .u8 22), .lit (.int .u8 20), .lit (.int .u8 15), .lit (.int .u8 25), .lit (.int .u8 17), .lit (.int .u8 4), .lit (.int .u8 8), .lit (.int .u8 31), .lit (.int .u8 27), .lit (.int .u8 13), .lit (.int .u8 23), .lit (.int .u8 21), .lit (.int .u8 19), .lit (.int .u8 16), .lit (.int .u8 7), .lit (.int .u8 26), .lit (.int .u8 12), .lit (.int .u8 18), .lit (.int .u8 6), .lit (.int .u8 11), .lit (.int .u8 5), .lit (.int .u8 10), .lit (.int .u8 9)]
def laid_math_bits_deBruijn64tab {H : Type} : DataW H := .agg [.lit (.int .u8 0), .lit (.int .u8 1), .lit (.int .u8 56), .lit (.int .u8 2), .lit (.int .u8 57), .lit (.int .u8 49), .lit (.int .u8 28), .lit (.int .u8 3), .lit (.int .u8 61), .lit (.int .u8 58), .lit (.int .u8 42), .lit (.int .u8 50), .lit (.int .u8 38), .lit (.int .u8 29), .lit (.int .u8 17), .lit (.int .u8 4), .lit (.int .u8 62), .lit (.int .u8 47), .lit (.int .u8 59), .lit (.int .u8 36), .lit (.int .u8 45), .lit (.int .u8 43), .lit (.int .u8 51), .lit (.int .u8 22), .lit (.int .u8 53), .lit (.int .u8 39), .lit (.int .u8 33), .lit (.int .u8 30), .lit (.int .u8 24), .lit (.int .u8 18), .lit (.int .u8 12), .lit (.int .u8 5), .lit (.int .u8 63), .lit (.int .u8 55), .lit (.int .u8 48), .lit (.int .u8 27), .lit (.int .u8 60), .lit (.int .u8 41), .lit (.int .u8 37), .lit (.int .u8 16), .lit (.int .u8 46), .lit (.int .u8 35), .lit (.int .u8 44), .lit (.int .u8 21), .lit (.int .u8 52), .lit (.int .u8 32), .lit (.int .u8 23), .lit (.int .u8 11), .lit (.int .u8 54), .lit (.int .u8 26), .lit (.int .u8 40), .lit (.int .u8 15), .lit (.int .u8 34), .lit (.int .u8 20), .lit (.int .u8 31), .lit (.int .u8 10), .lit (.int .u8 25), .lit (.int .u8 14), .lit (.int .u8 19), .lit (.int .u8 9), .lit (.int .u8 13), .lit (.int .u8 8), .lit (.int .u8 7), .lit (.int .u8 6)]
def laid_internal_strconv_uint64pow10 {H : Type} : DataW H := .agg [.lit (.int .u64 1), .lit (.int .u64 10), .lit (.int .u64 100), .lit (.int .u64 1000), .lit (.int .u64 10000), .lit (.int .u64 100000), .lit (.int .u64 1000000), .lit (.int .u64 10000000), .lit (.int .u64 100000000), .lit (.int .u64 1000000000), .lit (.int .u64 10000000000), .lit (.int .u64 100000000000), .lit (.int .u64 1000000000000), .lit (.int .u64 10000000000000), .lit (.int .u64 100000000000000), .lit (.int .u64 1000000000000000), .lit (.int .u64 10000000000000000), .lit (.int .u64 100000000000000000), .lit (.int .u64 1000000000000000000), .lit (.int .u64 10000000000000000000)]

/-- 'sederuntlaw08.FamilyValid': WHATEVER THE INPUT: true; the input reads as it did. -/
def familyValidSpec : ChangeSpec := { name := "familyValid", fn := fun _ => fun
  | [d] => { results := [.lit (.bool true)], args := [d] }
  | _ => none }
def familyValidRow : OpenClaim := { program := "ytncjecbhohcfoaadoor", sum := "cfc8a4bd1390ba68766ffbde9ea03790e008bd18ea6f46c788c38fbf7f7bc297", func := "sederunt/sederuntlaw08.FamilyValid", spec := "familyValid", inPlace := ["internal/abi.NoEscape", "internal/bytealg.MakeNoZero"], unfollowed := true, recurses := true, named := ["math/bits.deBruijn32tab", "internal/strconv.uint64pow10", "math/bits.deBruijn64tab"], apart := false, laid := [("math/bits.deBruijn32tab", laid_math_bits_deBruijn32tab), ("math/bits.deBruijn64tab", laid_math_bits_deBruijn64tab), ("internal/strconv.uint64pow10", laid_internal_strconv_uint64pow10)] }
def FamilyValidSaid : Prop := familyValidRow.holds Tryd.pinned (OpenSpec.ofChange familyValidSpec)

/-- ITS FALSE NEIGHBOUR: 'it returns false'. Refute it at one input. -/
def familyValidWrong : ChangeSpec := { name := "familyValid", fn := fun _ => fun
  | [d] => { results := [.lit (.bool false)], args := [d] }
  | _ => none }
def FamilyValidWrongFalsely : Prop := familyValidRow.holds Tryd.pinned (OpenSpec.ofChange familyValidWrong)

/-- 'sederuntlaw08.FamilyMinimal': WHATEVER THE INPUT: true; the input reads as it did. -/
def familyMinimalSpec : ChangeSpec := { name := "familyMinimal", fn := fun _ => fun
  | [d] => { results := [.lit (.bool true)], args := [d] }
  | _ => none }
def familyMinimalRow : OpenClaim := { program := "ytncjecbhohcfoaadoor", sum := "cfc8a4bd1390ba68766ffbde9ea03790e008bd18ea6f46c788c38fbf7f7bc297", func := "sederunt/sederuntlaw08.FamilyMinimal", spec := "familyMinimal", inPlace := ["internal/abi.NoEscape", "internal/bytealg.MakeNoZero"], unfollowed := true, recurses := true, named := ["math/bits.deBruijn32tab", "internal/strconv.uint64pow10", "math/bits.deBruijn64tab"], apart := false, laid := [("math/bits.deBruijn32tab", laid_math_bits_deBruijn32tab), ("math/bits.deBruijn64tab", laid_math_bits_deBruijn64tab), ("internal/strconv.uint64pow10", laid_internal_strconv_uint64pow10)] }
def FamilyMinimalSaid : Prop := familyMinimalRow.holds Tryd.pinned (OpenSpec.ofChange familyMinimalSpec)

/-- ITS FALSE NEIGHBOUR: 'it returns false'. Refute it at one input. -/
def familyMinimalWrong : ChangeSpec := { name := "familyMinimal", fn := fun _ => fun
  | [d] => { results := [.lit (.bool false)], args := [d] }
  | _ => none }
def FamilyMinimalWrongFalsely : Prop := familyMinimalRow.holds Tryd.pinned (OpenSpec.ofChange familyMinimalWrong)

/-- 'sederuntlaw08.FamilyJoined': WHATEVER THE INPUT: true; the input reads as it did. -/
def familyJoinedSpec : ChangeSpec := { name := "familyJoined", fn := fun _ => fun
  | [d1, d2] => { results := [.lit (.bool true)], args := [d1, d2] }
  | _ => none }
def familyJoinedRow : OpenClaim := { program := "ytncjecbhohcfoaadoor", sum := "cfc8a4bd1390ba68766ffbde9ea03790e008bd18ea6f46c788c38fbf7f7bc297", func := "sederunt/sederuntlaw08.FamilyJoined", spec := "familyJoined", inPlace := ["internal/abi.NoEscape", "internal/bytealg.MakeNoZero"], unfollowed := true, recurses := true, named := ["math/bits.deBruijn32tab", "internal/strconv.uint64pow10", "math/bits.deBruijn64tab"], apart := false, laid := [("math/bits.deBruijn32tab", laid_math_bits_deBruijn32tab), ("math/bits.deBruijn64tab", laid_math_bits_deBruijn64tab), ("internal/strconv.uint64pow10", laid_internal_strconv_uint64pow10)] }
def FamilyJoinedSaid : Prop := familyJoinedRow.holds Tryd.pinned (OpenSpec.ofChange familyJoinedSpec)

/-- ITS FALSE NEIGHBOUR: 'it returns false'. Refute it at one input. -/
def familyJoinedWrong : ChangeSpec := { name := "familyJoined", fn := fun _ => fun
  | [d1, d2] => { results := [.lit (.bool false)], args := [d1, d2] }
  | _ => none }
def FamilyJoinedWrongFalsely : Prop := familyJoinedRow.holds Tryd.pinned (OpenSpec.ofChange familyJoinedWrong)

/-- 'sederuntlaw08.FamilyGiven': WHATEVER THE INPUT: true; the input reads as it did. -/
def familyGivenSpec : ChangeSpec := { name := "familyGiven", fn := fun _ => fun
  | [d1, d2, d3] => { results := [.lit (.bool true)], args := [d1, d2, d3] }
  | _ => none }
def familyGivenRow : OpenClaim := { program := "ytncjecbhohcfoaadoor", sum := "cfc8a4bd1390ba68766ffbde9ea03790e008bd18ea6f46c788c38fbf7f7bc297", func := "sederunt/sederuntlaw08.FamilyGiven", spec := "familyGiven", inPlace := ["internal/abi.NoEscape", "internal/bytealg.MakeNoZero"], unfollowed := true, recurses := true, named := ["math/bits.deBruijn32tab", "internal/strconv.uint64pow10", "math/bits.deBruijn64tab"], apart := false, laid := [("math/bits.deBruijn32tab", laid_math_bits_deBruijn32tab), ("math/bits.deBruijn64tab", laid_math_bits_deBruijn64tab), ("internal/strconv.uint64pow10", laid_internal_strconv_uint64pow10)] }
def FamilyGivenSaid : Prop := familyGivenRow.holds Tryd.pinned (OpenSpec.ofChange familyGivenSpec)

/-- ITS FALSE NEIGHBOUR: 'it returns false'. Refute it at one input. -/
def familyGivenWrong : ChangeSpec := { name := "familyGiven", fn := fun _ => fun
  | [d1, d2, d3] => { results := [.lit (.bool false)], args := [d1, d2, d3] }
  | _ => none }
def FamilyGivenWrongFalsely : Prop := familyGivenRow.holds Tryd.pinned (OpenSpec.ofChange familyGivenWrong)

/-- 'sederuntlaw08.FamilyAlgebra': WHATEVER THE INPUT: true; the input reads as it did. -/
def familyAlgebraSpec : ChangeSpec := { name := "familyAlgebra", fn := fun _ => fun
  | [d1, d2, d3] => { results := [.lit (.bool true)], args := [d1, d2, d3] }
  | _ => none }
def familyAlgebraRow : OpenClaim := { program := "ytncjecbhohcfoaadoor", sum := "cfc8a4bd1390ba68766ffbde9ea03790e008bd18ea6f46c788c38fbf7f7bc297", func := "sederunt/sederuntlaw08.FamilyAlgebra", spec := "familyAlgebra", inPlace := ["internal/abi.NoEscape", "internal/bytealg.MakeNoZero"], unfollowed := true, recurses := true, named := ["math/bits.deBruijn32tab", "internal/strconv.uint64pow10", "math/bits.deBruijn64tab"], apart := false, laid := [("math/bits.deBruijn32tab", laid_math_bits_deBruijn32tab), ("math/bits.deBruijn64tab", laid_math_bits_deBruijn64tab), ("internal/strconv.uint64pow10", laid_internal_strconv_uint64pow10)] }
def FamilyAlgebraSaid : Prop := familyAlgebraRow.holds Tryd.pinned (OpenSpec.ofChange familyAlgebraSpec)

/-- ITS FALSE NEIGHBOUR: 'it returns false'. Refute it at one input. -/
def familyAlgebraWrong : ChangeSpec := { name := "familyAlgebra", fn := fun _ => fun
  | [d1, d2, d3] => { results := [.lit (.bool false)], args := [d1, d2, d3] }
  | _ => none }
def FamilyAlgebraWrongFalsely : Prop := familyAlgebraRow.holds Tryd.pinned (OpenSpec.ofChange familyAlgebraWrong)

/-- 'sederuntlaw08.FamilyAccepts': WHATEVER THE INPUT: true; the input reads as it did. -/
def familyAcceptsSpec : ChangeSpec := { name := "familyAccepts", fn := fun _ => fun
  | [d1, d2, d3] => { results := [.lit (.bool true)], args := [d1, d2, d3] }
  | _ => none }
def familyAcceptsRow : OpenClaim := { program := "ytncjecbhohcfoaadoor", sum := "cfc8a4bd1390ba68766ffbde9ea03790e008bd18ea6f46c788c38fbf7f7bc297", func := "sederunt/sederuntlaw08.FamilyAccepts", spec := "familyAccepts", inPlace := ["internal/abi.NoEscape", "internal/bytealg.MakeNoZero"], unfollowed := true, recurses := true, named := ["math/bits.deBruijn32tab", "internal/strconv.uint64pow10", "math/bits.deBruijn64tab"], apart := false, laid := [("math/bits.deBruijn32tab", laid_math_bits_deBruijn32tab), ("math/bits.deBruijn64tab", laid_math_bits_deBruijn64tab), ("internal/strconv.uint64pow10", laid_internal_strconv_uint64pow10)] }
def FamilyAcceptsSaid : Prop := familyAcceptsRow.holds Tryd.pinned (OpenSpec.ofChange familyAcceptsSpec)

/-- ITS FALSE NEIGHBOUR: 'it returns false'. Refute it at one input. -/
def familyAcceptsWrong : ChangeSpec := { name := "familyAccepts", fn := fun _ => fun
  | [d1, d2, d3] => { results := [.lit (.bool false)], args := [d1, d2, d3] }
  | _ => none }
def FamilyAcceptsWrongFalsely : Prop := familyAcceptsRow.holds Tryd.pinned (OpenSpec.ofChange familyAcceptsWrong)

/-- 'sederuntlaw08.FamilySearch': WHATEVER THE INPUT: true; the input reads as it did. -/
def familySearchSpec : ChangeSpec := { name := "familySearch", fn := fun _ => fun
  | [d1, d2, d3] => { results := [.lit (.bool true)], args := [d1, d2, d3] }
  | _ => none }
def familySearchRow : OpenClaim := { program := "ytncjecbhohcfoaadoor", sum := "cfc8a4bd1390ba68766ffbde9ea03790e008bd18ea6f46c788c38fbf7f7bc297", func := "sederunt/sederuntlaw08.FamilySearch", spec := "familySearch", inPlace := ["internal/abi.NoEscape", "internal/bytealg.MakeNoZero"], unfollowed := true, recurses := true, named := ["math/bits.deBruijn32tab", "internal/strconv.uint64pow10", "math/bits.deBruijn64tab"], apart := false, laid := [("math/bits.deBruijn32tab", laid_math_bits_deBruijn32tab), ("math/bits.deBruijn64tab", laid_math_bits_deBruijn64tab), ("internal/strconv.uint64pow10", laid_internal_strconv_uint64pow10)] }
def FamilySearchSaid : Prop := familySearchRow.holds Tryd.pinned (OpenSpec.ofChange familySearchSpec)

/-- ITS FALSE NEIGHBOUR: 'it returns false'. Refute it at one input. -/
def familySearchWrong : ChangeSpec := { name := "familySearch", fn := fun _ => fun
  | [d1, d2, d3] => { results := [.lit (.bool false)], args := [d1, d2, d3] }
  | _ => none }
def FamilySearchWrongFalsely : Prop := familySearchRow.holds Tryd.pinned (OpenSpec.ofChange familySearchWrong)

/- THE SECOND FORM. 'bulk': how many values and letters a reading holds, each counted each time it is reached (what is shared counts as often as it is met; a slice's spare places count too). A statement '..UptoSaid' is the law's where the arguments, and the package variables that the reading takes, are together of bulk at most 1048576: NARROWER than '..Said'. Prove '..Said' where nothing that the law and all that it calls make is longer than what came in: it says more and counts as full. Else prove '..UptoSaid'. A law counts once. -/
mutual
def uptoBulk {H : Type} : DataW H → Nat
  | .lit (.string bytes) => bytes.length + 1
  | .lit _ => 1
  | .nil => 1
  | .ptr d => uptoBulk d + 1
  | .slice elems spare => uptoBulkAll elems + uptoBulkAll spare + 1
  | .agg parts => uptoBulkAll parts + 1
  | .iface _ d => uptoBulk d + 1
  | .map entries => uptoBulkEntries entries + 1
  | .held _ => 1
def uptoBulkAll {H : Type} : List (DataW H) → Nat
  | [] => 0
  | d :: r => uptoBulk d + uptoBulkAll r
def uptoBulkEntries {H : Type} : List (Lit × DataW H) → Nat
  | [] => 0
  | x :: r => uptoBulkEntry x + uptoBulkEntries r
def uptoBulkEntry {H : Type} : Lit × DataW H → Nat
  | (.string bytes, d) => bytes.length + uptoBulk d + 1
  | (_, d) => uptoBulk d + 1
 end
def uptoSmall : (H : Type) → List (DataW H) → Bool := fun _ ds => decide (uptoBulkAll ds ≤ 1048576)
def OpenSpec.upto (s : _root_.Go.ChangeSpec) : _root_.Go.OpenSpec := { _root_.Go.OpenSpec.ofChange s with cond := some uptoSmall }

/-- 'sederuntlaw08.FamilyValid', WHERE WHAT IT READS IS OF BULK AT MOST 1048576: true; the input reads as it did. -/
def familyValidUptoRow : OpenClaim := { program := "ytncjecbhohcfoaadoor", sum := "cfc8a4bd1390ba68766ffbde9ea03790e008bd18ea6f46c788c38fbf7f7bc297", func := "sederunt/sederuntlaw08.FamilyValid", spec := "familyValid", inPlace := ["internal/abi.NoEscape", "internal/bytealg.MakeNoZero"], unfollowed := true, recurses := true, named := ["math/bits.deBruijn32tab", "internal/strconv.uint64pow10", "math/bits.deBruijn64tab"], apart := false, laid := [("math/bits.deBruijn32tab", laid_math_bits_deBruijn32tab), ("math/bits.deBruijn64tab", laid_math_bits_deBruijn64tab), ("internal/strconv.uint64pow10", laid_internal_strconv_uint64pow10)], narrowed := true }
def FamilyValidUptoSaid : Prop := familyValidUptoRow.holds Tryd.pinned (OpenSpec.upto familyValidSpec)

/-- 'sederuntlaw08.FamilyMinimal', WHERE WHAT IT READS IS OF BULK AT MOST 1048576: true; the input reads as it did. -/
def familyMinimalUptoRow : OpenClaim := { program := "ytncjecbhohcfoaadoor", sum := "cfc8a4bd1390ba68766ffbde9ea03790e008bd18ea6f46c788c38fbf7f7bc297", func := "sederunt/sederuntlaw08.FamilyMinimal", spec := "familyMinimal", inPlace := ["internal/abi.NoEscape", "internal/bytealg.MakeNoZero"], unfollowed := true, recurses := true, named := ["math/bits.deBruijn32tab", "internal/strconv.uint64pow10", "math/bits.deBruijn64tab"], apart := false, laid := [("math/bits.deBruijn32tab", laid_math_bits_deBruijn32tab), ("math/bits.deBruijn64tab", laid_math_bits_deBruijn64tab), ("internal/strconv.uint64pow10", laid_internal_strconv_uint64pow10)], narrowed := true }
def FamilyMinimalUptoSaid : Prop := familyMinimalUptoRow.holds Tryd.pinned (OpenSpec.upto familyMinimalSpec)

/-- 'sederuntlaw08.FamilyJoined', WHERE WHAT IT READS IS OF BULK AT MOST 1048576: true; the input reads as it did. -/
def familyJoinedUptoRow : OpenClaim := { program := "ytncjecbhohcfoaadoor", sum := "cfc8a4bd1390ba68766ffbde9ea03790e008bd18ea6f46c788c38fbf7f7bc297", func := "sederunt/sederuntlaw08.FamilyJoined", spec := "familyJoined", inPlace := ["internal/abi.NoEscape", "internal/bytealg.MakeNoZero"], unfollowed := true, recurses := true, named := ["math/bits.deBruijn32tab", "internal/strconv.uint64pow10", "math/bits.deBruijn64tab"], apart := false, laid := [("math/bits.deBruijn32tab", laid_math_bits_deBruijn32tab), ("math/bits.deBruijn64tab", laid_math_bits_deBruijn64tab), ("internal/strconv.uint64pow10", laid_internal_strconv_uint64pow10)], narrowed := true }
def FamilyJoinedUptoSaid : Prop := familyJoinedUptoRow.holds Tryd.pinned (OpenSpec.upto familyJoinedSpec)

/-- 'sederuntlaw08.FamilyGiven', WHERE WHAT IT READS IS OF BULK AT MOST 1048576: true; the input reads as it did. -/
def familyGivenUptoRow : OpenClaim := { program := "ytncjecbhohcfoaadoor", sum := "cfc8a4bd1390ba68766ffbde9ea03790e008bd18ea6f46c788c38fbf7f7bc297", func := "sederunt/sederuntlaw08.FamilyGiven", spec := "familyGiven", inPlace := ["internal/abi.NoEscape", "internal/bytealg.MakeNoZero"], unfollowed := true, recurses := true, named := ["math/bits.deBruijn32tab", "internal/strconv.uint64pow10", "math/bits.deBruijn64tab"], apart := false, laid := [("math/bits.deBruijn32tab", laid_math_bits_deBruijn32tab), ("math/bits.deBruijn64tab", laid_math_bits_deBruijn64tab), ("internal/strconv.uint64pow10", laid_internal_strconv_uint64pow10)], narrowed := true }
def FamilyGivenUptoSaid : Prop := familyGivenUptoRow.holds Tryd.pinned (OpenSpec.upto familyGivenSpec)

/-- 'sederuntlaw08.FamilyAlgebra', WHERE WHAT IT READS IS OF BULK AT MOST 1048576: true; the input reads as it did. -/
def familyAlgebraUptoRow : OpenClaim := { program := "ytncjecbhohcfoaadoor", sum := "cfc8a4bd1390ba68766ffbde9ea03790e008bd18ea6f46c788c38fbf7f7bc297", func := "sederunt/sederuntlaw08.FamilyAlgebra", spec := "familyAlgebra", inPlace := ["internal/abi.NoEscape", "internal/bytealg.MakeNoZero"], unfollowed := true, recurses := true, named := ["math/bits.deBruijn32tab", "internal/strconv.uint64pow10", "math/bits.deBruijn64tab"], apart := false, laid := [("math/bits.deBruijn32tab", laid_math_bits_deBruijn32tab), ("math/bits.deBruijn64tab", laid_math_bits_deBruijn64tab), ("internal/strconv.uint64pow10", laid_internal_strconv_uint64pow10)], narrowed := true }
def FamilyAlgebraUptoSaid : Prop := familyAlgebraUptoRow.holds Tryd.pinned (OpenSpec.upto familyAlgebraSpec)

/-- 'sederuntlaw08.FamilyAccepts', WHERE WHAT IT READS IS OF BULK AT MOST 1048576: true; the input reads as it did. -/
def familyAcceptsUptoRow : OpenClaim := { program := "ytncjecbhohcfoaadoor", sum := "cfc8a4bd1390ba68766ffbde9ea03790e008bd18ea6f46c788c38fbf7f7bc297", func := "sederunt/sederuntlaw08.FamilyAccepts", spec := "familyAccepts", inPlace := ["internal/abi.NoEscape", "internal/bytealg.MakeNoZero"], unfollowed := true, recurses := true, named := ["math/bits.deBruijn32tab", "internal/strconv.uint64pow10", "math/bits.deBruijn64tab"], apart := false, laid := [("math/bits.deBruijn32tab", laid_math_bits_deBruijn32tab), ("math/bits.deBruijn64tab", laid_math_bits_deBruijn64tab), ("internal/strconv.uint64pow10", laid_internal_strconv_uint64pow10)], narrowed := true }
def FamilyAcceptsUptoSaid : Prop := familyAcceptsUptoRow.holds Tryd.pinned (OpenSpec.upto familyAcceptsSpec)

/-- 'sederuntlaw08.FamilySearch', WHERE WHAT IT READS IS OF BULK AT MOST 1048576: true; the input reads as it did. -/
def familySearchUptoRow : OpenClaim := { program := "ytncjecbhohcfoaadoor", sum := "cfc8a4bd1390ba68766ffbde9ea03790e008bd18ea6f46c788c38fbf7f7bc297", func := "sederunt/sederuntlaw08.FamilySearch", spec := "familySearch", inPlace := ["internal/abi.NoEscape", "internal/bytealg.MakeNoZero"], unfollowed := true, recurses := true, named := ["math/bits.deBruijn32tab", "internal/strconv.uint64pow10", "math/bits.deBruijn64tab"], apart := false, laid := [("math/bits.deBruijn32tab", laid_math_bits_deBruijn32tab), ("math/bits.deBruijn64tab", laid_math_bits_deBruijn64tab), ("internal/strconv.uint64pow10", laid_internal_strconv_uint64pow10)], narrowed := true }
def FamilySearchUptoSaid : Prop := familySearchUptoRow.holds Tryd.pinned (OpenSpec.upto familySearchSpec)

end Rows
end Go.Proofs.YtncjecbhohcfoaaDoor
