/-
  NARROWER THAN 'FOR EVERY INPUT', by the rows' own cells (each row's printed sentence says how): FaultValid: laid · FaultCovers: laid · FaultThreshold: laid · FaultNormalize: laid · FaultBoth: laid · FaultAlgebra: laid · FaultSites: laid · FaultText: laid · FaultParse: laid.
  DERIVED. THE GIVEN ROWS OF THIS SEAT. 9 by the template 'for every input the law returns true; each argument reads behind the call as it read before'; 0 by the template 'total and deterministic' (their statements: YtmcmhjdmilgoeaaGreatDoorTotals.lean).
  GIVEN WITH THE SEED: the statements are not yours to turn. If you find one false, say at which input.
  Laid BY PROGRAM, IN A SANDBOX (cutbox-rows.mjs): the forced cells as the released guide's own fill.sh prints them over the translation bb699a09e5a58f34… (all of the seat's roots in one cut). By AI agents, Wed Nov 11 2026. No macro, syntax, notation, axiom, sorry.
-/
import Derived.Test.YtmcmhjdmilgoeaaGreatDoorChecked
import GoSem.PinnedTables
import GoSem.Claim
import GoSem.ClaimJoined
import GoSem.ClaimMapViews
import Derived.JoinedTies
import Derived.KernelRfl
namespace Go.Proofs.YtmcmhjdmilgoeaaGreatDoor
/- THE CELL 'sum', in the pinned program and in every row, IS THE sha256 OF THE DUMP (.gsa) THAT YtmcmhjdmilgoeaaGreatDoorProg.lean LOADS. Nothing in Lean hashes anything: it is a label: what it is worth is what the hold of that sum in a sandbox is worth. -/
noncomputable def Tryz.pinned : Pinned := { name := "ytmcmhjdmilgoeaagreatdoor", sum := "bb699a09e5a58f3415186711167188e8c7e7514dcdf6324ae4a18fc1c4fc9d19", checked := Tryz.checked }
namespace Rows
def none {H : Type} : Left H := { results := [], args := [] }

/- WHAT THE LISTED PACKAGE-LEVEL VARIABLES READ AS WHEN THE CALL BEGINS. Each datum BY PROGRAM (the guide's laid-datum.mjs) off the statement by which the dump's own 'gosem.cut.vars' lays the variable. In a bare row this is a premise. The card (YtmcmhjdmilgoeaaGreatDoorCards.lean) ties it to the program's text. -/
def laid_math_bits_deBruijn32tab {H : Type} : DataW H := .agg [.lit (.int .u8 0), .lit (.int .u8 1), .lit (.int .u8 28), .lit (.int .u8 2), .lit (.int .u8 29), .lit (.int .u8 14), .lit (.int .u8 24), .lit (.int .u8 3), .lit (.int .u8 30), .lit (.int .u8 22), .lit (.int .u8 20), .lit (.int .u8 15), .lit (.int .u8 25), .lit (.int .u8 17), .lit (.int .u8 4), .lit (.int .u8 8), .lit (.int .u8 31), .lit (.int .u8 27), .lit (.int .u8 13), .lit (.int .u8 23), .lit (.int .u8 21), .lit (.int .u8 19), .lit (.int .u8 16), .lit (.int .u8 7), .lit (.int .u8 26), .lit (.int .u8 12), .lit (.int .u8 18), .lit (.int .u8 6), .lit (.int .u8 11), .lit (.int .u8 5), .lit (.int .u8 10), .lit (.int .u8 9)]
def laid_math_bits_deBruijn64tab {H : Type} : DataW H := .agg [.lit (.int .u8 0), .lit (.int .u8 1), .lit (.int .u8 56), .lit (.int .u8 2), .lit (.int .u8 57), .lit (.int .u8 49), .lit (.int .u8 28), .lit (.int .u8 3), .lit (.int .u8 61), .lit (.int .u8 58), .lit (.int .u8 42), .lit (.int .u8 50), .lit (.int .u8 38), .lit (.int .u8 29), .lit (.int .u8 17), .lit (.int .u8 4), .lit (.int .u8 62), .lit (.int .u8 47), .lit (.int .u8 59), .lit (.int .u8 36), .lit (.int .u8 45), .lit (.int .u8 43), .lit (.int .u8 51), .lit (.int .u8 22), .lit (.int .u8 53), .lit (.int .u8 39), .lit (.int .u8 33), .lit (.int .u8 30), .lit (.int .u8 24), .lit (.int .u8 18), .lit (.int .u8 12), .lit (.int .u8 5), .lit (.int .u8 63), .lit (.int .u8 55), .lit (.int .u8 48), .lit (.int .u8 27), .lit (.int .u8 60), .lit (.int .u8 41), .lit (.int .u8 37), .lit (.int .u8 16), .lit (.int .u8 46), .lit (.int .u8 35), .lit (.int .u8 44), .lit (.int .u8 21), .lit (.int .u8 52), .lit (.int .u8 32), .lit (.int .u8 23), .lit (.int .u8 11), .lit (.int .u8 54), .lit (.int .u8 26), .lit (.int .u8 40), .lit (.int .u8 15), .lit (.int .u8 34), .lit (.int .u8 20), .lit (.int .u8 31), .lit (.int .u8 10), .lit (.int .u8 25), .lit (.int .u8 14), .lit (.int .u8 19), .lit (.int .u8 9), .lit (.int .u8 13), .lit (.int .u8 8), .lit (.int .u8 7), .lit (.int .u8 6)]
def laid_internal_strconv_uint64pow10 {H : Type} : DataW H := .agg [.lit (.int .u64 1), .lit (.int .u64 10), .lit (.int .u64 100), .lit (.int .u64 1000), .lit (.int .u64 10000), .lit (.int .u64 100000), .lit (.int .u64 1000000), .lit (.int .u64 10000000), .lit (.int .u64 100000000), .lit (.int .u64 1000000000), .lit (.int .u64 10000000000), .lit (.int .u64 100000000000), .lit (.int .u64 1000000000000), .lit (.int .u64 10000000000000), .lit (.int .u64 100000000000000), .lit (.int .u64 1000000000000000), .lit (.int .u64 10000000000000000), .lit (.int .u64 100000000000000000), .lit (.int .u64 1000000000000000000), .lit (.int .u64 10000000000000000000)]
def laid_unicode_utf8_acceptRanges {H : Type} : DataW H := .agg [.agg [.lit (.int .u8 128), .lit (.int .u8 191)], .agg [.lit (.int .u8 160), .lit (.int .u8 191)], .agg [.lit (.int .u8 128), .lit (.int .u8 159)], .agg [.lit (.int .u8 144), .lit (.int .u8 191)], .agg [.lit (.int .u8 128), .lit (.int .u8 143)], .agg [.lit (.int .u8 0), .lit (.int .u8 0)], .agg [.lit (.int .u8 0), .lit (.int .u8 0)], .agg [.lit (.int .u8 0), .lit (.int .u8 0)], .agg [.lit (.int .u8 0), .lit (.int .u8 0)], .agg [.lit (.int .u8 0), .lit (.int .u8 0)], .agg [.lit (.int .u8 0), .lit (.int .u8 0)], .agg [.lit (.int .u8 0), .lit (.int .u8 0)], .agg [.lit (.int .u8 0), .lit (.int .u8 0)], .agg [.lit (.int .u8 0), .lit (.int .u8 0)], .agg [.lit (.int .u8 0), .lit (.int .u8 0)], .agg [.lit (.int .u8 0), .lit (.int .u8 0)]]
def laid_strconv_ErrRange {H : Type} : DataW H := .iface "*errors.errorString" (.ptr (.agg [.lit (.string [118, 97, 108, 117, 101, 32, 111, 117, 116, 32, 111, 102, 32, 114, 97, 110, 103, 101])]))
def laid_strconv_ErrSyntax {H : Type} : DataW H := .iface "*errors.errorString" (.ptr (.agg [.lit (.string [105, 110, 118, 97, 108, 105, 100, 32, 115, 121, 110, 116, 97, 120])]))
/-- One of Go's own tables, pinned by name: the form's constant. -/
def laid_unicode_utf8_first : DataW Unit := Go.Pinned.utf8First

/-- 'sederuntlaw19.FaultValid': WHATEVER THE INPUT: true; the input reads as it did. -/
def faultValidSpec : ChangeSpec := { name := "faultValid", fn := fun _ => fun
  | [d] => { results := [.lit (.bool true)], args := [d] }
  | _ => none }
def faultValidRow : OpenClaim := { program := "ytmcmhjdmilgoeaagreatdoor", sum := "bb699a09e5a58f3415186711167188e8c7e7514dcdf6324ae4a18fc1c4fc9d19", func := "sederunt/sederuntlaw19.FaultValid", spec := "faultValid", inPlace := ["internal/abi.NoEscape", "internal/bytealg.MakeNoZero"], unfollowed := true, recurses := true, named := ["math/bits.deBruijn32tab", "internal/strconv.uint64pow10", "math/bits.deBruijn64tab"], apart := false, laid := [("math/bits.deBruijn32tab", laid_math_bits_deBruijn32tab), ("math/bits.deBruijn64tab", laid_math_bits_deBruijn64tab), ("internal/strconv.uint64pow10", laid_internal_strconv_uint64pow10)] }
def FaultValidSaid : Prop := faultValidRow.holds Tryz.pinned (OpenSpec.ofChange faultValidSpec)

/-- ITS FALSE NEIGHBOUR: 'it returns false'. Refute it at one input. -/
def faultValidWrong : ChangeSpec := { name := "faultValid", fn := fun _ => fun
  | [d] => { results := [.lit (.bool false)], args := [d] }
  | _ => none }
def FaultValidWrongFalsely : Prop := faultValidRow.holds Tryz.pinned (OpenSpec.ofChange faultValidWrong)

/-- 'sederuntlaw19.FaultCovers': WHATEVER THE INPUT: true; the input reads as it did. -/
def faultCoversSpec : ChangeSpec := { name := "faultCovers", fn := fun _ => fun
  | [d1, d2, d3] => { results := [.lit (.bool true)], args := [d1, d2, d3] }
  | _ => none }
def faultCoversRow : OpenClaim := { program := "ytmcmhjdmilgoeaagreatdoor", sum := "bb699a09e5a58f3415186711167188e8c7e7514dcdf6324ae4a18fc1c4fc9d19", func := "sederunt/sederuntlaw19.FaultCovers", spec := "faultCovers", inPlace := ["internal/abi.NoEscape", "internal/bytealg.MakeNoZero"], unfollowed := true, recurses := true, named := ["math/bits.deBruijn32tab", "internal/strconv.uint64pow10", "math/bits.deBruijn64tab"], apart := false, laid := [("math/bits.deBruijn32tab", laid_math_bits_deBruijn32tab), ("math/bits.deBruijn64tab", laid_math_bits_deBruijn64tab), ("internal/strconv.uint64pow10", laid_internal_strconv_uint64pow10)] }
def FaultCoversSaid : Prop := faultCoversRow.holds Tryz.pinned (OpenSpec.ofChange faultCoversSpec)

/-- ITS FALSE NEIGHBOUR: 'it returns false'. Refute it at one input. -/
def faultCoversWrong : ChangeSpec := { name := "faultCovers", fn := fun _ => fun
  | [d1, d2, d3] => { results := [.lit (.bool false)], args := [d1, d2, d3] }
  | _ => none }
def FaultCoversWrongFalsely : Prop := faultCoversRow.holds Tryz.pinned (OpenSpec.ofChange faultCoversWrong)

/-- 'sederuntlaw19.FaultThreshold': WHATEVER THE INPUT: true; the input reads as it did. -/
def faultThresholdSpec : ChangeSpec := { name := "faultThreshold", fn := fun _ => fun
  | [d1, d2, d3] => { results := [.lit (.bool true)], args := [d1, d2, d3] }
  | _ => none }
def faultThresholdRow : OpenClaim := { program := "ytmcmhjdmilgoeaagreatdoor", sum := "bb699a09e5a58f3415186711167188e8c7e7514dcdf6324ae4a18fc1c4fc9d19", func := "sederunt/sederuntlaw19.FaultThreshold", spec := "faultThreshold", inPlace := ["internal/abi.NoEscape", "internal/bytealg.MakeNoZero"], unfollowed := true, recurses := true, named := ["math/bits.deBruijn32tab", "internal/strconv.uint64pow10", "math/bits.deBruijn64tab"], apart := false, laid := [("math/bits.deBruijn32tab", laid_math_bits_deBruijn32tab), ("math/bits.deBruijn64tab", laid_math_bits_deBruijn64tab), ("internal/strconv.uint64pow10", laid_internal_strconv_uint64pow10)] }
def FaultThresholdSaid : Prop := faultThresholdRow.holds Tryz.pinned (OpenSpec.ofChange faultThresholdSpec)

/-- ITS FALSE NEIGHBOUR: 'it returns false'. Refute it at one input. -/
def faultThresholdWrong : ChangeSpec := { name := "faultThreshold", fn := fun _ => fun
  | [d1, d2, d3] => { results := [.lit (.bool false)], args := [d1, d2, d3] }
  | _ => none }
def FaultThresholdWrongFalsely : Prop := faultThresholdRow.holds Tryz.pinned (OpenSpec.ofChange faultThresholdWrong)

/-- 'sederuntlaw19.FaultNormalize': WHATEVER THE INPUT: true; the input reads as it did. -/
def faultNormalizeSpec : ChangeSpec := { name := "faultNormalize", fn := fun _ => fun
  | [d1, d2] => { results := [.lit (.bool true)], args := [d1, d2] }
  | _ => none }
def faultNormalizeRow : OpenClaim := { program := "ytmcmhjdmilgoeaagreatdoor", sum := "bb699a09e5a58f3415186711167188e8c7e7514dcdf6324ae4a18fc1c4fc9d19", func := "sederunt/sederuntlaw19.FaultNormalize", spec := "faultNormalize", inPlace := ["internal/abi.NoEscape", "internal/bytealg.MakeNoZero"], unfollowed := true, recurses := true, named := ["math/bits.deBruijn32tab", "internal/strconv.uint64pow10", "math/bits.deBruijn64tab"], apart := false, laid := [("math/bits.deBruijn32tab", laid_math_bits_deBruijn32tab), ("math/bits.deBruijn64tab", laid_math_bits_deBruijn64tab), ("internal/strconv.uint64pow10", laid_internal_strconv_uint64pow10)] }
def FaultNormalizeSaid : Prop := faultNormalizeRow.holds Tryz.pinned (OpenSpec.ofChange faultNormalizeSpec)

/-- ITS FALSE NEIGHBOUR: 'it returns false'. Refute it at one input. -/
def faultNormalizeWrong : ChangeSpec := { name := "faultNormalize", fn := fun _ => fun
  | [d1, d2] => { results := [.lit (.bool false)], args := [d1, d2] }
  | _ => none }
def FaultNormalizeWrongFalsely : Prop := faultNormalizeRow.holds Tryz.pinned (OpenSpec.ofChange faultNormalizeWrong)

/-- 'sederuntlaw19.FaultBoth': WHATEVER THE INPUT: true; the input reads as it did. -/
def faultBothSpec : ChangeSpec := { name := "faultBoth", fn := fun _ => fun
  | [d1, d2] => { results := [.lit (.bool true)], args := [d1, d2] }
  | _ => none }
def faultBothRow : OpenClaim := { program := "ytmcmhjdmilgoeaagreatdoor", sum := "bb699a09e5a58f3415186711167188e8c7e7514dcdf6324ae4a18fc1c4fc9d19", func := "sederunt/sederuntlaw19.FaultBoth", spec := "faultBoth", inPlace := ["internal/abi.NoEscape", "internal/bytealg.MakeNoZero"], unfollowed := true, recurses := true, named := ["math/bits.deBruijn32tab", "internal/strconv.uint64pow10", "math/bits.deBruijn64tab"], apart := false, laid := [("math/bits.deBruijn32tab", laid_math_bits_deBruijn32tab), ("math/bits.deBruijn64tab", laid_math_bits_deBruijn64tab), ("internal/strconv.uint64pow10", laid_internal_strconv_uint64pow10)] }
def FaultBothSaid : Prop := faultBothRow.holds Tryz.pinned (OpenSpec.ofChange faultBothSpec)

/-- ITS FALSE NEIGHBOUR: 'it returns false'. Refute it at one input. -/
def faultBothWrong : ChangeSpec := { name := "faultBoth", fn := fun _ => fun
  | [d1, d2] => { results := [.lit (.bool false)], args := [d1, d2] }
  | _ => none }
def FaultBothWrongFalsely : Prop := faultBothRow.holds Tryz.pinned (OpenSpec.ofChange faultBothWrong)

/-- 'sederuntlaw19.FaultAlgebra': WHATEVER THE INPUT: true; the input reads as it did. -/
def faultAlgebraSpec : ChangeSpec := { name := "faultAlgebra", fn := fun _ => fun
  | [d1, d2, d3] => { results := [.lit (.bool true)], args := [d1, d2, d3] }
  | _ => none }
def faultAlgebraRow : OpenClaim := { program := "ytmcmhjdmilgoeaagreatdoor", sum := "bb699a09e5a58f3415186711167188e8c7e7514dcdf6324ae4a18fc1c4fc9d19", func := "sederunt/sederuntlaw19.FaultAlgebra", spec := "faultAlgebra", inPlace := ["internal/abi.NoEscape", "internal/bytealg.MakeNoZero"], unfollowed := true, recurses := true, named := ["math/bits.deBruijn32tab", "internal/strconv.uint64pow10", "math/bits.deBruijn64tab"], apart := false, laid := [("math/bits.deBruijn32tab", laid_math_bits_deBruijn32tab), ("math/bits.deBruijn64tab", laid_math_bits_deBruijn64tab), ("internal/strconv.uint64pow10", laid_internal_strconv_uint64pow10)] }
def FaultAlgebraSaid : Prop := faultAlgebraRow.holds Tryz.pinned (OpenSpec.ofChange faultAlgebraSpec)

/-- ITS FALSE NEIGHBOUR: 'it returns false'. Refute it at one input. -/
def faultAlgebraWrong : ChangeSpec := { name := "faultAlgebra", fn := fun _ => fun
  | [d1, d2, d3] => { results := [.lit (.bool false)], args := [d1, d2, d3] }
  | _ => none }
def FaultAlgebraWrongFalsely : Prop := faultAlgebraRow.holds Tryz.pinned (OpenSpec.ofChange faultAlgebraWrong)

/-- 'sederuntlaw19.FaultSites': WHATEVER THE INPUT: true; the input reads as it did. -/
def faultSitesSpec : ChangeSpec := { name := "faultSites", fn := fun _ => fun
  | [d1, d2, d3] => { results := [.lit (.bool true)], args := [d1, d2, d3] }
  | _ => none }
def faultSitesRow : OpenClaim := { program := "ytmcmhjdmilgoeaagreatdoor", sum := "bb699a09e5a58f3415186711167188e8c7e7514dcdf6324ae4a18fc1c4fc9d19", func := "sederunt/sederuntlaw19.FaultSites", spec := "faultSites", inPlace := ["internal/abi.NoEscape", "internal/bytealg.MakeNoZero"], unfollowed := true, recurses := true, named := ["math/bits.deBruijn32tab", "internal/strconv.uint64pow10", "math/bits.deBruijn64tab"], apart := false, laid := [("math/bits.deBruijn32tab", laid_math_bits_deBruijn32tab), ("math/bits.deBruijn64tab", laid_math_bits_deBruijn64tab), ("internal/strconv.uint64pow10", laid_internal_strconv_uint64pow10)] }
def FaultSitesSaid : Prop := faultSitesRow.holds Tryz.pinned (OpenSpec.ofChange faultSitesSpec)

/-- ITS FALSE NEIGHBOUR: 'it returns false'. Refute it at one input. -/
def faultSitesWrong : ChangeSpec := { name := "faultSites", fn := fun _ => fun
  | [d1, d2, d3] => { results := [.lit (.bool false)], args := [d1, d2, d3] }
  | _ => none }
def FaultSitesWrongFalsely : Prop := faultSitesRow.holds Tryz.pinned (OpenSpec.ofChange faultSitesWrong)

/-- 'sederuntlaw19.FaultText': WHATEVER THE INPUT: true; the input reads as it did. -/
def faultTextSpec : ChangeSpec := { name := "faultText", fn := fun _ => fun
  | [d] => { results := [.lit (.bool true)], args := [d] }
  | _ => none }
def faultTextRow : OpenClaim := { program := "ytmcmhjdmilgoeaagreatdoor", sum := "bb699a09e5a58f3415186711167188e8c7e7514dcdf6324ae4a18fc1c4fc9d19", func := "sederunt/sederuntlaw19.FaultText", spec := "faultText", inPlace := ["internal/abi.NoEscape", "internal/bytealg.MakeNoZero", "internal/bytealg.CountString", "internal/bytealg.IndexByteString", "internal/bytealg.IndexString"], unfollowed := true, recurses := true, named := ["math/bits.deBruijn32tab", "internal/strconv.uint64pow10", "math/bits.deBruijn64tab", "unicode/utf8.first", "unicode/utf8.acceptRanges", "internal/bytealg.MaxLen", "strconv.ErrSyntax", "strconv.ErrRange"], apart := false, laid := [("math/bits.deBruijn32tab", laid_math_bits_deBruijn32tab), ("math/bits.deBruijn64tab", laid_math_bits_deBruijn64tab), ("internal/strconv.uint64pow10", laid_internal_strconv_uint64pow10), ("unicode/utf8.acceptRanges", laid_unicode_utf8_acceptRanges), ("strconv.ErrRange", laid_strconv_ErrRange), ("strconv.ErrSyntax", laid_strconv_ErrSyntax), ("unicode/utf8.first", laid_unicode_utf8_first)] }
def FaultTextSaid : Prop := faultTextRow.holds Tryz.pinned (OpenSpec.ofChange faultTextSpec)

/-- ITS FALSE NEIGHBOUR: 'it returns false'. Refute it at one input. -/
def faultTextWrong : ChangeSpec := { name := "faultText", fn := fun _ => fun
  | [d] => { results := [.lit (.bool false)], args := [d] }
  | _ => none }
def FaultTextWrongFalsely : Prop := faultTextRow.holds Tryz.pinned (OpenSpec.ofChange faultTextWrong)

/-- 'sederuntlaw19.FaultParse': WHATEVER THE INPUT: true; the input reads as it did. -/
def faultParseSpec : ChangeSpec := { name := "faultParse", fn := fun _ => fun
  | [d] => { results := [.lit (.bool true)], args := [d] }
  | _ => none }
def faultParseRow : OpenClaim := { program := "ytmcmhjdmilgoeaagreatdoor", sum := "bb699a09e5a58f3415186711167188e8c7e7514dcdf6324ae4a18fc1c4fc9d19", func := "sederunt/sederuntlaw19.FaultParse", spec := "faultParse", inPlace := ["internal/abi.NoEscape", "internal/bytealg.MakeNoZero", "internal/bytealg.CountString", "internal/bytealg.IndexByteString", "internal/bytealg.IndexString"], unfollowed := true, recurses := true, named := ["math/bits.deBruijn32tab", "internal/strconv.uint64pow10", "math/bits.deBruijn64tab", "unicode/utf8.first", "unicode/utf8.acceptRanges", "internal/bytealg.MaxLen", "strconv.ErrSyntax", "strconv.ErrRange"], apart := false, laid := [("math/bits.deBruijn32tab", laid_math_bits_deBruijn32tab), ("math/bits.deBruijn64tab", laid_math_bits_deBruijn64tab), ("internal/strconv.uint64pow10", laid_internal_strconv_uint64pow10), ("unicode/utf8.acceptRanges", laid_unicode_utf8_acceptRanges), ("strconv.ErrRange", laid_strconv_ErrRange), ("strconv.ErrSyntax", laid_strconv_ErrSyntax), ("unicode/utf8.first", laid_unicode_utf8_first)] }
def FaultParseSaid : Prop := faultParseRow.holds Tryz.pinned (OpenSpec.ofChange faultParseSpec)

/-- ITS FALSE NEIGHBOUR: 'it returns false'. Refute it at one input. -/
def faultParseWrong : ChangeSpec := { name := "faultParse", fn := fun _ => fun
  | [d] => { results := [.lit (.bool false)], args := [d] }
  | _ => none }
def FaultParseWrongFalsely : Prop := faultParseRow.holds Tryz.pinned (OpenSpec.ofChange faultParseWrong)

/- THE SECOND FORM. 'bulk': how many values and letters a reading holds, each counted each time it is reached (what is shared counts as often as it is met; a slice's spare places count too). A statement '..UptoSaid' is the law's where the arguments, and the package variables that the reading takes, are together of bulk at most 1048576: NARROWER than '..Said'. Prove '..Said' where nothing that the law and all that it calls make is longer than what came in: it says more and counts as full. Else prove '..UptoSaid'. A law counts once. -/
mutual
def uptoBulk {H : Type} : DataW H → Nat
  | .lit (.string bytes) => bytes.length + 1
  | .lit _ => 1
  | .nil => 1
  | .ptr d => uptoBulk d + 1
  | .slice elems spare => uptoBulkAll elems + uptoBulkAll spare + 1
  | .agg parts => uptoBulkAll parts + 1
  | .iface _ d => uptoBulk d + 1
  | .map entries => uptoBulkEntries entries + 1
  | .held _ => 1
def uptoBulkAll {H : Type} : List (DataW H) → Nat
  | [] => 0
  | d :: r => uptoBulk d + uptoBulkAll r
def uptoBulkEntries {H : Type} : List (Lit × DataW H) → Nat
  | [] => 0
  | x :: r => uptoBulkEntry x + uptoBulkEntries r
def uptoBulkEntry {H : Type} : Lit × DataW H → Nat
  | (.string bytes, d) => bytes.length + uptoBulk d + 1
  | (_, d) => uptoBulk d + 1
 end
def uptoSmall : (H : Type) → List (DataW H) → Bool := fun _ ds => decide (uptoBulkAll ds ≤ 1048576)
def OpenSpec.upto (s : _root_.Go.ChangeSpec) : _root_.Go.OpenSpec := { _root_.Go.OpenSpec.ofChange s with cond := some uptoSmall }

/-- 'sederuntlaw19.FaultValid', WHERE WHAT IT READS IS OF BULK AT MOST 1048576: true; the input reads as it did. -/
def faultValidUptoRow : OpenClaim := { program := "ytmcmhjdmilgoeaagreatdoor", sum := "bb699a09e5a58f3415186711167188e8c7e7514dcdf6324ae4a18fc1c4fc9d19", func := "sederunt/sederuntlaw19.FaultValid", spec := "faultValid", inPlace := ["internal/abi.NoEscape", "internal/bytealg.MakeNoZero"], unfollowed := true, recurses := true, named := ["math/bits.deBruijn32tab", "internal/strconv.uint64pow10", "math/bits.deBruijn64tab"], apart := false, laid := [("math/bits.deBruijn32tab", laid_math_bits_deBruijn32tab), ("math/bits.deBruijn64tab", laid_math_bits_deBruijn64tab), ("internal/strconv.uint64pow10", laid_internal_strconv_uint64pow10)], narrowed := true }
def FaultValidUptoSaid : Prop := faultValidUptoRow.holds Tryz.pinned (OpenSpec.upto faultValidSpec)

/-- 'sederuntlaw19.FaultCovers', WHERE WHAT IT READS IS OF BULK AT MOST 1048576: true; the input reads as it did. -/
def faultCoversUptoRow : OpenClaim := { program := "ytmcmhjdmilgoeaagreatdoor", sum := "bb699a09e5a58f3415186711167188e8c7e7514dcdf6324ae4a18fc1c4fc9d19", func := "sederunt/sederuntlaw19.FaultCovers", spec := "faultCovers", inPlace := ["internal/abi.NoEscape", "internal/bytealg.MakeNoZero"], unfollowed := true, recurses := true, named := ["math/bits.deBruijn32tab", "internal/strconv.uint64pow10", "math/bits.deBruijn64tab"], apart := false, laid := [("math/bits.deBruijn32tab", laid_math_bits_deBruijn32tab), ("math/bits.deBruijn64tab", laid_math_bits_deBruijn64tab), ("internal/strconv.uint64pow10", laid_internal_strconv_uint64pow10)], narrowed := true }
def FaultCoversUptoSaid : Prop := faultCoversUptoRow.holds Tryz.pinned (OpenSpec.upto faultCoversSpec)

/-- 'sederuntlaw19.FaultThreshold', WHERE WHAT IT READS IS OF BULK AT MOST 1048576: true; the input reads as it did. -/
def faultThresholdUptoRow : OpenClaim := { program := "ytmcmhjdmilgoeaagreatdoor", sum := "bb699a09e5a58f3415186711167188e8c7e7514dcdf6324ae4a18fc1c4fc9d19", func := "sederunt/sederuntlaw19.FaultThreshold", spec := "faultThreshold", inPlace := ["internal/abi.NoEscape", "internal/bytealg.MakeNoZero"], unfollowed := true, recurses := true, named := ["math/bits.deBruijn32tab", "internal/strconv.uint64pow10", "math/bits.deBruijn64tab"], apart := false, laid := [("math/bits.deBruijn32tab", laid_math_bits_deBruijn32tab), ("math/bits.deBruijn64tab", laid_math_bits_deBruijn64tab), ("internal/strconv.uint64pow10", laid_internal_strconv_uint64pow10)], narrowed := true }
def FaultThresholdUptoSaid : Prop := faultThresholdUptoRow.holds Tryz.pinned (OpenSpec.upto faultThresholdSpec)

/-- 'sederuntlaw19.FaultNormalize', WHERE WHAT IT READS IS OF BULK AT MOST 1048576: true; the input reads as it did. -/
def faultNormalizeUptoRow : OpenClaim := { program := "ytmcmhjdmilgoeaagreatdoor", sum := "bb699a09e5a58f3415186711167188e8c7e7514dcdf6324ae4a18fc1c4fc9d19", func := "sederunt/sederuntlaw19.FaultNormalize", spec := "faultNormalize", inPlace := ["internal/abi.NoEscape", "internal/bytealg.MakeNoZero"], unfollowed := true, recurses := true, named := ["math/bits.deBruijn32tab", "internal/strconv.uint64pow10", "math/bits.deBruijn64tab"], apart := false, laid := [("math/bits.deBruijn32tab", laid_math_bits_deBruijn32tab), ("math/bits.deBruijn64tab", laid_math_bits_deBruijn64tab), ("internal/strconv.uint64pow10", laid_internal_strconv_uint64pow10)], narrowed := true }
def FaultNormalizeUptoSaid : Prop := faultNormalizeUptoRow.holds Tryz.pinned (OpenSpec.upto faultNormalizeSpec)

/-- 'sederuntlaw19.FaultBoth', WHERE WHAT IT READS IS OF BULK AT MOST 1048576: true; the input reads as it did. -/
def faultBothUptoRow : OpenClaim := { program := "ytmcmhjdmilgoeaagreatdoor", sum := "bb699a09e5a58f3415186711167188e8c7e7514dcdf6324ae4a18fc1c4fc9d19", func := "sederunt/sederuntlaw19.FaultBoth", spec := "faultBoth", inPlace := ["internal/abi.NoEscape", "internal/bytealg.MakeNoZero"], unfollowed := true, recurses := true, named := ["math/bits.deBruijn32tab", "internal/strconv.uint64pow10", "math/bits.deBruijn64tab"], apart := false, laid := [("math/bits.deBruijn32tab", laid_math_bits_deBruijn32tab), ("math/bits.deBruijn64tab", laid_math_bits_deBruijn64tab), ("internal/strconv.uint64pow10", laid_internal_strconv_uint64pow10)], narrowed := true }
def FaultBothUptoSaid : Prop := faultBothUptoRow.holds Tryz.pinned (OpenSpec.upto faultBothSpec)

/-- 'sederuntlaw19.FaultAlgebra', WHERE WHAT IT READS IS OF BULK AT MOST 1048576: true; the input reads as it did. -/
def faultAlgebraUptoRow : OpenClaim := { program := "ytmcmhjdmilgoeaagreatdoor", sum := "bb699a09e5a58f3415186711167188e8c7e7514dcdf6324ae4a18fc1c4fc9d19", func := "sederunt/sederuntlaw19.FaultAlgebra", spec := "faultAlgebra", inPlace := ["internal/abi.NoEscape", "internal/bytealg.MakeNoZero"], unfollowed := true, recurses := true, named := ["math/bits.deBruijn32tab", "internal/strconv.uint64pow10", "math/bits.deBruijn64tab"], apart := false, laid := [("math/bits.deBruijn32tab", laid_math_bits_deBruijn32tab), ("math/bits.deBruijn64tab", laid_math_bits_deBruijn64tab), ("internal/strconv.uint64pow10", laid_internal_strconv_uint64pow10)], narrowed := true }
def FaultAlgebraUptoSaid : Prop := faultAlgebraUptoRow.holds Tryz.pinned (OpenSpec.upto faultAlgebraSpec)

/-- 'sederuntlaw19.FaultSites', WHERE WHAT IT READS IS OF BULK AT MOST 1048576: true; the input reads as it did. -/
def faultSitesUptoRow : OpenClaim := { program := "ytmcmhjdmilgoeaagreatdoor", sum := "bb699a09e5a58f3415186711167188e8c7e7514dcdf6324ae4a18fc1c4fc9d19", func := "sederunt/sederuntlaw19.FaultSites", spec := "faultSites", inPlace := ["internal/abi.NoEscape", "internal/bytealg.MakeNoZero"], unfollowed := true, recurses := true, named := ["math/bits.deBruijn32tab", "internal/strconv.uint64pow10", "math/bits.deBruijn64tab"], apart := false, laid := [("math/bits.deBruijn32tab", laid_math_bits_deBruijn32tab), ("math/bits.deBruijn64tab", laid_math_bits_deBruijn64tab), ("internal/strconv.uint64pow10", laid_internal_strconv_uint64pow10)], narrowed := true }
def FaultSitesUptoSaid : Prop := faultSitesUptoRow.holds Tryz.pinned (OpenSpec.upto faultSitesSpec)

/-- 'sederuntlaw19.FaultText', WHERE WHAT IT READS IS OF BULK AT MOST 1048576: true; the input reads as it did. -/
def faultTextUptoRow : OpenClaim := { program := "ytmcmhjdmilgoeaagreatdoor", sum := "bb699a09e5a58f3415186711167188e8c7e7514dcdf6324ae4a18fc1c4fc9d19", func := "sederunt/sederuntlaw19.FaultText", spec := "faultText", inPlace := ["internal/abi.NoEscape", "internal/bytealg.MakeNoZero", "internal/bytealg.CountString", "internal/bytealg.IndexByteString", "internal/bytealg.IndexString"], unfollowed := true, recurses := true, named := ["math/bits.deBruijn32tab", "internal/strconv.uint64pow10", "math/bits.deBruijn64tab", "unicode/utf8.first", "unicode/utf8.acceptRanges", "internal/bytealg.MaxLen", "strconv.ErrSyntax", "strconv.ErrRange"], apart := false, laid := [("math/bits.deBruijn32tab", laid_math_bits_deBruijn32tab), ("math/bits.deBruijn64tab", laid_math_bits_deBruijn64tab), ("internal/strconv.uint64pow10", laid_internal_strconv_uint64pow10), ("unicode/utf8.acceptRanges", laid_unicode_utf8_acceptRanges), ("strconv.ErrRange", laid_strconv_ErrRange), ("strconv.ErrSyntax", laid_strconv_ErrSyntax), ("unicode/utf8.first", laid_unicode_utf8_first)], narrowed := true }
def FaultTextUptoSaid : Prop := faultTextUptoRow.holds Tryz.pinned (OpenSpec.upto faultTextSpec)

/-- 'sederuntlaw19.FaultParse', WHERE WHAT IT READS IS OF BULK AT MOST 1048576: true; the input reads as it did. -/
def faultParseUptoRow : OpenClaim := { program := "ytmcmhjdmilgoeaagreatdoor", sum := "bb699a09e5a58f3415186711167188e8c7e7514dcdf6324ae4a18fc1c4fc9d19", func := "sederunt/sederuntlaw19.FaultParse", spec := "faultParse", inPlace := ["internal/abi.NoEscape", "internal/bytealg.MakeNoZero", "internal/bytealg.CountString", "internal/bytealg.IndexByteString", "internal/bytealg.IndexString"], unfollowed := true, recurses := true, named := ["math/bits.deBruijn32tab", "internal/strconv.uint64pow10", "math/bits.deBruijn64tab", "unicode/utf8.first", "unicode/utf8.acceptRanges", "internal/bytealg.MaxLen", "strconv.ErrSyntax", "strconv.ErrRange"], apart := false, laid := [("math/bits.deBruijn32tab", laid_math_bits_deBruijn32tab), ("math/bits.deBruijn64tab", laid_math_bits_deBruijn64tab), ("internal/strconv.uint64pow10", laid_internal_strconv_uint64pow10), ("unicode/utf8.acceptRanges", laid_unicode_utf8_acceptRanges), ("strconv.ErrRange", laid_strconv_ErrRange), ("strconv.ErrSyntax", laid_strconv_ErrSyntax), ("unicode/utf8.first", laid_unicode_utf8_first)], narrowed := true }
def FaultParseUptoSaid : Prop := faultParseUptoRow.holds Tryz.pinned (OpenSpec.upto faultParseSpec)

end Rows
end Go.Proofs.YtmcmhjdmilgoeaaGreatDoor
