/-
  NARROWER THAN 'FOR EVERY INPUT', by the rows' own cells (each row's printed sentence says how): EditopApplies: laid · EditopAll: laid · EditopColumns: laid · EditopNeighbours: laid · EditopTexts: laid · EditopInverses: laid · EditopCommutes: laid · EditopRelates: laid.
  DERIVED. THE GIVEN ROWS OF THIS SEAT. 8 by the template 'for every input the law returns true; each argument reads behind the call as it read before'; 0 by the template 'total and deterministic' (their statements: YtbdgmgddliploaaGreatDoorTotals.lean).
  GIVEN WITH THE SEED: the statements are not yours to turn. If you find one false, say at which input.
  Laid BY PROGRAM, IN A SANDBOX (cutbox-rows.mjs): the forced cells as the released guide's own fill.sh prints them over the translation 256c2ecc5d6fce60… (all of the seat's roots in one cut). By AI agents, Wed Nov 11 2026. No macro, syntax, notation, axiom, sorry.
-/
import Derived.Test.YtbdgmgddliploaaGreatDoorChecked
import GoSem.Claim
import GoSem.ClaimJoined
import GoSem.ClaimMapViews
import Derived.JoinedTies
import Derived.KernelRfl
namespace Go.Proofs.YtbdgmgddliploaaGreatDoor
/- THE CELL 'sum', in the pinned program and in every row, IS THE sha256 OF THE DUMP (.gsa) THAT YtbdgmgddliploaaGreatDoorProg.lean LOADS. Nothing in Lean hashes anything: it is a label: what it is worth is what the hold of that sum in a sandbox is worth. -/
noncomputable def Tryz.pinned : Pinned := { name := "ytbdgmgddliploaagreatdoor", sum := "256c2ecc5d6fce6046e09e53d40830d7e5c1c146c4c7718c09c850ecfb8ff7f9", checked := Tryz.checked }
namespace Rows
def none {H : Type} : Left H := { results := [], args := [] }

/- WHAT THE LISTED PACKAGE-LEVEL VARIABLES READ AS WHEN THE CALL BEGINS. Each datum BY PROGRAM (the guide's laid-datum.mjs) off the statement by which the dump's own 'gosem.cut.vars' lays the variable. In a bare row this is a premise. The card (YtbdgmgddliploaaGreatDoorCards.lean) ties it to the program's text. -/
def laid_math_bits_deBruijn32tab {H : Type} : DataW H := .agg [.lit (.int .u8 0), .lit (.int .u8 1), .lit (.int .u8 28), .lit (.int .u8 2), .lit (.int .u8 29), .lit (.int .u8 14), .lit (.int .u8 24), .lit (.int .u8 3), .lit (.int .u8 30), .lit (.int .u8 22), .lit (.int .u8 20), .lit (.int .u8 15), .lit (.int .u8 25), .lit (.int .u8 17), .lit (.int .u8 4), .lit (.int .u8 8), .lit (.int .u8 31), .lit (.int .u8 27), .lit (.int .u8 13), .lit (.int .u8 23), .lit (.int .u8 21), .lit (.int .u8 19), .lit (.int .u8 16), .lit (.int .u8 7), .lit (.int .u8 26), .lit (.int .u8 12), .lit (.int .u8 18), .lit (.int .u8 6), .lit (.int .u8 11), .lit (.int .u8 5), .lit (.int .u8 10), .lit (.int .u8 9)]
def laid_math_bits_deBruijn64tab {H : Type} : DataW H := .agg [.lit (.int .u8 0), .lit (.int .u8 1), .lit (.int .u8 56), .lit (.int .u8 2), .lit (.int .u8 57), .lit (.int .u8 49), .lit (.int .u8 28), .lit (.int .u8 3), .lit (.int .u8 61), .lit (.int .u8 58), .lit (.int .u8 42), .lit (.int .u8 50), .lit (.int .u8 38), .lit (.int .u8 29), .lit (.int .u8 17), .lit (.int .u8 4), .lit (.int .u8 62), .lit (.int .u8 47), .lit (.int .u8 59), .lit (.int .u8 36), .lit (.int .u8 45), .lit (.int .u8 43), .lit (.int .u8 51), .lit (.int .u8 22), .lit (.int .u8 53), .lit (.int .u8 39), .lit (.int .u8 33), .lit (.int .u8 30), .lit (.int .u8 24), .lit (.int .u8 18), .lit (.int .u8 12), .lit (.int .u8 5), .lit (.int .u8 63), .lit (.int .u8 55), .lit (.int .u8 48), .lit (.int .u8 27), .lit (.int .u8 60), .lit (.int .u8 41), .lit (.int .u8 37), .lit (.int .u8 16), .lit (.int .u8 46), .lit (.int .u8 35), .lit (.int .u8 44), .lit (.int .u8 21), .lit (.int .u8 52), .lit (.int .u8 32), .lit (.int .u8 23), .lit (.int .u8 11), .lit (.int .u8 54), .lit (.int .u8 26), .lit (.int .u8 40), .lit (.int .u8 15), .lit (.int .u8 34), .lit (.int .u8 20), .lit (.int .u8 31), .lit (.int .u8 10), .lit (.int .u8 25), .lit (.int .u8 14), .lit (.int .u8 19), .lit (.int .u8 9), .lit (.int .u8 13), .lit (.int .u8 8), .lit (.int .u8 7), .lit (.int .u8 6)]
def laid_internal_strconv_uint64pow10 {H : Type} : DataW H := .agg [.lit (.int .u64 1), .lit (.int .u64 10), .lit (.int .u64 100), .lit (.int .u64 1000), .lit (.int .u64 10000), .lit (.int .u64 100000), .lit (.int .u64 1000000), .lit (.int .u64 10000000), .lit (.int .u64 100000000), .lit (.int .u64 1000000000), .lit (.int .u64 10000000000), .lit (.int .u64 100000000000), .lit (.int .u64 1000000000000), .lit (.int .u64 10000000000000), .lit (.int .u64 100000000000000), .lit (.int .u64 1000000000000000), .lit (.int .u64 10000000000000000), .lit (.int .u64 100000000000000000), .lit (.int .u64 1000000000000000000), .lit (.int .u64 10000000000000000000)]
def laid_strconv_ErrRange {H : Type} : DataW H := .iface "*errors.errorString" (.ptr (.agg [.lit (.string [118, 97, 108, 117, 101, 32, 111, 117, 116, 32, 111, 102, 32, 114, 97, 110, 103, 101])]))
def laid_strconv_ErrSyntax {H : Type} : DataW H := .iface "*errors.errorString" (.ptr (.agg [.lit (.string [105, 110, 118, 97, 108, 105, 100, 32, 115, 121, 110, 116, 97, 120])]))

/-- 'apographlaw28.EditopApplies': WHATEVER THE INPUT: true; the input reads as it did. -/
def editopAppliesSpec : ChangeSpec := { name := "editopApplies", fn := fun _ => fun
  | [d1, d2] => { results := [.lit (.bool true)], args := [d1, d2] }
  | _ => none }
def editopAppliesRow : OpenClaim := { program := "ytbdgmgddliploaagreatdoor", sum := "256c2ecc5d6fce6046e09e53d40830d7e5c1c146c4c7718c09c850ecfb8ff7f9", func := "apograph/apographlaw28.EditopApplies", spec := "editopApplies", inPlace := ["internal/bytealg.IndexByteString", "slices.overlaps[[]int]", "internal/abi.NoEscape", "internal/bytealg.MakeNoZero"], unfollowed := true, recurses := true, named := ["strconv.ErrSyntax", "strconv.ErrRange", "internal/strconv.uint64pow10", "math/bits.deBruijn32tab", "math/bits.deBruijn64tab"], apart := false, laid := [("math/bits.deBruijn32tab", laid_math_bits_deBruijn32tab), ("math/bits.deBruijn64tab", laid_math_bits_deBruijn64tab), ("internal/strconv.uint64pow10", laid_internal_strconv_uint64pow10), ("strconv.ErrRange", laid_strconv_ErrRange), ("strconv.ErrSyntax", laid_strconv_ErrSyntax)] }
def EditopAppliesSaid : Prop := editopAppliesRow.holds Tryz.pinned (OpenSpec.ofChange editopAppliesSpec)

/-- ITS FALSE NEIGHBOUR: 'it returns false'. Refute it at one input. -/
def editopAppliesWrong : ChangeSpec := { name := "editopApplies", fn := fun _ => fun
  | [d1, d2] => { results := [.lit (.bool false)], args := [d1, d2] }
  | _ => none }
def EditopAppliesWrongFalsely : Prop := editopAppliesRow.holds Tryz.pinned (OpenSpec.ofChange editopAppliesWrong)

/-- 'apographlaw28.EditopAll': WHATEVER THE INPUT: true; the input reads as it did. -/
def editopAllSpec : ChangeSpec := { name := "editopAll", fn := fun _ => fun
  | [d1, d2] => { results := [.lit (.bool true)], args := [d1, d2] }
  | _ => none }
def editopAllRow : OpenClaim := { program := "ytbdgmgddliploaagreatdoor", sum := "256c2ecc5d6fce6046e09e53d40830d7e5c1c146c4c7718c09c850ecfb8ff7f9", func := "apograph/apographlaw28.EditopAll", spec := "editopAll", inPlace := ["internal/bytealg.IndexByteString", "slices.overlaps[[]int]", "internal/abi.NoEscape", "internal/bytealg.MakeNoZero"], unfollowed := true, recurses := true, named := ["internal/strconv.uint64pow10", "math/bits.deBruijn32tab", "math/bits.deBruijn64tab", "strconv.ErrSyntax", "strconv.ErrRange"], apart := false, laid := [("math/bits.deBruijn32tab", laid_math_bits_deBruijn32tab), ("math/bits.deBruijn64tab", laid_math_bits_deBruijn64tab), ("internal/strconv.uint64pow10", laid_internal_strconv_uint64pow10), ("strconv.ErrRange", laid_strconv_ErrRange), ("strconv.ErrSyntax", laid_strconv_ErrSyntax)] }
def EditopAllSaid : Prop := editopAllRow.holds Tryz.pinned (OpenSpec.ofChange editopAllSpec)

/-- ITS FALSE NEIGHBOUR: 'it returns false'. Refute it at one input. -/
def editopAllWrong : ChangeSpec := { name := "editopAll", fn := fun _ => fun
  | [d1, d2] => { results := [.lit (.bool false)], args := [d1, d2] }
  | _ => none }
def EditopAllWrongFalsely : Prop := editopAllRow.holds Tryz.pinned (OpenSpec.ofChange editopAllWrong)

/-- 'apographlaw28.EditopColumns': WHATEVER THE INPUT: true; the input reads as it did. -/
def editopColumnsSpec : ChangeSpec := { name := "editopColumns", fn := fun _ => fun
  | [d1, d2] => { results := [.lit (.bool true)], args := [d1, d2] }
  | _ => none }
def editopColumnsRow : OpenClaim := { program := "ytbdgmgddliploaagreatdoor", sum := "256c2ecc5d6fce6046e09e53d40830d7e5c1c146c4c7718c09c850ecfb8ff7f9", func := "apograph/apographlaw28.EditopColumns", spec := "editopColumns", inPlace := ["internal/bytealg.IndexByteString", "slices.overlaps[[]int]", "internal/abi.NoEscape", "internal/bytealg.MakeNoZero"], unfollowed := true, recurses := true, named := ["internal/strconv.uint64pow10", "math/bits.deBruijn32tab", "math/bits.deBruijn64tab", "strconv.ErrSyntax", "strconv.ErrRange"], apart := false, laid := [("math/bits.deBruijn32tab", laid_math_bits_deBruijn32tab), ("math/bits.deBruijn64tab", laid_math_bits_deBruijn64tab), ("internal/strconv.uint64pow10", laid_internal_strconv_uint64pow10), ("strconv.ErrRange", laid_strconv_ErrRange), ("strconv.ErrSyntax", laid_strconv_ErrSyntax)] }
def EditopColumnsSaid : Prop := editopColumnsRow.holds Tryz.pinned (OpenSpec.ofChange editopColumnsSpec)

/-- ITS FALSE NEIGHBOUR: 'it returns false'. Refute it at one input. -/
def editopColumnsWrong : ChangeSpec := { name := "editopColumns", fn := fun _ => fun
  | [d1, d2] => { results := [.lit (.bool false)], args := [d1, d2] }
  | _ => none }
def EditopColumnsWrongFalsely : Prop := editopColumnsRow.holds Tryz.pinned (OpenSpec.ofChange editopColumnsWrong)

/-- 'apographlaw28.EditopNeighbours': WHATEVER THE INPUT: true; the input reads as it did. -/
def editopNeighboursSpec : ChangeSpec := { name := "editopNeighbours", fn := fun _ => fun
  | [d1, d2, d3, d4] => { results := [.lit (.bool true)], args := [d1, d2, d3, d4] }
  | _ => none }
def editopNeighboursRow : OpenClaim := { program := "ytbdgmgddliploaagreatdoor", sum := "256c2ecc5d6fce6046e09e53d40830d7e5c1c146c4c7718c09c850ecfb8ff7f9", func := "apograph/apographlaw28.EditopNeighbours", spec := "editopNeighbours", inPlace := ["internal/bytealg.IndexByteString", "slices.overlaps[[]int]", "internal/abi.NoEscape", "internal/bytealg.MakeNoZero"], unfollowed := true, recurses := true, named := ["internal/strconv.uint64pow10", "math/bits.deBruijn32tab", "math/bits.deBruijn64tab", "strconv.ErrSyntax", "strconv.ErrRange"], apart := false, laid := [("math/bits.deBruijn32tab", laid_math_bits_deBruijn32tab), ("math/bits.deBruijn64tab", laid_math_bits_deBruijn64tab), ("internal/strconv.uint64pow10", laid_internal_strconv_uint64pow10), ("strconv.ErrRange", laid_strconv_ErrRange), ("strconv.ErrSyntax", laid_strconv_ErrSyntax)] }
def EditopNeighboursSaid : Prop := editopNeighboursRow.holds Tryz.pinned (OpenSpec.ofChange editopNeighboursSpec)

/-- ITS FALSE NEIGHBOUR: 'it returns false'. Refute it at one input. -/
def editopNeighboursWrong : ChangeSpec := { name := "editopNeighbours", fn := fun _ => fun
  | [d1, d2, d3, d4] => { results := [.lit (.bool false)], args := [d1, d2, d3, d4] }
  | _ => none }
def EditopNeighboursWrongFalsely : Prop := editopNeighboursRow.holds Tryz.pinned (OpenSpec.ofChange editopNeighboursWrong)

/-- 'apographlaw28.EditopTexts': WHATEVER THE INPUT: true; the input reads as it did. -/
def editopTextsSpec : ChangeSpec := { name := "editopTexts", fn := fun _ => fun
  | [d1, d2] => { results := [.lit (.bool true)], args := [d1, d2] }
  | _ => none }
def editopTextsRow : OpenClaim := { program := "ytbdgmgddliploaagreatdoor", sum := "256c2ecc5d6fce6046e09e53d40830d7e5c1c146c4c7718c09c850ecfb8ff7f9", func := "apograph/apographlaw28.EditopTexts", spec := "editopTexts", inPlace := ["internal/bytealg.IndexByteString", "slices.overlaps[[]int]", "internal/abi.NoEscape", "internal/bytealg.MakeNoZero"], unfollowed := true, recurses := true, named := ["internal/strconv.uint64pow10", "math/bits.deBruijn32tab", "math/bits.deBruijn64tab", "strconv.ErrSyntax", "strconv.ErrRange"], apart := false, laid := [("math/bits.deBruijn32tab", laid_math_bits_deBruijn32tab), ("math/bits.deBruijn64tab", laid_math_bits_deBruijn64tab), ("internal/strconv.uint64pow10", laid_internal_strconv_uint64pow10), ("strconv.ErrRange", laid_strconv_ErrRange), ("strconv.ErrSyntax", laid_strconv_ErrSyntax)] }
def EditopTextsSaid : Prop := editopTextsRow.holds Tryz.pinned (OpenSpec.ofChange editopTextsSpec)

/-- ITS FALSE NEIGHBOUR: 'it returns false'. Refute it at one input. -/
def editopTextsWrong : ChangeSpec := { name := "editopTexts", fn := fun _ => fun
  | [d1, d2] => { results := [.lit (.bool false)], args := [d1, d2] }
  | _ => none }
def EditopTextsWrongFalsely : Prop := editopTextsRow.holds Tryz.pinned (OpenSpec.ofChange editopTextsWrong)

/-- 'apographlaw28.EditopInverses': WHATEVER THE INPUT: true; the input reads as it did. -/
def editopInversesSpec : ChangeSpec := { name := "editopInverses", fn := fun _ => fun
  | [d1, d2, d3] => { results := [.lit (.bool true)], args := [d1, d2, d3] }
  | _ => none }
def editopInversesRow : OpenClaim := { program := "ytbdgmgddliploaagreatdoor", sum := "256c2ecc5d6fce6046e09e53d40830d7e5c1c146c4c7718c09c850ecfb8ff7f9", func := "apograph/apographlaw28.EditopInverses", spec := "editopInverses", inPlace := ["internal/bytealg.IndexByteString", "slices.overlaps[[]int]", "internal/abi.NoEscape", "internal/bytealg.MakeNoZero"], unfollowed := true, recurses := true, named := ["internal/strconv.uint64pow10", "math/bits.deBruijn32tab", "math/bits.deBruijn64tab", "strconv.ErrSyntax", "strconv.ErrRange"], apart := false, laid := [("math/bits.deBruijn32tab", laid_math_bits_deBruijn32tab), ("math/bits.deBruijn64tab", laid_math_bits_deBruijn64tab), ("internal/strconv.uint64pow10", laid_internal_strconv_uint64pow10), ("strconv.ErrRange", laid_strconv_ErrRange), ("strconv.ErrSyntax", laid_strconv_ErrSyntax)] }
def EditopInversesSaid : Prop := editopInversesRow.holds Tryz.pinned (OpenSpec.ofChange editopInversesSpec)

/-- ITS FALSE NEIGHBOUR: 'it returns false'. Refute it at one input. -/
def editopInversesWrong : ChangeSpec := { name := "editopInverses", fn := fun _ => fun
  | [d1, d2, d3] => { results := [.lit (.bool false)], args := [d1, d2, d3] }
  | _ => none }
def EditopInversesWrongFalsely : Prop := editopInversesRow.holds Tryz.pinned (OpenSpec.ofChange editopInversesWrong)

/-- 'apographlaw28.EditopCommutes': WHATEVER THE INPUT: true; the input reads as it did. -/
def editopCommutesSpec : ChangeSpec := { name := "editopCommutes", fn := fun _ => fun
  | [d1, d2, d3] => { results := [.lit (.bool true)], args := [d1, d2, d3] }
  | _ => none }
def editopCommutesRow : OpenClaim := { program := "ytbdgmgddliploaagreatdoor", sum := "256c2ecc5d6fce6046e09e53d40830d7e5c1c146c4c7718c09c850ecfb8ff7f9", func := "apograph/apographlaw28.EditopCommutes", spec := "editopCommutes", inPlace := ["internal/bytealg.IndexByteString", "slices.overlaps[[]int]", "internal/abi.NoEscape", "internal/bytealg.MakeNoZero"], unfollowed := true, recurses := true, named := ["internal/strconv.uint64pow10", "math/bits.deBruijn32tab", "math/bits.deBruijn64tab", "strconv.ErrSyntax", "strconv.ErrRange"], apart := false, laid := [("math/bits.deBruijn32tab", laid_math_bits_deBruijn32tab), ("math/bits.deBruijn64tab", laid_math_bits_deBruijn64tab), ("internal/strconv.uint64pow10", laid_internal_strconv_uint64pow10), ("strconv.ErrRange", laid_strconv_ErrRange), ("strconv.ErrSyntax", laid_strconv_ErrSyntax)] }
def EditopCommutesSaid : Prop := editopCommutesRow.holds Tryz.pinned (OpenSpec.ofChange editopCommutesSpec)

/-- ITS FALSE NEIGHBOUR: 'it returns false'. Refute it at one input. -/
def editopCommutesWrong : ChangeSpec := { name := "editopCommutes", fn := fun _ => fun
  | [d1, d2, d3] => { results := [.lit (.bool false)], args := [d1, d2, d3] }
  | _ => none }
def EditopCommutesWrongFalsely : Prop := editopCommutesRow.holds Tryz.pinned (OpenSpec.ofChange editopCommutesWrong)

/-- 'apographlaw28.EditopRelates': WHATEVER THE INPUT: true; the input reads as it did. -/
def editopRelatesSpec : ChangeSpec := { name := "editopRelates", fn := fun _ => fun
  | [d1, d2, d3] => { results := [.lit (.bool true)], args := [d1, d2, d3] }
  | _ => none }
def editopRelatesRow : OpenClaim := { program := "ytbdgmgddliploaagreatdoor", sum := "256c2ecc5d6fce6046e09e53d40830d7e5c1c146c4c7718c09c850ecfb8ff7f9", func := "apograph/apographlaw28.EditopRelates", spec := "editopRelates", inPlace := ["internal/bytealg.IndexByteString", "slices.overlaps[[]int]", "internal/abi.NoEscape", "internal/bytealg.MakeNoZero"], unfollowed := true, recurses := true, named := ["strconv.ErrSyntax", "strconv.ErrRange", "internal/strconv.uint64pow10", "math/bits.deBruijn32tab", "math/bits.deBruijn64tab"], apart := false, laid := [("math/bits.deBruijn32tab", laid_math_bits_deBruijn32tab), ("math/bits.deBruijn64tab", laid_math_bits_deBruijn64tab), ("internal/strconv.uint64pow10", laid_internal_strconv_uint64pow10), ("strconv.ErrRange", laid_strconv_ErrRange), ("strconv.ErrSyntax", laid_strconv_ErrSyntax)] }
def EditopRelatesSaid : Prop := editopRelatesRow.holds Tryz.pinned (OpenSpec.ofChange editopRelatesSpec)

/-- ITS FALSE NEIGHBOUR: 'it returns false'. Refute it at one input. -/
def editopRelatesWrong : ChangeSpec := { name := "editopRelates", fn := fun _ => fun
  | [d1, d2, d3] => { results := [.lit (.bool false)], args := [d1, d2, d3] }
  | _ => none }
def EditopRelatesWrongFalsely : Prop := editopRelatesRow.holds Tryz.pinned (OpenSpec.ofChange editopRelatesWrong)

/- THE SECOND FORM. 'bulk': how many values and letters a reading holds, each counted each time it is reached (what is shared counts as often as it is met; a slice's spare places count too). A statement '..UptoSaid' is the law's where the arguments, and the package variables that the reading takes, are together of bulk at most 1048576: NARROWER than '..Said'. Prove '..Said' where nothing that the law and all that it calls make is longer than what came in: it says more and counts as full. Else prove '..UptoSaid'. A law counts once. -/
mutual
def uptoBulk {H : Type} : DataW H → Nat
  | .lit (.string bytes) => bytes.length + 1
  | .lit _ => 1
  | .nil => 1
  | .ptr d => uptoBulk d + 1
  | .slice elems spare => uptoBulkAll elems + uptoBulkAll spare + 1
  | .agg parts => uptoBulkAll parts + 1
  | .iface _ d => uptoBulk d + 1
  | .map entries => uptoBulkEntries entries + 1
  | .held _ => 1
def uptoBulkAll {H : Type} : List (DataW H) → Nat
  | [] => 0
  | d :: r => uptoBulk d + uptoBulkAll r
def uptoBulkEntries {H : Type} : List (Lit × DataW H) → Nat
  | [] => 0
  | x :: r => uptoBulkEntry x + uptoBulkEntries r
def uptoBulkEntry {H : Type} : Lit × DataW H → Nat
  | (.string bytes, d) => bytes.length + uptoBulk d + 1
  | (_, d) => uptoBulk d + 1
 end
def uptoSmall : (H : Type) → List (DataW H) → Bool := fun _ ds => decide (uptoBulkAll ds ≤ 1048576)
def OpenSpec.upto (s : _root_.Go.ChangeSpec) : _root_.Go.OpenSpec := { _root_.Go.OpenSpec.ofChange s with cond := some uptoSmall }

/-- 'apographlaw28.EditopApplies', WHERE WHAT IT READS IS OF BULK AT MOST 1048576: true; the input reads as it did. -/
def editopAppliesUptoRow : OpenClaim := { program := "ytbdgmgddliploaagreatdoor", sum := "256c2ecc5d6fce6046e09e53d40830d7e5c1c146c4c7718c09c850ecfb8ff7f9", func := "apograph/apographlaw28.EditopApplies", spec := "editopApplies", inPlace := ["internal/bytealg.IndexByteString", "slices.overlaps[[]int]", "internal/abi.NoEscape", "internal/bytealg.MakeNoZero"], unfollowed := true, recurses := true, named := ["strconv.ErrSyntax", "strconv.ErrRange", "internal/strconv.uint64pow10", "math/bits.deBruijn32tab", "math/bits.deBruijn64tab"], apart := false, laid := [("math/bits.deBruijn32tab", laid_math_bits_deBruijn32tab), ("math/bits.deBruijn64tab", laid_math_bits_deBruijn64tab), ("internal/strconv.uint64pow10", laid_internal_strconv_uint64pow10), ("strconv.ErrRange", laid_strconv_ErrRange), ("strconv.ErrSyntax", laid_strconv_ErrSyntax)], narrowed := true }
def EditopAppliesUptoSaid : Prop := editopAppliesUptoRow.holds Tryz.pinned (OpenSpec.upto editopAppliesSpec)

/-- 'apographlaw28.EditopAll', WHERE WHAT IT READS IS OF BULK AT MOST 1048576: true; the input reads as it did. -/
def editopAllUptoRow : OpenClaim := { program := "ytbdgmgddliploaagreatdoor", sum := "256c2ecc5d6fce6046e09e53d40830d7e5c1c146c4c7718c09c850ecfb8ff7f9", func := "apograph/apographlaw28.EditopAll", spec := "editopAll", inPlace := ["internal/bytealg.IndexByteString", "slices.overlaps[[]int]", "internal/abi.NoEscape", "internal/bytealg.MakeNoZero"], unfollowed := true, recurses := true, named := ["internal/strconv.uint64pow10", "math/bits.deBruijn32tab", "math/bits.deBruijn64tab", "strconv.ErrSyntax", "strconv.ErrRange"], apart := false, laid := [("math/bits.deBruijn32tab", laid_math_bits_deBruijn32tab), ("math/bits.deBruijn64tab", laid_math_bits_deBruijn64tab), ("internal/strconv.uint64pow10", laid_internal_strconv_uint64pow10), ("strconv.ErrRange", laid_strconv_ErrRange), ("strconv.ErrSyntax", laid_strconv_ErrSyntax)], narrowed := true }
def EditopAllUptoSaid : Prop := editopAllUptoRow.holds Tryz.pinned (OpenSpec.upto editopAllSpec)

/-- 'apographlaw28.EditopColumns', WHERE WHAT IT READS IS OF BULK AT MOST 1048576: true; the input reads as it did. -/
def editopColumnsUptoRow : OpenClaim := { program := "ytbdgmgddliploaagreatdoor", sum := "256c2ecc5d6fce6046e09e53d40830d7e5c1c146c4c7718c09c850ecfb8ff7f9", func := "apograph/apographlaw28.EditopColumns", spec := "editopColumns", inPlace := ["internal/bytealg.IndexByteString", "slices.overlaps[[]int]", "internal/abi.NoEscape", "internal/bytealg.MakeNoZero"], unfollowed := true, recurses := true, named := ["internal/strconv.uint64pow10", "math/bits.deBruijn32tab", "math/bits.deBruijn64tab", "strconv.ErrSyntax", "strconv.ErrRange"], apart := false, laid := [("math/bits.deBruijn32tab", laid_math_bits_deBruijn32tab), ("math/bits.deBruijn64tab", laid_math_bits_deBruijn64tab), ("internal/strconv.uint64pow10", laid_internal_strconv_uint64pow10), ("strconv.ErrRange", laid_strconv_ErrRange), ("strconv.ErrSyntax", laid_strconv_ErrSyntax)], narrowed := true }
def EditopColumnsUptoSaid : Prop := editopColumnsUptoRow.holds Tryz.pinned (OpenSpec.upto editopColumnsSpec)

/-- 'apographlaw28.EditopNeighbours', WHERE WHAT IT READS IS OF BULK AT MOST 1048576: true; the input reads as it did. -/
def editopNeighboursUptoRow : OpenClaim := { program := "ytbdgmgddliploaagreatdoor", sum := "256c2ecc5d6fce6046e09e53d40830d7e5c1c146c4c7718c09c850ecfb8ff7f9", func := "apograph/apographlaw28.EditopNeighbours", spec := "editopNeighbours", inPlace := ["internal/bytealg.IndexByteString", "slices.overlaps[[]int]", "internal/abi.NoEscape", "internal/bytealg.MakeNoZero"], unfollowed := true, recurses := true, named := ["internal/strconv.uint64pow10", "math/bits.deBruijn32tab", "math/bits.deBruijn64tab", "strconv.ErrSyntax", "strconv.ErrRange"], apart := false, laid := [("math/bits.deBruijn32tab", laid_math_bits_deBruijn32tab), ("math/bits.deBruijn64tab", laid_math_bits_deBruijn64tab), ("internal/strconv.uint64pow10", laid_internal_strconv_uint64pow10), ("strconv.ErrRange", laid_strconv_ErrRange), ("strconv.ErrSyntax", laid_strconv_ErrSyntax)], narrowed := true }
def EditopNeighboursUptoSaid : Prop := editopNeighboursUptoRow.holds Tryz.pinned (OpenSpec.upto editopNeighboursSpec)

/-- 'apographlaw28.EditopTexts', WHERE WHAT IT READS IS OF BULK AT MOST 1048576: true; the input reads as it did. -/
def editopTextsUptoRow : OpenClaim := { program := "ytbdgmgddliploaagreatdoor", sum := "256c2ecc5d6fce6046e09e53d40830d7e5c1c146c4c7718c09c850ecfb8ff7f9", func := "apograph/apographlaw28.EditopTexts", spec := "editopTexts", inPlace := ["internal/bytealg.IndexByteString", "slices.overlaps[[]int]", "internal/abi.NoEscape", "internal/bytealg.MakeNoZero"], unfollowed := true, recurses := true, named := ["internal/strconv.uint64pow10", "math/bits.deBruijn32tab", "math/bits.deBruijn64tab", "strconv.ErrSyntax", "strconv.ErrRange"], apart := false, laid := [("math/bits.deBruijn32tab", laid_math_bits_deBruijn32tab), ("math/bits.deBruijn64tab", laid_math_bits_deBruijn64tab), ("internal/strconv.uint64pow10", laid_internal_strconv_uint64pow10), ("strconv.ErrRange", laid_strconv_ErrRange), ("strconv.ErrSyntax", laid_strconv_ErrSyntax)], narrowed := true }
def EditopTextsUptoSaid : Prop := editopTextsUptoRow.holds Tryz.pinned (OpenSpec.upto editopTextsSpec)

/-- 'apographlaw28.EditopInverses', WHERE WHAT IT READS IS OF BULK AT MOST 1048576: true; the input reads as it did. -/
def editopInversesUptoRow : OpenClaim := { program := "ytbdgmgddliploaagreatdoor", sum := "256c2ecc5d6fce6046e09e53d40830d7e5c1c146c4c7718c09c850ecfb8ff7f9", func := "apograph/apographlaw28.EditopInverses", spec := "editopInverses", inPlace := ["internal/bytealg.IndexByteString", "slices.overlaps[[]int]", "internal/abi.NoEscape", "internal/bytealg.MakeNoZero"], unfollowed := true, recurses := true, named := ["internal/strconv.uint64pow10", "math/bits.deBruijn32tab", "math/bits.deBruijn64tab", "strconv.ErrSyntax", "strconv.ErrRange"], apart := false, laid := [("math/bits.deBruijn32tab", laid_math_bits_deBruijn32tab), ("math/bits.deBruijn64tab", laid_math_bits_deBruijn64tab), ("internal/strconv.uint64pow10", laid_internal_strconv_uint64pow10), ("strconv.ErrRange", laid_strconv_ErrRange), ("strconv.ErrSyntax", laid_strconv_ErrSyntax)], narrowed := true }
def EditopInversesUptoSaid : Prop := editopInversesUptoRow.holds Tryz.pinned (OpenSpec.upto editopInversesSpec)

/-- 'apographlaw28.EditopCommutes', WHERE WHAT IT READS IS OF BULK AT MOST 1048576: true; the input reads as it did. -/
def editopCommutesUptoRow : OpenClaim := { program := "ytbdgmgddliploaagreatdoor", sum := "256c2ecc5d6fce6046e09e53d40830d7e5c1c146c4c7718c09c850ecfb8ff7f9", func := "apograph/apographlaw28.EditopCommutes", spec := "editopCommutes", inPlace := ["internal/bytealg.IndexByteString", "slices.overlaps[[]int]", "internal/abi.NoEscape", "internal/bytealg.MakeNoZero"], unfollowed := true, recurses := true, named := ["internal/strconv.uint64pow10", "math/bits.deBruijn32tab", "math/bits.deBruijn64tab", "strconv.ErrSyntax", "strconv.ErrRange"], apart := false, laid := [("math/bits.deBruijn32tab", laid_math_bits_deBruijn32tab), ("math/bits.deBruijn64tab", laid_math_bits_deBruijn64tab), ("internal/strconv.uint64pow10", laid_internal_strconv_uint64pow10), ("strconv.ErrRange", laid_strconv_ErrRange), ("strconv.ErrSyntax", laid_strconv_ErrSyntax)], narrowed := true }
def EditopCommutesUptoSaid : Prop := editopCommutesUptoRow.holds Tryz.pinned (OpenSpec.upto editopCommutesSpec)

/-- 'apographlaw28.EditopRelates', WHERE WHAT IT READS IS OF BULK AT MOST 1048576: true; the input reads as it did. -/
def editopRelatesUptoRow : OpenClaim := { program := "ytbdgmgddliploaagreatdoor", sum := "256c2ecc5d6fce6046e09e53d40830d7e5c1c146c4c7718c09c850ecfb8ff7f9", func := "apograph/apographlaw28.EditopRelates", spec := "editopRelates", inPlace := ["internal/bytealg.IndexByteString", "slices.overlaps[[]int]", "internal/abi.NoEscape", "internal/bytealg.MakeNoZero"], unfollowed := true, recurses := true, named := ["strconv.ErrSyntax", "strconv.ErrRange", "internal/strconv.uint64pow10", "math/bits.deBruijn32tab", "math/bits.deBruijn64tab"], apart := false, laid := [("math/bits.deBruijn32tab", laid_math_bits_deBruijn32tab), ("math/bits.deBruijn64tab", laid_math_bits_deBruijn64tab), ("internal/strconv.uint64pow10", laid_internal_strconv_uint64pow10), ("strconv.ErrRange", laid_strconv_ErrRange), ("strconv.ErrSyntax", laid_strconv_ErrSyntax)], narrowed := true }
def EditopRelatesUptoSaid : Prop := editopRelatesUptoRow.holds Tryz.pinned (OpenSpec.upto editopRelatesSpec)

end Rows
end Go.Proofs.YtbdgmgddliploaaGreatDoor
