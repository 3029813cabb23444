/-
  No cell of these rows narrows 'for every input' (looked for: loops, veiled, ifaces, maps, wideKeys, modest, calm, conditions, laid).
  DERIVED. THE GIVEN ROWS OF THIS SEAT. 8 by the template 'for every input the law returns true; each argument reads behind the call as it read before'; 0 by the template 'total and deterministic' (their statements: YtebmachppbpdmaaTotals.lean).
  GIVEN WITH THE SEED: the statements are not yours to turn. If you find one false, say at which input.
  Laid BY PROGRAM, IN A SANDBOX (cutbox-rows.mjs): the forced cells as the released guide's own fill.sh prints them over the translation cacf7c95f30531d0… (all of the seat's roots in one cut). By AI agents, Wed Nov 11 2026. No macro, syntax, notation, axiom, sorry.
-/
import Derived.Test.YtebmachppbpdmaaChecked
import GoSem.Claim
import GoSem.ClaimJoined
import GoSem.ClaimMapViews
import Derived.JoinedTies
import Derived.KernelRfl
namespace Go.Proofs.Ytebmachppbpdmaa
/- THE CELL 'sum', in the pinned program and in every row, IS THE sha256 OF THE DUMP (.gsa) THAT YtebmachppbpdmaaProg.lean LOADS. Nothing in Lean hashes anything: it is a label: what it is worth is what the hold of that sum in a sandbox is worth. -/
noncomputable def Try.pinned : Pinned := { name := "ytebmachppbpdmaa", sum := "cacf7c95f30531d02b8cf64a641b2b1d20f4fb58d4f167861cd8e615f53dff39", checked := Try.checked }
namespace Rows
def none {H : Type} : Left H := { results := [], args := [] }

/-- 'apographlaw05.DagPotentials': WHATEVER THE INPUT: true; the input reads as it did. -/
def dagPotentialsSpec : ChangeSpec := { name := "dagPotentials", fn := fun _ => fun
  | [d1, d2, d3] => { results := [.lit (.bool true)], args := [d1, d2, d3] }
  | _ => none }
def dagPotentialsRow : OpenClaim := { program := "ytebmachppbpdmaa", sum := "cacf7c95f30531d02b8cf64a641b2b1d20f4fb58d4f167861cd8e615f53dff39", func := "apograph/apographlaw05.DagPotentials", spec := "dagPotentials", unfollowed := true, recurses := true, apart := false }
def DagPotentialsSaid : Prop := dagPotentialsRow.holds Try.pinned (OpenSpec.ofChange dagPotentialsSpec)

/-- ITS FALSE NEIGHBOUR: 'it returns false'. Refute it at one input. -/
def dagPotentialsWrong : ChangeSpec := { name := "dagPotentials", fn := fun _ => fun
  | [d1, d2, d3] => { results := [.lit (.bool false)], args := [d1, d2, d3] }
  | _ => none }
def DagPotentialsWrongFalsely : Prop := dagPotentialsRow.holds Try.pinned (OpenSpec.ofChange dagPotentialsWrong)

/-- 'apographlaw05.DagLongest': WHATEVER THE INPUT: true; the input reads as it did. -/
def dagLongestSpec : ChangeSpec := { name := "dagLongest", fn := fun _ => fun
  | [d1, d2, d3, d4] => { results := [.lit (.bool true)], args := [d1, d2, d3, d4] }
  | _ => none }
def dagLongestRow : OpenClaim := { program := "ytebmachppbpdmaa", sum := "cacf7c95f30531d02b8cf64a641b2b1d20f4fb58d4f167861cd8e615f53dff39", func := "apograph/apographlaw05.DagLongest", spec := "dagLongest", unfollowed := true, recurses := true, apart := false }
def DagLongestSaid : Prop := dagLongestRow.holds Try.pinned (OpenSpec.ofChange dagLongestSpec)

/-- ITS FALSE NEIGHBOUR: 'it returns false'. Refute it at one input. -/
def dagLongestWrong : ChangeSpec := { name := "dagLongest", fn := fun _ => fun
  | [d1, d2, d3, d4] => { results := [.lit (.bool false)], args := [d1, d2, d3, d4] }
  | _ => none }
def DagLongestWrongFalsely : Prop := dagLongestRow.holds Try.pinned (OpenSpec.ofChange dagLongestWrong)

/-- 'apographlaw05.DagMore': WHATEVER THE INPUT: true; the input reads as it did. -/
def dagMoreSpec : ChangeSpec := { name := "dagMore", fn := fun _ => fun
  | [d1, d2, d3, d4, d5] => { results := [.lit (.bool true)], args := [d1, d2, d3, d4, d5] }
  | _ => none }
def dagMoreRow : OpenClaim := { program := "ytebmachppbpdmaa", sum := "cacf7c95f30531d02b8cf64a641b2b1d20f4fb58d4f167861cd8e615f53dff39", func := "apograph/apographlaw05.DagMore", spec := "dagMore", unfollowed := true, recurses := true, apart := false }
def DagMoreSaid : Prop := dagMoreRow.holds Try.pinned (OpenSpec.ofChange dagMoreSpec)

/-- ITS FALSE NEIGHBOUR: 'it returns false'. Refute it at one input. -/
def dagMoreWrong : ChangeSpec := { name := "dagMore", fn := fun _ => fun
  | [d1, d2, d3, d4, d5] => { results := [.lit (.bool false)], args := [d1, d2, d3, d4, d5] }
  | _ => none }
def DagMoreWrongFalsely : Prop := dagMoreRow.holds Try.pinned (OpenSpec.ofChange dagMoreWrong)

/-- 'apographlaw05.DagOthers': WHATEVER THE INPUT: true; the input reads as it did. -/
def dagOthersSpec : ChangeSpec := { name := "dagOthers", fn := fun _ => fun
  | [d1, d2, d3, d4] => { results := [.lit (.bool true)], args := [d1, d2, d3, d4] }
  | _ => none }
def dagOthersRow : OpenClaim := { program := "ytebmachppbpdmaa", sum := "cacf7c95f30531d02b8cf64a641b2b1d20f4fb58d4f167861cd8e615f53dff39", func := "apograph/apographlaw05.DagOthers", spec := "dagOthers", unfollowed := true, recurses := true, apart := false }
def DagOthersSaid : Prop := dagOthersRow.holds Try.pinned (OpenSpec.ofChange dagOthersSpec)

/-- ITS FALSE NEIGHBOUR: 'it returns false'. Refute it at one input. -/
def dagOthersWrong : ChangeSpec := { name := "dagOthers", fn := fun _ => fun
  | [d1, d2, d3, d4] => { results := [.lit (.bool false)], args := [d1, d2, d3, d4] }
  | _ => none }
def DagOthersWrongFalsely : Prop := dagOthersRow.holds Try.pinned (OpenSpec.ofChange dagOthersWrong)

/-- 'apographlaw05.DagPaths': WHATEVER THE INPUT: true; the input reads as it did. -/
def dagPathsSpec : ChangeSpec := { name := "dagPaths", fn := fun _ => fun
  | [d1, d2, d3, d4, d5, d6] => { results := [.lit (.bool true)], args := [d1, d2, d3, d4, d5, d6] }
  | _ => none }
def dagPathsRow : OpenClaim := { program := "ytebmachppbpdmaa", sum := "cacf7c95f30531d02b8cf64a641b2b1d20f4fb58d4f167861cd8e615f53dff39", func := "apograph/apographlaw05.DagPaths", spec := "dagPaths", unfollowed := true, recurses := true, apart := false }
def DagPathsSaid : Prop := dagPathsRow.holds Try.pinned (OpenSpec.ofChange dagPathsSpec)

/-- ITS FALSE NEIGHBOUR: 'it returns false'. Refute it at one input. -/
def dagPathsWrong : ChangeSpec := { name := "dagPaths", fn := fun _ => fun
  | [d1, d2, d3, d4, d5, d6] => { results := [.lit (.bool false)], args := [d1, d2, d3, d4, d5, d6] }
  | _ => none }
def DagPathsWrongFalsely : Prop := dagPathsRow.holds Try.pinned (OpenSpec.ofChange dagPathsWrong)

/-- 'apographlaw05.DagShortest': WHATEVER THE INPUT: true; the input reads as it did. -/
def dagShortestSpec : ChangeSpec := { name := "dagShortest", fn := fun _ => fun
  | [d1, d2, d3, d4] => { results := [.lit (.bool true)], args := [d1, d2, d3, d4] }
  | _ => none }
def dagShortestRow : OpenClaim := { program := "ytebmachppbpdmaa", sum := "cacf7c95f30531d02b8cf64a641b2b1d20f4fb58d4f167861cd8e615f53dff39", func := "apograph/apographlaw05.DagShortest", spec := "dagShortest", unfollowed := true, recurses := true, apart := false }
def DagShortestSaid : Prop := dagShortestRow.holds Try.pinned (OpenSpec.ofChange dagShortestSpec)

/-- ITS FALSE NEIGHBOUR: 'it returns false'. Refute it at one input. -/
def dagShortestWrong : ChangeSpec := { name := "dagShortest", fn := fun _ => fun
  | [d1, d2, d3, d4] => { results := [.lit (.bool false)], args := [d1, d2, d3, d4] }
  | _ => none }
def DagShortestWrongFalsely : Prop := dagShortestRow.holds Try.pinned (OpenSpec.ofChange dagShortestWrong)

/-- 'apographlaw05.DagVerifies': WHATEVER THE INPUT: true; the input reads as it did. -/
def dagVerifiesSpec : ChangeSpec := { name := "dagVerifies", fn := fun _ => fun
  | [d1, d2, d3, d4, d5, d6] => { results := [.lit (.bool true)], args := [d1, d2, d3, d4, d5, d6] }
  | _ => none }
def dagVerifiesRow : OpenClaim := { program := "ytebmachppbpdmaa", sum := "cacf7c95f30531d02b8cf64a641b2b1d20f4fb58d4f167861cd8e615f53dff39", func := "apograph/apographlaw05.DagVerifies", spec := "dagVerifies", unfollowed := true, recurses := true, apart := false }
def DagVerifiesSaid : Prop := dagVerifiesRow.holds Try.pinned (OpenSpec.ofChange dagVerifiesSpec)

/-- ITS FALSE NEIGHBOUR: 'it returns false'. Refute it at one input. -/
def dagVerifiesWrong : ChangeSpec := { name := "dagVerifies", fn := fun _ => fun
  | [d1, d2, d3, d4, d5, d6] => { results := [.lit (.bool false)], args := [d1, d2, d3, d4, d5, d6] }
  | _ => none }
def DagVerifiesWrongFalsely : Prop := dagVerifiesRow.holds Try.pinned (OpenSpec.ofChange dagVerifiesWrong)

/-- 'apographlaw05.DagCounts': WHATEVER THE INPUT: true; the input reads as it did. -/
def dagCountsSpec : ChangeSpec := { name := "dagCounts", fn := fun _ => fun
  | [d1, d2, d3, d4] => { results := [.lit (.bool true)], args := [d1, d2, d3, d4] }
  | _ => none }
def dagCountsRow : OpenClaim := { program := "ytebmachppbpdmaa", sum := "cacf7c95f30531d02b8cf64a641b2b1d20f4fb58d4f167861cd8e615f53dff39", func := "apograph/apographlaw05.DagCounts", spec := "dagCounts", unfollowed := true, recurses := true, apart := false }
def DagCountsSaid : Prop := dagCountsRow.holds Try.pinned (OpenSpec.ofChange dagCountsSpec)

/-- ITS FALSE NEIGHBOUR: 'it returns false'. Refute it at one input. -/
def dagCountsWrong : ChangeSpec := { name := "dagCounts", fn := fun _ => fun
  | [d1, d2, d3, d4] => { results := [.lit (.bool false)], args := [d1, d2, d3, d4] }
  | _ => none }
def DagCountsWrongFalsely : Prop := dagCountsRow.holds Try.pinned (OpenSpec.ofChange dagCountsWrong)

/- THE SECOND FORM. 'bulk': how many values and letters a reading holds, each counted each time it is reached (what is shared counts as often as it is met; a slice's spare places count too). A statement '..UptoSaid' is the law's where the arguments, and the package variables that the reading takes, are together of bulk at most 1048576: NARROWER than '..Said'. Prove '..Said' where nothing that the law and all that it calls make is longer than what came in: it says more and counts as full. Else prove '..UptoSaid'. A law counts once. -/
mutual
def uptoBulk {H : Type} : DataW H → Nat
  | .lit (.string bytes) => bytes.length + 1
  | .lit _ => 1
  | .nil => 1
  | .ptr d => uptoBulk d + 1
  | .slice elems spare => uptoBulkAll elems + uptoBulkAll spare + 1
  | .agg parts => uptoBulkAll parts + 1
  | .iface _ d => uptoBulk d + 1
  | .map entries => uptoBulkEntries entries + 1
  | .held _ => 1
def uptoBulkAll {H : Type} : List (DataW H) → Nat
  | [] => 0
  | d :: r => uptoBulk d + uptoBulkAll r
def uptoBulkEntries {H : Type} : List (Lit × DataW H) → Nat
  | [] => 0
  | x :: r => uptoBulkEntry x + uptoBulkEntries r
def uptoBulkEntry {H : Type} : Lit × DataW H → Nat
  | (.string bytes, d) => bytes.length + uptoBulk d + 1
  | (_, d) => uptoBulk d + 1
 end
def uptoSmall : (H : Type) → List (DataW H) → Bool := fun _ ds => decide (uptoBulkAll ds ≤ 1048576)
def OpenSpec.upto (s : _root_.Go.ChangeSpec) : _root_.Go.OpenSpec := { _root_.Go.OpenSpec.ofChange s with cond := some uptoSmall }

/-- 'apographlaw05.DagPotentials', WHERE WHAT IT READS IS OF BULK AT MOST 1048576: true; the input reads as it did. -/
def dagPotentialsUptoRow : OpenClaim := { program := "ytebmachppbpdmaa", sum := "cacf7c95f30531d02b8cf64a641b2b1d20f4fb58d4f167861cd8e615f53dff39", func := "apograph/apographlaw05.DagPotentials", spec := "dagPotentials", unfollowed := true, recurses := true, apart := false, narrowed := true }
def DagPotentialsUptoSaid : Prop := dagPotentialsUptoRow.holds Try.pinned (OpenSpec.upto dagPotentialsSpec)

/-- 'apographlaw05.DagLongest', WHERE WHAT IT READS IS OF BULK AT MOST 1048576: true; the input reads as it did. -/
def dagLongestUptoRow : OpenClaim := { program := "ytebmachppbpdmaa", sum := "cacf7c95f30531d02b8cf64a641b2b1d20f4fb58d4f167861cd8e615f53dff39", func := "apograph/apographlaw05.DagLongest", spec := "dagLongest", unfollowed := true, recurses := true, apart := false, narrowed := true }
def DagLongestUptoSaid : Prop := dagLongestUptoRow.holds Try.pinned (OpenSpec.upto dagLongestSpec)

/-- 'apographlaw05.DagMore', WHERE WHAT IT READS IS OF BULK AT MOST 1048576: true; the input reads as it did. -/
def dagMoreUptoRow : OpenClaim := { program := "ytebmachppbpdmaa", sum := "cacf7c95f30531d02b8cf64a641b2b1d20f4fb58d4f167861cd8e615f53dff39", func := "apograph/apographlaw05.DagMore", spec := "dagMore", unfollowed := true, recurses := true, apart := false, narrowed := true }
def DagMoreUptoSaid : Prop := dagMoreUptoRow.holds Try.pinned (OpenSpec.upto dagMoreSpec)

/-- 'apographlaw05.DagOthers', WHERE WHAT IT READS IS OF BULK AT MOST 1048576: true; the input reads as it did. -/
def dagOthersUptoRow : OpenClaim := { program := "ytebmachppbpdmaa", sum := "cacf7c95f30531d02b8cf64a641b2b1d20f4fb58d4f167861cd8e615f53dff39", func := "apograph/apographlaw05.DagOthers", spec := "dagOthers", unfollowed := true, recurses := true, apart := false, narrowed := true }
def DagOthersUptoSaid : Prop := dagOthersUptoRow.holds Try.pinned (OpenSpec.upto dagOthersSpec)

/-- 'apographlaw05.DagPaths', WHERE WHAT IT READS IS OF BULK AT MOST 1048576: true; the input reads as it did. -/
def dagPathsUptoRow : OpenClaim := { program := "ytebmachppbpdmaa", sum := "cacf7c95f30531d02b8cf64a641b2b1d20f4fb58d4f167861cd8e615f53dff39", func := "apograph/apographlaw05.DagPaths", spec := "dagPaths", unfollowed := true, recurses := true, apart := false, narrowed := true }
def DagPathsUptoSaid : Prop := dagPathsUptoRow.holds Try.pinned (OpenSpec.upto dagPathsSpec)

/-- 'apographlaw05.DagShortest', WHERE WHAT IT READS IS OF BULK AT MOST 1048576: true; the input reads as it did. -/
def dagShortestUptoRow : OpenClaim := { program := "ytebmachppbpdmaa", sum := "cacf7c95f30531d02b8cf64a641b2b1d20f4fb58d4f167861cd8e615f53dff39", func := "apograph/apographlaw05.DagShortest", spec := "dagShortest", unfollowed := true, recurses := true, apart := false, narrowed := true }
def DagShortestUptoSaid : Prop := dagShortestUptoRow.holds Try.pinned (OpenSpec.upto dagShortestSpec)

/-- 'apographlaw05.DagVerifies', WHERE WHAT IT READS IS OF BULK AT MOST 1048576: true; the input reads as it did. -/
def dagVerifiesUptoRow : OpenClaim := { program := "ytebmachppbpdmaa", sum := "cacf7c95f30531d02b8cf64a641b2b1d20f4fb58d4f167861cd8e615f53dff39", func := "apograph/apographlaw05.DagVerifies", spec := "dagVerifies", unfollowed := true, recurses := true, apart := false, narrowed := true }
def DagVerifiesUptoSaid : Prop := dagVerifiesUptoRow.holds Try.pinned (OpenSpec.upto dagVerifiesSpec)

/-- 'apographlaw05.DagCounts', WHERE WHAT IT READS IS OF BULK AT MOST 1048576: true; the input reads as it did. -/
def dagCountsUptoRow : OpenClaim := { program := "ytebmachppbpdmaa", sum := "cacf7c95f30531d02b8cf64a641b2b1d20f4fb58d4f167861cd8e615f53dff39", func := "apograph/apographlaw05.DagCounts", spec := "dagCounts", unfollowed := true, recurses := true, apart := false, narrowed := true }
def DagCountsUptoSaid : Prop := dagCountsUptoRow.holds Try.pinned (OpenSpec.upto dagCountsSpec)

end Rows
end Go.Proofs.Ytebmachppbpdmaa
