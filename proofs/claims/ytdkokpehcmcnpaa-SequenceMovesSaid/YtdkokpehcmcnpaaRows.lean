/-
  No cell of these rows narrows 'for every input' (looked for: loops, veiled, ifaces, maps, wideKeys, modest, calm, conditions, laid).
  DERIVED. THE GIVEN ROWS OF THIS SEAT. 8 by the template 'for every input the law returns true; each argument reads behind the call as it read before'; 0 by the template 'total and deterministic' (their statements: YtdkokpehcmcnpaaTotals.lean).
  GIVEN WITH THE SEED: the statements are not yours to turn. If you find one false, say at which input.
  Laid BY PROGRAM, IN A SANDBOX (cutbox-rows.mjs): the forced cells as the released guide's own fill.sh prints them over the translation ec59855e07a85a68… (all of the seat's roots in one cut). By AI agents, Wed Nov 11 2026. No macro, syntax, notation, axiom, sorry.
-/
import Derived.Test.YtdkokpehcmcnpaaChecked
import GoSem.Claim
import GoSem.ClaimJoined
import GoSem.ClaimMapViews
import Derived.JoinedTies
import Derived.KernelRfl
namespace Go.Proofs.Ytdkokpehcmcnpaa
/- THE CELL 'sum', in the pinned program and in every row, IS THE sha256 OF THE DUMP (.gsa) THAT YtdkokpehcmcnpaaProg.lean LOADS. Nothing in Lean hashes anything: it is a label: what it is worth is what the hold of that sum in a sandbox is worth. -/
noncomputable def Try.pinned : Pinned := { name := "ytdkokpehcmcnpaa", sum := "ec59855e07a85a6880939ef8a0d66b5ebcb801e3394e67ac114c092f6efc648f", checked := Try.checked }
namespace Rows
def none {H : Type} : Left H := { results := [], args := [] }

/-- 'apographlaw08.SequenceRuns': WHATEVER THE INPUT: true; the input reads as it did. -/
def sequenceRunsSpec : ChangeSpec := { name := "sequenceRuns", fn := fun _ => fun
  | [d] => { results := [.lit (.bool true)], args := [d] }
  | _ => none }
def sequenceRunsRow : OpenClaim := { program := "ytdkokpehcmcnpaa", sum := "ec59855e07a85a6880939ef8a0d66b5ebcb801e3394e67ac114c092f6efc648f", func := "apograph/apographlaw08.SequenceRuns", spec := "sequenceRuns", unfollowed := true, recurses := true, apart := false }
def SequenceRunsSaid : Prop := sequenceRunsRow.holds Try.pinned (OpenSpec.ofChange sequenceRunsSpec)

/-- ITS FALSE NEIGHBOUR: 'it returns false'. Refute it at one input. -/
def sequenceRunsWrong : ChangeSpec := { name := "sequenceRuns", fn := fun _ => fun
  | [d] => { results := [.lit (.bool false)], args := [d] }
  | _ => none }
def SequenceRunsWrongFalsely : Prop := sequenceRunsRow.holds Try.pinned (OpenSpec.ofChange sequenceRunsWrong)

/-- 'apographlaw08.SequenceFinds': WHATEVER THE INPUT: true; the input reads as it did. -/
def sequenceFindsSpec : ChangeSpec := { name := "sequenceFinds", fn := fun _ => fun
  | [d] => { results := [.lit (.bool true)], args := [d] }
  | _ => none }
def sequenceFindsRow : OpenClaim := { program := "ytdkokpehcmcnpaa", sum := "ec59855e07a85a6880939ef8a0d66b5ebcb801e3394e67ac114c092f6efc648f", func := "apograph/apographlaw08.SequenceFinds", spec := "sequenceFinds", unfollowed := true, recurses := true, apart := false }
def SequenceFindsSaid : Prop := sequenceFindsRow.holds Try.pinned (OpenSpec.ofChange sequenceFindsSpec)

/-- ITS FALSE NEIGHBOUR: 'it returns false'. Refute it at one input. -/
def sequenceFindsWrong : ChangeSpec := { name := "sequenceFinds", fn := fun _ => fun
  | [d] => { results := [.lit (.bool false)], args := [d] }
  | _ => none }
def SequenceFindsWrongFalsely : Prop := sequenceFindsRow.holds Try.pinned (OpenSpec.ofChange sequenceFindsWrong)

/-- 'apographlaw08.SequenceInversions': WHATEVER THE INPUT: true; the input reads as it did. -/
def sequenceInversionsSpec : ChangeSpec := { name := "sequenceInversions", fn := fun _ => fun
  | [d] => { results := [.lit (.bool true)], args := [d] }
  | _ => none }
def sequenceInversionsRow : OpenClaim := { program := "ytdkokpehcmcnpaa", sum := "ec59855e07a85a6880939ef8a0d66b5ebcb801e3394e67ac114c092f6efc648f", func := "apograph/apographlaw08.SequenceInversions", spec := "sequenceInversions", unfollowed := true, recurses := true, apart := false }
def SequenceInversionsSaid : Prop := sequenceInversionsRow.holds Try.pinned (OpenSpec.ofChange sequenceInversionsSpec)

/-- ITS FALSE NEIGHBOUR: 'it returns false'. Refute it at one input. -/
def sequenceInversionsWrong : ChangeSpec := { name := "sequenceInversions", fn := fun _ => fun
  | [d] => { results := [.lit (.bool false)], args := [d] }
  | _ => none }
def SequenceInversionsWrongFalsely : Prop := sequenceInversionsRow.holds Try.pinned (OpenSpec.ofChange sequenceInversionsWrong)

/-- 'apographlaw08.SequenceLongest': WHATEVER THE INPUT: true; the input reads as it did. -/
def sequenceLongestSpec : ChangeSpec := { name := "sequenceLongest", fn := fun _ => fun
  | [d1, d2] => { results := [.lit (.bool true)], args := [d1, d2] }
  | _ => none }
def sequenceLongestRow : OpenClaim := { program := "ytdkokpehcmcnpaa", sum := "ec59855e07a85a6880939ef8a0d66b5ebcb801e3394e67ac114c092f6efc648f", func := "apograph/apographlaw08.SequenceLongest", spec := "sequenceLongest", unfollowed := true, recurses := true, apart := false }
def SequenceLongestSaid : Prop := sequenceLongestRow.holds Try.pinned (OpenSpec.ofChange sequenceLongestSpec)

/-- ITS FALSE NEIGHBOUR: 'it returns false'. Refute it at one input. -/
def sequenceLongestWrong : ChangeSpec := { name := "sequenceLongest", fn := fun _ => fun
  | [d1, d2] => { results := [.lit (.bool false)], args := [d1, d2] }
  | _ => none }
def SequenceLongestWrongFalsely : Prop := sequenceLongestRow.holds Try.pinned (OpenSpec.ofChange sequenceLongestWrong)

/-- 'apographlaw08.SequenceWeights': WHATEVER THE INPUT: true; the input reads as it did. -/
def sequenceWeightsSpec : ChangeSpec := { name := "sequenceWeights", fn := fun _ => fun
  | [d1, d2, d3] => { results := [.lit (.bool true)], args := [d1, d2, d3] }
  | _ => none }
def sequenceWeightsRow : OpenClaim := { program := "ytdkokpehcmcnpaa", sum := "ec59855e07a85a6880939ef8a0d66b5ebcb801e3394e67ac114c092f6efc648f", func := "apograph/apographlaw08.SequenceWeights", spec := "sequenceWeights", unfollowed := true, recurses := true, apart := false }
def SequenceWeightsSaid : Prop := sequenceWeightsRow.holds Try.pinned (OpenSpec.ofChange sequenceWeightsSpec)

/-- ITS FALSE NEIGHBOUR: 'it returns false'. Refute it at one input. -/
def sequenceWeightsWrong : ChangeSpec := { name := "sequenceWeights", fn := fun _ => fun
  | [d1, d2, d3] => { results := [.lit (.bool false)], args := [d1, d2, d3] }
  | _ => none }
def SequenceWeightsWrongFalsely : Prop := sequenceWeightsRow.holds Try.pinned (OpenSpec.ofChange sequenceWeightsWrong)

/-- 'apographlaw08.SequenceHeavy': WHATEVER THE INPUT: true; the input reads as it did. -/
def sequenceHeavySpec : ChangeSpec := { name := "sequenceHeavy", fn := fun _ => fun
  | [d1, d2, d3, d4] => { results := [.lit (.bool true)], args := [d1, d2, d3, d4] }
  | _ => none }
def sequenceHeavyRow : OpenClaim := { program := "ytdkokpehcmcnpaa", sum := "ec59855e07a85a6880939ef8a0d66b5ebcb801e3394e67ac114c092f6efc648f", func := "apograph/apographlaw08.SequenceHeavy", spec := "sequenceHeavy", unfollowed := true, recurses := true, apart := false }
def SequenceHeavySaid : Prop := sequenceHeavyRow.holds Try.pinned (OpenSpec.ofChange sequenceHeavySpec)

/-- ITS FALSE NEIGHBOUR: 'it returns false'. Refute it at one input. -/
def sequenceHeavyWrong : ChangeSpec := { name := "sequenceHeavy", fn := fun _ => fun
  | [d1, d2, d3, d4] => { results := [.lit (.bool false)], args := [d1, d2, d3, d4] }
  | _ => none }
def SequenceHeavyWrongFalsely : Prop := sequenceHeavyRow.holds Try.pinned (OpenSpec.ofChange sequenceHeavyWrong)

/-- 'apographlaw08.SequenceProofs': WHATEVER THE INPUT: true; the input reads as it did. -/
def sequenceProofsSpec : ChangeSpec := { name := "sequenceProofs", fn := fun _ => fun
  | [d1, d2, d3] => { results := [.lit (.bool true)], args := [d1, d2, d3] }
  | _ => none }
def sequenceProofsRow : OpenClaim := { program := "ytdkokpehcmcnpaa", sum := "ec59855e07a85a6880939ef8a0d66b5ebcb801e3394e67ac114c092f6efc648f", func := "apograph/apographlaw08.SequenceProofs", spec := "sequenceProofs", unfollowed := true, recurses := true, apart := false }
def SequenceProofsSaid : Prop := sequenceProofsRow.holds Try.pinned (OpenSpec.ofChange sequenceProofsSpec)

/-- ITS FALSE NEIGHBOUR: 'it returns false'. Refute it at one input. -/
def sequenceProofsWrong : ChangeSpec := { name := "sequenceProofs", fn := fun _ => fun
  | [d1, d2, d3] => { results := [.lit (.bool false)], args := [d1, d2, d3] }
  | _ => none }
def SequenceProofsWrongFalsely : Prop := sequenceProofsRow.holds Try.pinned (OpenSpec.ofChange sequenceProofsWrong)

/-- 'apographlaw08.SequenceMoves': WHATEVER THE INPUT: true; the input reads as it did. -/
def sequenceMovesSpec : ChangeSpec := { name := "sequenceMoves", fn := fun _ => fun
  | [d1, d2, d3] => { results := [.lit (.bool true)], args := [d1, d2, d3] }
  | _ => none }
def sequenceMovesRow : OpenClaim := { program := "ytdkokpehcmcnpaa", sum := "ec59855e07a85a6880939ef8a0d66b5ebcb801e3394e67ac114c092f6efc648f", func := "apograph/apographlaw08.SequenceMoves", spec := "sequenceMoves", inPlace := ["slices.overlaps[int]"], unfollowed := true, recurses := true, apart := false }
def SequenceMovesSaid : Prop := sequenceMovesRow.holds Try.pinned (OpenSpec.ofChange sequenceMovesSpec)

/-- ITS FALSE NEIGHBOUR: 'it returns false'. Refute it at one input. -/
def sequenceMovesWrong : ChangeSpec := { name := "sequenceMoves", fn := fun _ => fun
  | [d1, d2, d3] => { results := [.lit (.bool false)], args := [d1, d2, d3] }
  | _ => none }
def SequenceMovesWrongFalsely : Prop := sequenceMovesRow.holds Try.pinned (OpenSpec.ofChange sequenceMovesWrong)

/- THE SECOND FORM. 'bulk': how many values and letters a reading holds, each counted each time it is reached (what is shared counts as often as it is met; a slice's spare places count too). A statement '..UptoSaid' is the law's where the arguments, and the package variables that the reading takes, are together of bulk at most 1048576: NARROWER than '..Said'. Prove '..Said' where nothing that the law and all that it calls make is longer than what came in: it says more and counts as full. Else prove '..UptoSaid'. A law counts once. -/
mutual
def uptoBulk {H : Type} : DataW H → Nat
  | .lit (.string bytes) => bytes.length + 1
  | .lit _ => 1
  | .nil => 1
  | .ptr d => uptoBulk d + 1
  | .slice elems spare => uptoBulkAll elems + uptoBulkAll spare + 1
  | .agg parts => uptoBulkAll parts + 1
  | .iface _ d => uptoBulk d + 1
  | .map entries => uptoBulkEntries entries + 1
  | .held _ => 1
def uptoBulkAll {H : Type} : List (DataW H) → Nat
  | [] => 0
  | d :: r => uptoBulk d + uptoBulkAll r
def uptoBulkEntries {H : Type} : List (Lit × DataW H) → Nat
  | [] => 0
  | x :: r => uptoBulkEntry x + uptoBulkEntries r
def uptoBulkEntry {H : Type} : Lit × DataW H → Nat
  | (.string bytes, d) => bytes.length + uptoBulk d + 1
  | (_, d) => uptoBulk d + 1
 end
def uptoSmall : (H : Type) → List (DataW H) → Bool := fun _ ds => decide (uptoBulkAll ds ≤ 1048576)
def OpenSpec.upto (s : _root_.Go.ChangeSpec) : _root_.Go.OpenSpec := { _root_.Go.OpenSpec.ofChange s with cond := some uptoSmall }

/-- 'apographlaw08.SequenceRuns', WHERE WHAT IT READS IS OF BULK AT MOST 1048576: true; the input reads as it did. -/
def sequenceRunsUptoRow : OpenClaim := { program := "ytdkokpehcmcnpaa", sum := "ec59855e07a85a6880939ef8a0d66b5ebcb801e3394e67ac114c092f6efc648f", func := "apograph/apographlaw08.SequenceRuns", spec := "sequenceRuns", unfollowed := true, recurses := true, apart := false, narrowed := true }
def SequenceRunsUptoSaid : Prop := sequenceRunsUptoRow.holds Try.pinned (OpenSpec.upto sequenceRunsSpec)

/-- 'apographlaw08.SequenceFinds', WHERE WHAT IT READS IS OF BULK AT MOST 1048576: true; the input reads as it did. -/
def sequenceFindsUptoRow : OpenClaim := { program := "ytdkokpehcmcnpaa", sum := "ec59855e07a85a6880939ef8a0d66b5ebcb801e3394e67ac114c092f6efc648f", func := "apograph/apographlaw08.SequenceFinds", spec := "sequenceFinds", unfollowed := true, recurses := true, apart := false, narrowed := true }
def SequenceFindsUptoSaid : Prop := sequenceFindsUptoRow.holds Try.pinned (OpenSpec.upto sequenceFindsSpec)

/-- 'apographlaw08.SequenceInversions', WHERE WHAT IT READS IS OF BULK AT MOST 1048576: true; the input reads as it did. -/
def sequenceInversionsUptoRow : OpenClaim := { program := "ytdkokpehcmcnpaa", sum := "ec59855e07a85a6880939ef8a0d66b5ebcb801e3394e67ac114c092f6efc648f", func := "apograph/apographlaw08.SequenceInversions", spec := "sequenceInversions", unfollowed := true, recurses := true, apart := false, narrowed := true }
def SequenceInversionsUptoSaid : Prop := sequenceInversionsUptoRow.holds Try.pinned (OpenSpec.upto sequenceInversionsSpec)

/-- 'apographlaw08.SequenceLongest', WHERE WHAT IT READS IS OF BULK AT MOST 1048576: true; the input reads as it did. -/
def sequenceLongestUptoRow : OpenClaim := { program := "ytdkokpehcmcnpaa", sum := "ec59855e07a85a6880939ef8a0d66b5ebcb801e3394e67ac114c092f6efc648f", func := "apograph/apographlaw08.SequenceLongest", spec := "sequenceLongest", unfollowed := true, recurses := true, apart := false, narrowed := true }
def SequenceLongestUptoSaid : Prop := sequenceLongestUptoRow.holds Try.pinned (OpenSpec.upto sequenceLongestSpec)

/-- 'apographlaw08.SequenceWeights', WHERE WHAT IT READS IS OF BULK AT MOST 1048576: true; the input reads as it did. -/
def sequenceWeightsUptoRow : OpenClaim := { program := "ytdkokpehcmcnpaa", sum := "ec59855e07a85a6880939ef8a0d66b5ebcb801e3394e67ac114c092f6efc648f", func := "apograph/apographlaw08.SequenceWeights", spec := "sequenceWeights", unfollowed := true, recurses := true, apart := false, narrowed := true }
def SequenceWeightsUptoSaid : Prop := sequenceWeightsUptoRow.holds Try.pinned (OpenSpec.upto sequenceWeightsSpec)

/-- 'apographlaw08.SequenceHeavy', WHERE WHAT IT READS IS OF BULK AT MOST 1048576: true; the input reads as it did. -/
def sequenceHeavyUptoRow : OpenClaim := { program := "ytdkokpehcmcnpaa", sum := "ec59855e07a85a6880939ef8a0d66b5ebcb801e3394e67ac114c092f6efc648f", func := "apograph/apographlaw08.SequenceHeavy", spec := "sequenceHeavy", unfollowed := true, recurses := true, apart := false, narrowed := true }
def SequenceHeavyUptoSaid : Prop := sequenceHeavyUptoRow.holds Try.pinned (OpenSpec.upto sequenceHeavySpec)

/-- 'apographlaw08.SequenceProofs', WHERE WHAT IT READS IS OF BULK AT MOST 1048576: true; the input reads as it did. -/
def sequenceProofsUptoRow : OpenClaim := { program := "ytdkokpehcmcnpaa", sum := "ec59855e07a85a6880939ef8a0d66b5ebcb801e3394e67ac114c092f6efc648f", func := "apograph/apographlaw08.SequenceProofs", spec := "sequenceProofs", unfollowed := true, recurses := true, apart := false, narrowed := true }
def SequenceProofsUptoSaid : Prop := sequenceProofsUptoRow.holds Try.pinned (OpenSpec.upto sequenceProofsSpec)

/-- 'apographlaw08.SequenceMoves', WHERE WHAT IT READS IS OF BULK AT MOST 1048576: true; the input reads as it did. -/
def sequenceMovesUptoRow : OpenClaim := { program := "ytdkokpehcmcnpaa", sum := "ec59855e07a85a6880939ef8a0d66b5ebcb801e3394e67ac114c092f6efc648f", func := "apograph/apographlaw08.SequenceMoves", spec := "sequenceMoves", inPlace := ["slices.overlaps[int]"], unfollowed := true, recurses := true, apart := false, narrowed := true }
def SequenceMovesUptoSaid : Prop := sequenceMovesUptoRow.holds Try.pinned (OpenSpec.upto sequenceMovesSpec)

end Rows
end Go.Proofs.Ytdkokpehcmcnpaa
