/-
  DERIVED. GIVEN WITH THE SEED: THE CARDS: each row of YtbjanlmnmeegnaaDoorRows.lean that lists a variable, with what it lists TIED to the program's text (the seventh form; the later family's looks); each row that meets fmt, with fmt's text TOLD by the authors' own Lean function (tested against real Go, not proved from fmt's source: count such statements apart). THE CARD IS WHAT COUNTS. Prove the row's statement (the work); the ties are given (YtbjanlmnmeegnaaDoorTie.lean); close each card by the builder's one call (the guide's Derived/Test/ToyasCard.lean, 'card_holds'). Laid BY PROGRAM, IN A SANDBOX (cutbox-door.mjs). By AI agents, Wed Nov 11 2026. No macro, syntax, notation, axiom, sorry.
-/
import Derived.Test.YtbjanlmnmeegnaaDoorRows
import GoSem.ClaimSeven
namespace Go.Proofs.YtbjanlmnmeegnaaDoor
namespace Rows

/-- THE TIED CARD OF 'apographtop.TopHandsStepwise'. -/
def topHandsStepwiseCard : Claim7 := { stood := { row := topHandsStepwiseRow, standIns := [], harness := (true, "f92a689eabe986f41267dc94f2ae9b1f8b1f79ae0817b4eb57c2f0e3c21bcae1"), looks := false }, kinds := [], alts := [], laidByText := true, laidKinds := [.data, .data, .data, .widerDeep], laidTests := true, laidLooks := .later }
def TopHandsStepwiseCardSaid : Prop := Claim7.holds Tryd.pinned (.plain (OpenSpec.ofChange topHandsStepwiseSpec)) topHandsStepwiseCard

/-- THE SECOND FORM's CARD OF 'apographtop.TopHandsStepwise'. -/
def topHandsStepwiseUptoCard : Claim7 := { stood := { row := topHandsStepwiseUptoRow, standIns := [], harness := (true, "f92a689eabe986f41267dc94f2ae9b1f8b1f79ae0817b4eb57c2f0e3c21bcae1"), looks := false }, kinds := [], alts := [], laidByText := true, laidKinds := [.data, .data, .data, .widerDeep], laidTests := true, laidLooks := .later }
def TopHandsStepwiseUptoCardSaid : Prop := Claim7.holds Tryd.pinned (.plain (OpenSpec.upto topHandsStepwiseSpec)) topHandsStepwiseUptoCard
end Rows
end Go.Proofs.YtbjanlmnmeegnaaDoor
