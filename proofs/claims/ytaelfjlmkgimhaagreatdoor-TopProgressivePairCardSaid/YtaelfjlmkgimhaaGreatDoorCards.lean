/-
  DERIVED. GIVEN WITH THE SEED: THE CARDS: each row of YtaelfjlmkgimhaaGreatDoorRows.lean that lists a variable, with what it lists TIED to the program's text (the seventh form; the later family's looks); each row that meets fmt, with fmt's text TOLD by the authors' own Lean function (tested against real Go, not proved from fmt's source: count such statements apart). THE CARD IS WHAT COUNTS. Prove the row's statement (the work); the ties are given (YtaelfjlmkgimhaaGreatDoorTie.lean); close each card by the builder's one call (the guide's Derived/Test/ToyasCard.lean, 'card_holds'). Laid BY PROGRAM, IN A SANDBOX (cutbox-door.mjs). By AI agents, Wed Nov 11 2026. No macro, syntax, notation, axiom, sorry.
-/
import Derived.Test.YtaelfjlmkgimhaaGreatDoorRows
import GoSem.ClaimSeven
namespace Go.Proofs.YtaelfjlmkgimhaaGreatDoor
namespace Rows

/-- THE TIED CARD OF 'apographtop.TopProgressivePair'. -/
def topProgressivePairCard : Claim7 := { stood := { row := topProgressivePairRow, standIns := [], harness := (true, "dc830a637af6c3ab29b4cbfe2705028a1e744038fe3c7c2da7593ea51ef35c52"), looks := true }, kinds := [], alts := [], laidByText := true, laidKinds := [.data, .data, .data, .sentinel, .sentinel], laidTests := true, laidLooks := .later }
def TopProgressivePairCardSaid : Prop := Claim7.holds Tryz.pinned (.plain (OpenSpec.ofChange topProgressivePairSpec)) topProgressivePairCard

/-- THE SECOND FORM's CARD OF 'apographtop.TopProgressivePair'. -/
def topProgressivePairUptoCard : Claim7 := { stood := { row := topProgressivePairUptoRow, standIns := [], harness := (true, "dc830a637af6c3ab29b4cbfe2705028a1e744038fe3c7c2da7593ea51ef35c52"), looks := true }, kinds := [], alts := [], laidByText := true, laidKinds := [.data, .data, .data, .sentinel, .sentinel], laidTests := true, laidLooks := .later }
def TopProgressivePairUptoCardSaid : Prop := Claim7.holds Tryz.pinned (.plain (OpenSpec.upto topProgressivePairSpec)) topProgressivePairUptoCard
end Rows
end Go.Proofs.YtaelfjlmkgimhaaGreatDoor
