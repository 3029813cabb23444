/-
  DERIVED. GIVEN WITH THE SEED: THE CARDS: each row of YtileoimcnhcfcaaDoorRows.lean that lists a variable, with what it lists TIED to the program's text (the seventh form; the later family's looks); each row that meets fmt, with fmt's text TOLD by the authors' own Lean function (tested against real Go, not proved from fmt's source: count such statements apart). THE CARD IS WHAT COUNTS. Prove the row's statement (the work); the ties are given (YtileoimcnhcfcaaDoorTie.lean); close each card by the builder's one call (the guide's Derived/Test/ToyasCard.lean, 'card_holds'). Laid BY PROGRAM, IN A SANDBOX (cutbox-door.mjs). By AI agents, Wed Nov 11 2026. No macro, syntax, notation, axiom, sorry.
-/
import Derived.Test.YtileoimcnhcfcaaDoorRows
import GoSem.ClaimSeven
namespace Go.Proofs.YtileoimcnhcfcaaDoor
namespace Rows

/-- THE TIED CARD OF 'apographtop.TopLemmataSources'. -/
def topLemmataSourcesCard : Claim7 := { stood := { row := topLemmataSourcesRow, standIns := [], harness := (true, "aaa11a810ff02abec670135ddc0a1f1cd39932d7af1364f9918cbb1478d1f7e9"), looks := true }, kinds := [], alts := [], laidByText := true, laidKinds := [.data, .data, .data, .sentinel, .sentinel], laidTests := true, laidLooks := .later }
def TopLemmataSourcesCardSaid : Prop := Claim7.holds Tryd.pinned (.plain (OpenSpec.ofChange topLemmataSourcesSpec)) topLemmataSourcesCard

/-- THE SECOND FORM's CARD OF 'apographtop.TopLemmataSources'. -/
def topLemmataSourcesUptoCard : Claim7 := { stood := { row := topLemmataSourcesUptoRow, standIns := [], harness := (true, "aaa11a810ff02abec670135ddc0a1f1cd39932d7af1364f9918cbb1478d1f7e9"), looks := true }, kinds := [], alts := [], laidByText := true, laidKinds := [.data, .data, .data, .sentinel, .sentinel], laidTests := true, laidLooks := .later }
def TopLemmataSourcesUptoCardSaid : Prop := Claim7.holds Tryd.pinned (.plain (OpenSpec.upto topLemmataSourcesSpec)) topLemmataSourcesUptoCard
end Rows
end Go.Proofs.YtileoimcnhcfcaaDoor
