/-
  DERIVED. GIVEN WITH THE SEED: THE CARDS: each row of YtancjkaoocgeeaaDoorRows.lean that lists a variable, with what it lists TIED to the program's text (the seventh form; the later family's looks); each row that meets fmt, with fmt's text TOLD by the authors' own Lean function (tested against real Go, not proved from fmt's source: count such statements apart). THE CARD IS WHAT COUNTS. Prove the row's statement (the work); the ties are given (YtancjkaoocgeeaaDoorTie.lean); close each card by the builder's one call (the guide's Derived/Test/ToyasCard.lean, 'card_holds'). Laid BY PROGRAM, IN A SANDBOX (cutbox-door.mjs). By AI agents, Wed Nov 11 2026. No macro, syntax, notation, axiom, sorry.
-/
import Derived.Test.YtancjkaoocgeeaaDoorRows
import GoSem.ClaimSeven
namespace Go.Proofs.YtancjkaoocgeeaaDoor
namespace Rows

/-- THE TIED CARD OF 'apographlaw06.CodecValues'. -/
def codecValuesCard : Claim7 := { stood := { row := codecValuesRow, standIns := [], harness := (true, "53b0125357d74ec1394a3c9e19330d5d63df736bf3c80e9e43962ac4710268d0"), looks := true }, kinds := [], alts := [], laidByText := true, laidKinds := [.data, .data, .data, .sentinel, .sentinel], laidTests := true, laidLooks := .later }
def CodecValuesCardSaid : Prop := Claim7.holds Tryd.pinned (.plain (OpenSpec.ofChange codecValuesSpec)) codecValuesCard

/-- THE TIED CARD OF 'apographlaw06.CodecCanonical'. -/
def codecCanonicalCard : Claim7 := { stood := { row := codecCanonicalRow, standIns := [], harness := (true, "53b0125357d74ec1394a3c9e19330d5d63df736bf3c80e9e43962ac4710268d0"), looks := true }, kinds := [], alts := [], laidByText := true, laidKinds := [.data, .data, .data, .sentinel, .sentinel], laidTests := true, laidLooks := .later }
def CodecCanonicalCardSaid : Prop := Claim7.holds Tryd.pinned (.plain (OpenSpec.ofChange codecCanonicalSpec)) codecCanonicalCard

/-- THE TIED CARD OF 'apographlaw06.CodecReads'. -/
def codecReadsCard : Claim7 := { stood := { row := codecReadsRow, standIns := [], harness := (true, "53b0125357d74ec1394a3c9e19330d5d63df736bf3c80e9e43962ac4710268d0"), looks := true }, kinds := [], alts := [], laidByText := true, laidKinds := [.data, .data, .data, .sentinel, .sentinel], laidTests := true, laidLooks := .later }
def CodecReadsCardSaid : Prop := Claim7.holds Tryd.pinned (.plain (OpenSpec.ofChange codecReadsSpec)) codecReadsCard

/-- THE TIED CARD OF 'apographlaw06.CodecBack'. -/
def codecBackCard : Claim7 := { stood := { row := codecBackRow, standIns := [], harness := (true, "53b0125357d74ec1394a3c9e19330d5d63df736bf3c80e9e43962ac4710268d0"), looks := true }, kinds := [], alts := [], laidByText := true, laidKinds := [.data, .data, .data, .sentinel, .sentinel], laidTests := true, laidLooks := .later }
def CodecBackCardSaid : Prop := Claim7.holds Tryd.pinned (.plain (OpenSpec.ofChange codecBackSpec)) codecBackCard

/-- THE TIED CARD OF 'apographlaw06.CodecLists'. -/
def codecListsCard : Claim7 := { stood := { row := codecListsRow, standIns := [], harness := (true, "53b0125357d74ec1394a3c9e19330d5d63df736bf3c80e9e43962ac4710268d0"), looks := true }, kinds := [], alts := [], laidByText := true, laidKinds := [.data, .data, .data, .sentinel, .sentinel], laidTests := true, laidLooks := .later }
def CodecListsCardSaid : Prop := Claim7.holds Tryd.pinned (.plain (OpenSpec.ofChange codecListsSpec)) codecListsCard

/-- THE TIED CARD OF 'apographlaw06.CodecPrefixes'. -/
def codecPrefixesCard : Claim7 := { stood := { row := codecPrefixesRow, standIns := [], harness := (true, "53b0125357d74ec1394a3c9e19330d5d63df736bf3c80e9e43962ac4710268d0"), looks := true }, kinds := [], alts := [], laidByText := true, laidKinds := [.data, .data, .data, .sentinel, .sentinel], laidTests := true, laidLooks := .later }
def CodecPrefixesCardSaid : Prop := Claim7.holds Tryd.pinned (.plain (OpenSpec.ofChange codecPrefixesSpec)) codecPrefixesCard

/-- THE TIED CARD OF 'apographlaw06.CodecSame'. -/
def codecSameCard : Claim7 := { stood := { row := codecSameRow, standIns := [], harness := (true, "53b0125357d74ec1394a3c9e19330d5d63df736bf3c80e9e43962ac4710268d0"), looks := true }, kinds := [], alts := [], laidByText := true, laidKinds := [.data, .data, .data, .sentinel, .sentinel], laidTests := true, laidLooks := .later }
def CodecSameCardSaid : Prop := Claim7.holds Tryd.pinned (.plain (OpenSpec.ofChange codecSameSpec)) codecSameCard

/-- THE SECOND FORM's CARD OF 'apographlaw06.CodecValues'. -/
def codecValuesUptoCard : Claim7 := { stood := { row := codecValuesUptoRow, standIns := [], harness := (true, "53b0125357d74ec1394a3c9e19330d5d63df736bf3c80e9e43962ac4710268d0"), looks := true }, kinds := [], alts := [], laidByText := true, laidKinds := [.data, .data, .data, .sentinel, .sentinel], laidTests := true, laidLooks := .later }
def CodecValuesUptoCardSaid : Prop := Claim7.holds Tryd.pinned (.plain (OpenSpec.upto codecValuesSpec)) codecValuesUptoCard

/-- THE SECOND FORM's CARD OF 'apographlaw06.CodecCanonical'. -/
def codecCanonicalUptoCard : Claim7 := { stood := { row := codecCanonicalUptoRow, standIns := [], harness := (true, "53b0125357d74ec1394a3c9e19330d5d63df736bf3c80e9e43962ac4710268d0"), looks := true }, kinds := [], alts := [], laidByText := true, laidKinds := [.data, .data, .data, .sentinel, .sentinel], laidTests := true, laidLooks := .later }
def CodecCanonicalUptoCardSaid : Prop := Claim7.holds Tryd.pinned (.plain (OpenSpec.upto codecCanonicalSpec)) codecCanonicalUptoCard

/-- THE SECOND FORM's CARD OF 'apographlaw06.CodecReads'. -/
def codecReadsUptoCard : Claim7 := { stood := { row := codecReadsUptoRow, standIns := [], harness := (true, "53b0125357d74ec1394a3c9e19330d5d63df736bf3c80e9e43962ac4710268d0"), looks := true }, kinds := [], alts := [], laidByText := true, laidKinds := [.data, .data, .data, .sentinel, .sentinel], laidTests := true, laidLooks := .later }
def CodecReadsUptoCardSaid : Prop := Claim7.holds Tryd.pinned (.plain (OpenSpec.upto codecReadsSpec)) codecReadsUptoCard

/-- THE SECOND FORM's CARD OF 'apographlaw06.CodecBack'. -/
def codecBackUptoCard : Claim7 := { stood := { row := codecBackUptoRow, standIns := [], harness := (true, "53b0125357d74ec1394a3c9e19330d5d63df736bf3c80e9e43962ac4710268d0"), looks := true }, kinds := [], alts := [], laidByText := true, laidKinds := [.data, .data, .data, .sentinel, .sentinel], laidTests := true, laidLooks := .later }
def CodecBackUptoCardSaid : Prop := Claim7.holds Tryd.pinned (.plain (OpenSpec.upto codecBackSpec)) codecBackUptoCard

/-- THE SECOND FORM's CARD OF 'apographlaw06.CodecLists'. -/
def codecListsUptoCard : Claim7 := { stood := { row := codecListsUptoRow, standIns := [], harness := (true, "53b0125357d74ec1394a3c9e19330d5d63df736bf3c80e9e43962ac4710268d0"), looks := true }, kinds := [], alts := [], laidByText := true, laidKinds := [.data, .data, .data, .sentinel, .sentinel], laidTests := true, laidLooks := .later }
def CodecListsUptoCardSaid : Prop := Claim7.holds Tryd.pinned (.plain (OpenSpec.upto codecListsSpec)) codecListsUptoCard

/-- THE SECOND FORM's CARD OF 'apographlaw06.CodecPrefixes'. -/
def codecPrefixesUptoCard : Claim7 := { stood := { row := codecPrefixesUptoRow, standIns := [], harness := (true, "53b0125357d74ec1394a3c9e19330d5d63df736bf3c80e9e43962ac4710268d0"), looks := true }, kinds := [], alts := [], laidByText := true, laidKinds := [.data, .data, .data, .sentinel, .sentinel], laidTests := true, laidLooks := .later }
def CodecPrefixesUptoCardSaid : Prop := Claim7.holds Tryd.pinned (.plain (OpenSpec.upto codecPrefixesSpec)) codecPrefixesUptoCard

/-- THE SECOND FORM's CARD OF 'apographlaw06.CodecSame'. -/
def codecSameUptoCard : Claim7 := { stood := { row := codecSameUptoRow, standIns := [], harness := (true, "53b0125357d74ec1394a3c9e19330d5d63df736bf3c80e9e43962ac4710268d0"), looks := true }, kinds := [], alts := [], laidByText := true, laidKinds := [.data, .data, .data, .sentinel, .sentinel], laidTests := true, laidLooks := .later }
def CodecSameUptoCardSaid : Prop := Claim7.holds Tryd.pinned (.plain (OpenSpec.upto codecSameSpec)) codecSameUptoCard
end Rows
end Go.Proofs.YtancjkaoocgeeaaDoor
