/-
  DERIVED. GIVEN WITH THE SEED: THE CARDS: each row of YtlbcmeebcfalpaaGreatDoorRows.lean that lists a variable, with what it lists TIED to the program's text (the seventh form; the later family's looks); each row that meets fmt, with fmt's text TOLD by the authors' own Lean function (tested against real Go, not proved from fmt's source: count such statements apart). THE CARD IS WHAT COUNTS. Prove the row's statement (the work); the ties are given (YtlbcmeebcfalpaaGreatDoorTie.lean); close each card by the builder's one call (the guide's Derived/Test/ToyasCard.lean, 'card_holds'). Laid BY PROGRAM, IN A SANDBOX (cutbox-door.mjs). By AI agents, Wed Nov 11 2026. No macro, syntax, notation, axiom, sorry.
-/
import Derived.Test.YtlbcmeebcfalpaaGreatDoorRows
import GoSem.ClaimSeven
namespace Go.Proofs.YtlbcmeebcfalpaaGreatDoor
namespace Rows

/-- THE TIED CARD OF 'apographlaw58.InterchangeReads'. -/
def interchangeReadsCard : Claim7 := { stood := { row := interchangeReadsRow, standIns := [], harness := (true, "7b4d5a8f0357ea0cf1958888bbfdce4cde39cc0854e728692acfbd85eba7a847"), looks := true }, kinds := [], alts := [], laidByText := true, laidKinds := [.data, .data, .data, .sentinel, .sentinel], laidTests := true, laidLooks := .later }
def InterchangeReadsCardSaid : Prop := Claim7.holds Tryz.pinned (.plain (OpenSpec.ofChange interchangeReadsSpec)) interchangeReadsCard

/-- THE TIED CARD OF 'apographlaw58.InterchangeCanonical'. -/
def interchangeCanonicalCard : Claim7 := { stood := { row := interchangeCanonicalRow, standIns := [], harness := (true, "7b4d5a8f0357ea0cf1958888bbfdce4cde39cc0854e728692acfbd85eba7a847"), looks := true }, kinds := [], alts := [], laidByText := true, laidKinds := [.data, .data, .data, .sentinel, .sentinel], laidTests := true, laidLooks := .later }
def InterchangeCanonicalCardSaid : Prop := Claim7.holds Tryz.pinned (.plain (OpenSpec.ofChange interchangeCanonicalSpec)) interchangeCanonicalCard

/-- THE TIED CARD OF 'apographlaw58.InterchangeSame'. -/
def interchangeSameCard : Claim7 := { stood := { row := interchangeSameRow, standIns := [], harness := (true, "7b4d5a8f0357ea0cf1958888bbfdce4cde39cc0854e728692acfbd85eba7a847"), looks := true }, kinds := [], alts := [], laidByText := true, laidKinds := [.data, .data, .data, .sentinel, .sentinel], laidTests := true, laidLooks := .later }
def InterchangeSameCardSaid : Prop := Claim7.holds Tryz.pinned (.plain (OpenSpec.ofChange interchangeSameSpec)) interchangeSameCard

/-- THE TIED CARD OF 'apographlaw58.InterchangePrints'. -/
def interchangePrintsCard : Claim7 := { stood := { row := interchangePrintsRow, standIns := [], harness := (true, "7b4d5a8f0357ea0cf1958888bbfdce4cde39cc0854e728692acfbd85eba7a847"), looks := true }, kinds := [], alts := [], laidByText := true, laidKinds := [.data, .data, .data, .sentinel, .sentinel], laidTests := true, laidLooks := .later }
def InterchangePrintsCardSaid : Prop := Claim7.holds Tryz.pinned (.plain (OpenSpec.ofChange interchangePrintsSpec)) interchangePrintsCard

/-- THE TIED CARD OF 'apographlaw58.InterchangeParts'. -/
def interchangePartsCard : Claim7 := { stood := { row := interchangePartsRow, standIns := [], harness := (true, "7b4d5a8f0357ea0cf1958888bbfdce4cde39cc0854e728692acfbd85eba7a847"), looks := true }, kinds := [], alts := [], laidByText := true, laidKinds := [.data, .data, .data, .sentinel, .sentinel], laidTests := true, laidLooks := .later }
def InterchangePartsCardSaid : Prop := Claim7.holds Tryz.pinned (.plain (OpenSpec.ofChange interchangePartsSpec)) interchangePartsCard

/-- THE TIED CARD OF 'apographlaw58.InterchangeKeys'. -/
def interchangeKeysCard : Claim7 := { stood := { row := interchangeKeysRow, standIns := [], harness := (true, "7b4d5a8f0357ea0cf1958888bbfdce4cde39cc0854e728692acfbd85eba7a847"), looks := true }, kinds := [], alts := [], laidByText := true, laidKinds := [.data, .data, .data, .sentinel, .sentinel], laidTests := true, laidLooks := .later }
def InterchangeKeysCardSaid : Prop := Claim7.holds Tryz.pinned (.plain (OpenSpec.ofChange interchangeKeysSpec)) interchangeKeysCard

/-- THE SECOND FORM's CARD OF 'apographlaw58.InterchangeReads'. -/
def interchangeReadsUptoCard : Claim7 := { stood := { row := interchangeReadsUptoRow, standIns := [], harness := (true, "7b4d5a8f0357ea0cf1958888bbfdce4cde39cc0854e728692acfbd85eba7a847"), looks := true }, kinds := [], alts := [], laidByText := true, laidKinds := [.data, .data, .data, .sentinel, .sentinel], laidTests := true, laidLooks := .later }
def InterchangeReadsUptoCardSaid : Prop := Claim7.holds Tryz.pinned (.plain (OpenSpec.upto interchangeReadsSpec)) interchangeReadsUptoCard

/-- THE SECOND FORM's CARD OF 'apographlaw58.InterchangeCanonical'. -/
def interchangeCanonicalUptoCard : Claim7 := { stood := { row := interchangeCanonicalUptoRow, standIns := [], harness := (true, "7b4d5a8f0357ea0cf1958888bbfdce4cde39cc0854e728692acfbd85eba7a847"), looks := true }, kinds := [], alts := [], laidByText := true, laidKinds := [.data, .data, .data, .sentinel, .sentinel], laidTests := true, laidLooks := .later }
def InterchangeCanonicalUptoCardSaid : Prop := Claim7.holds Tryz.pinned (.plain (OpenSpec.upto interchangeCanonicalSpec)) interchangeCanonicalUptoCard

/-- THE SECOND FORM's CARD OF 'apographlaw58.InterchangeSame'. -/
def interchangeSameUptoCard : Claim7 := { stood := { row := interchangeSameUptoRow, standIns := [], harness := (true, "7b4d5a8f0357ea0cf1958888bbfdce4cde39cc0854e728692acfbd85eba7a847"), looks := true }, kinds := [], alts := [], laidByText := true, laidKinds := [.data, .data, .data, .sentinel, .sentinel], laidTests := true, laidLooks := .later }
def InterchangeSameUptoCardSaid : Prop := Claim7.holds Tryz.pinned (.plain (OpenSpec.upto interchangeSameSpec)) interchangeSameUptoCard

/-- THE SECOND FORM's CARD OF 'apographlaw58.InterchangePrints'. -/
def interchangePrintsUptoCard : Claim7 := { stood := { row := interchangePrintsUptoRow, standIns := [], harness := (true, "7b4d5a8f0357ea0cf1958888bbfdce4cde39cc0854e728692acfbd85eba7a847"), looks := true }, kinds := [], alts := [], laidByText := true, laidKinds := [.data, .data, .data, .sentinel, .sentinel], laidTests := true, laidLooks := .later }
def InterchangePrintsUptoCardSaid : Prop := Claim7.holds Tryz.pinned (.plain (OpenSpec.upto interchangePrintsSpec)) interchangePrintsUptoCard

/-- THE SECOND FORM's CARD OF 'apographlaw58.InterchangeParts'. -/
def interchangePartsUptoCard : Claim7 := { stood := { row := interchangePartsUptoRow, standIns := [], harness := (true, "7b4d5a8f0357ea0cf1958888bbfdce4cde39cc0854e728692acfbd85eba7a847"), looks := true }, kinds := [], alts := [], laidByText := true, laidKinds := [.data, .data, .data, .sentinel, .sentinel], laidTests := true, laidLooks := .later }
def InterchangePartsUptoCardSaid : Prop := Claim7.holds Tryz.pinned (.plain (OpenSpec.upto interchangePartsSpec)) interchangePartsUptoCard

/-- THE SECOND FORM's CARD OF 'apographlaw58.InterchangeKeys'. -/
def interchangeKeysUptoCard : Claim7 := { stood := { row := interchangeKeysUptoRow, standIns := [], harness := (true, "7b4d5a8f0357ea0cf1958888bbfdce4cde39cc0854e728692acfbd85eba7a847"), looks := true }, kinds := [], alts := [], laidByText := true, laidKinds := [.data, .data, .data, .sentinel, .sentinel], laidTests := true, laidLooks := .later }
def InterchangeKeysUptoCardSaid : Prop := Claim7.holds Tryz.pinned (.plain (OpenSpec.upto interchangeKeysSpec)) interchangeKeysUptoCard
end Rows
end Go.Proofs.YtlbcmeebcfalpaaGreatDoor
