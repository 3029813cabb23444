/-
  DERIVED. GIVEN WITH THE SEED: THE CARDS: each row of YtbdgmgddliploaaGreatDoorRows.lean that lists a variable, with what it lists TIED to the program's text (the seventh form; the later family's looks); each row that meets fmt, with fmt's text TOLD by the authors' own Lean function (tested against real Go, not proved from fmt's source: count such statements apart). THE CARD IS WHAT COUNTS. Prove the row's statement (the work); the ties are given (YtbdgmgddliploaaGreatDoorTie.lean); close each card by the builder's one call (the guide's Derived/Test/ToyasCard.lean, 'card_holds'). Laid BY PROGRAM, IN A SANDBOX (cutbox-door.mjs). By AI agents, Wed Nov 11 2026. No macro, syntax, notation, axiom, sorry.
-/
import Derived.Test.YtbdgmgddliploaaGreatDoorRows
import GoSem.ClaimSeven
namespace Go.Proofs.YtbdgmgddliploaaGreatDoor
namespace Rows

/-- THE TIED CARD OF 'apographlaw28.EditopApplies'. -/
def editopAppliesCard : Claim7 := { stood := { row := editopAppliesRow, standIns := [], harness := (true, "101c66da99a67d5f87d72acc9495e14f5df4c8097cb7dbd5bd63e4006177f270"), looks := true }, kinds := [], alts := [], laidByText := true, laidKinds := [.data, .data, .data, .sentinel, .sentinel], laidTests := true, laidLooks := .later }
def EditopAppliesCardSaid : Prop := Claim7.holds Tryz.pinned (.plain (OpenSpec.ofChange editopAppliesSpec)) editopAppliesCard

/-- THE TIED CARD OF 'apographlaw28.EditopAll'. -/
def editopAllCard : Claim7 := { stood := { row := editopAllRow, standIns := [], harness := (true, "101c66da99a67d5f87d72acc9495e14f5df4c8097cb7dbd5bd63e4006177f270"), looks := true }, kinds := [], alts := [], laidByText := true, laidKinds := [.data, .data, .data, .sentinel, .sentinel], laidTests := true, laidLooks := .later }
def EditopAllCardSaid : Prop := Claim7.holds Tryz.pinned (.plain (OpenSpec.ofChange editopAllSpec)) editopAllCard

/-- THE TIED CARD OF 'apographlaw28.EditopColumns'. -/
def editopColumnsCard : Claim7 := { stood := { row := editopColumnsRow, standIns := [], harness := (true, "101c66da99a67d5f87d72acc9495e14f5df4c8097cb7dbd5bd63e4006177f270"), looks := true }, kinds := [], alts := [], laidByText := true, laidKinds := [.data, .data, .data, .sentinel, .sentinel], laidTests := true, laidLooks := .later }
def EditopColumnsCardSaid : Prop := Claim7.holds Tryz.pinned (.plain (OpenSpec.ofChange editopColumnsSpec)) editopColumnsCard

/-- THE TIED CARD OF 'apographlaw28.EditopNeighbours'. -/
def editopNeighboursCard : Claim7 := { stood := { row := editopNeighboursRow, standIns := [], harness := (true, "101c66da99a67d5f87d72acc9495e14f5df4c8097cb7dbd5bd63e4006177f270"), looks := true }, kinds := [], alts := [], laidByText := true, laidKinds := [.data, .data, .data, .sentinel, .sentinel], laidTests := true, laidLooks := .later }
def EditopNeighboursCardSaid : Prop := Claim7.holds Tryz.pinned (.plain (OpenSpec.ofChange editopNeighboursSpec)) editopNeighboursCard

/-- THE TIED CARD OF 'apographlaw28.EditopTexts'. -/
def editopTextsCard : Claim7 := { stood := { row := editopTextsRow, standIns := [], harness := (true, "101c66da99a67d5f87d72acc9495e14f5df4c8097cb7dbd5bd63e4006177f270"), looks := true }, kinds := [], alts := [], laidByText := true, laidKinds := [.data, .data, .data, .sentinel, .sentinel], laidTests := true, laidLooks := .later }
def EditopTextsCardSaid : Prop := Claim7.holds Tryz.pinned (.plain (OpenSpec.ofChange editopTextsSpec)) editopTextsCard

/-- THE TIED CARD OF 'apographlaw28.EditopInverses'. -/
def editopInversesCard : Claim7 := { stood := { row := editopInversesRow, standIns := [], harness := (true, "101c66da99a67d5f87d72acc9495e14f5df4c8097cb7dbd5bd63e4006177f270"), looks := true }, kinds := [], alts := [], laidByText := true, laidKinds := [.data, .data, .data, .sentinel, .sentinel], laidTests := true, laidLooks := .later }
def EditopInversesCardSaid : Prop := Claim7.holds Tryz.pinned (.plain (OpenSpec.ofChange editopInversesSpec)) editopInversesCard

/-- THE TIED CARD OF 'apographlaw28.EditopCommutes'. -/
def editopCommutesCard : Claim7 := { stood := { row := editopCommutesRow, standIns := [], harness := (true, "101c66da99a67d5f87d72acc9495e14f5df4c8097cb7dbd5bd63e4006177f270"), looks := true }, kinds := [], alts := [], laidByText := true, laidKinds := [.data, .data, .data, .sentinel, .sentinel], laidTests := true, laidLooks := .later }
def EditopCommutesCardSaid : Prop := Claim7.holds Tryz.pinned (.plain (OpenSpec.ofChange editopCommutesSpec)) editopCommutesCard

/-- THE TIED CARD OF 'apographlaw28.EditopRelates'. -/
def editopRelatesCard : Claim7 := { stood := { row := editopRelatesRow, standIns := [], harness := (true, "101c66da99a67d5f87d72acc9495e14f5df4c8097cb7dbd5bd63e4006177f270"), looks := true }, kinds := [], alts := [], laidByText := true, laidKinds := [.data, .data, .data, .sentinel, .sentinel], laidTests := true, laidLooks := .later }
def EditopRelatesCardSaid : Prop := Claim7.holds Tryz.pinned (.plain (OpenSpec.ofChange editopRelatesSpec)) editopRelatesCard

/-- THE SECOND FORM's CARD OF 'apographlaw28.EditopApplies'. -/
def editopAppliesUptoCard : Claim7 := { stood := { row := editopAppliesUptoRow, standIns := [], harness := (true, "101c66da99a67d5f87d72acc9495e14f5df4c8097cb7dbd5bd63e4006177f270"), looks := true }, kinds := [], alts := [], laidByText := true, laidKinds := [.data, .data, .data, .sentinel, .sentinel], laidTests := true, laidLooks := .later }
def EditopAppliesUptoCardSaid : Prop := Claim7.holds Tryz.pinned (.plain (OpenSpec.upto editopAppliesSpec)) editopAppliesUptoCard

/-- THE SECOND FORM's CARD OF 'apographlaw28.EditopAll'. -/
def editopAllUptoCard : Claim7 := { stood := { row := editopAllUptoRow, standIns := [], harness := (true, "101c66da99a67d5f87d72acc9495e14f5df4c8097cb7dbd5bd63e4006177f270"), looks := true }, kinds := [], alts := [], laidByText := true, laidKinds := [.data, .data, .data, .sentinel, .sentinel], laidTests := true, laidLooks := .later }
def EditopAllUptoCardSaid : Prop := Claim7.holds Tryz.pinned (.plain (OpenSpec.upto editopAllSpec)) editopAllUptoCard

/-- THE SECOND FORM's CARD OF 'apographlaw28.EditopColumns'. -/
def editopColumnsUptoCard : Claim7 := { stood := { row := editopColumnsUptoRow, standIns := [], harness := (true, "101c66da99a67d5f87d72acc9495e14f5df4c8097cb7dbd5bd63e4006177f270"), looks := true }, kinds := [], alts := [], laidByText := true, laidKinds := [.data, .data, .data, .sentinel, .sentinel], laidTests := true, laidLooks := .later }
def EditopColumnsUptoCardSaid : Prop := Claim7.holds Tryz.pinned (.plain (OpenSpec.upto editopColumnsSpec)) editopColumnsUptoCard

/-- THE SECOND FORM's CARD OF 'apographlaw28.EditopNeighbours'. -/
def editopNeighboursUptoCard : Claim7 := { stood := { row := editopNeighboursUptoRow, standIns := [], harness := (true, "101c66da99a67d5f87d72acc9495e14f5df4c8097cb7dbd5bd63e4006177f270"), looks := true }, kinds := [], alts := [], laidByText := true, laidKinds := [.data, .data, .data, .sentinel, .sentinel], laidTests := true, laidLooks := .later }
def EditopNeighboursUptoCardSaid : Prop := Claim7.holds Tryz.pinned (.plain (OpenSpec.upto editopNeighboursSpec)) editopNeighboursUptoCard

/-- THE SECOND FORM's CARD OF 'apographlaw28.EditopTexts'. -/
def editopTextsUptoCard : Claim7 := { stood := { row := editopTextsUptoRow, standIns := [], harness := (true, "101c66da99a67d5f87d72acc9495e14f5df4c8097cb7dbd5bd63e4006177f270"), looks := true }, kinds := [], alts := [], laidByText := true, laidKinds := [.data, .data, .data, .sentinel, .sentinel], laidTests := true, laidLooks := .later }
def EditopTextsUptoCardSaid : Prop := Claim7.holds Tryz.pinned (.plain (OpenSpec.upto editopTextsSpec)) editopTextsUptoCard

/-- THE SECOND FORM's CARD OF 'apographlaw28.EditopInverses'. -/
def editopInversesUptoCard : Claim7 := { stood := { row := editopInversesUptoRow, standIns := [], harness := (true, "101c66da99a67d5f87d72acc9495e14f5df4c8097cb7dbd5bd63e4006177f270"), looks := true }, kinds := [], alts := [], laidByText := true, laidKinds := [.data, .data, .data, .sentinel, .sentinel], laidTests := true, laidLooks := .later }
def EditopInversesUptoCardSaid : Prop := Claim7.holds Tryz.pinned (.plain (OpenSpec.upto editopInversesSpec)) editopInversesUptoCard

/-- THE SECOND FORM's CARD OF 'apographlaw28.EditopCommutes'. -/
def editopCommutesUptoCard : Claim7 := { stood := { row := editopCommutesUptoRow, standIns := [], harness := (true, "101c66da99a67d5f87d72acc9495e14f5df4c8097cb7dbd5bd63e4006177f270"), looks := true }, kinds := [], alts := [], laidByText := true, laidKinds := [.data, .data, .data, .sentinel, .sentinel], laidTests := true, laidLooks := .later }
def EditopCommutesUptoCardSaid : Prop := Claim7.holds Tryz.pinned (.plain (OpenSpec.upto editopCommutesSpec)) editopCommutesUptoCard

/-- THE SECOND FORM's CARD OF 'apographlaw28.EditopRelates'. -/
def editopRelatesUptoCard : Claim7 := { stood := { row := editopRelatesUptoRow, standIns := [], harness := (true, "101c66da99a67d5f87d72acc9495e14f5df4c8097cb7dbd5bd63e4006177f270"), looks := true }, kinds := [], alts := [], laidByText := true, laidKinds := [.data, .data, .data, .sentinel, .sentinel], laidTests := true, laidLooks := .later }
def EditopRelatesUptoCardSaid : Prop := Claim7.holds Tryz.pinned (.plain (OpenSpec.upto editopRelatesSpec)) editopRelatesUptoCard
end Rows
end Go.Proofs.YtbdgmgddliploaaGreatDoor
