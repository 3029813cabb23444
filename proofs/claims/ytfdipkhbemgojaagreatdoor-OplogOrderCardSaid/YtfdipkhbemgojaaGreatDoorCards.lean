/-
  DERIVED. GIVEN WITH THE SEED: THE CARDS: each row of YtfdipkhbemgojaaGreatDoorRows.lean that lists a variable, with what it lists TIED to the program's text (the seventh form; the later family's looks); each row that meets fmt, with fmt's text TOLD by the authors' own Lean function (tested against real Go, not proved from fmt's source: count such statements apart). THE CARD IS WHAT COUNTS. Prove the row's statement (the work); the ties are given (YtfdipkhbemgojaaGreatDoorTie.lean); close each card by the builder's one call (the guide's Derived/Test/ToyasCard.lean, 'card_holds'). Laid BY PROGRAM, IN A SANDBOX (cutbox-door.mjs). By AI agents, Wed Nov 11 2026. No macro, syntax, notation, axiom, sorry.
-/
import Derived.Test.YtfdipkhbemgojaaGreatDoorRows
import GoSem.ClaimSeven
namespace Go.Proofs.YtfdipkhbemgojaaGreatDoor
namespace Rows

/-- THE TIED CARD OF 'apographlaw29.OplogDoes'. -/
def oplogDoesCard : Claim7 := { stood := { row := oplogDoesRow, standIns := [], harness := (true, "9c6825a7e15a6f98c59a3751a8e8decdab15443b8bf70f6ea89a05ed42bed737"), looks := true }, kinds := [], alts := [], laidByText := true, laidKinds := [.data, .data, .data, .sentinel, .sentinel], laidTests := true, laidLooks := .later }
def OplogDoesCardSaid : Prop := Claim7.holds Tryz.pinned (.plain (OpenSpec.ofChange oplogDoesSpec)) oplogDoesCard

/-- THE TIED CARD OF 'apographlaw29.OplogDo'. -/
def oplogDoCard : Claim7 := { stood := { row := oplogDoRow, standIns := [], harness := (true, "9c6825a7e15a6f98c59a3751a8e8decdab15443b8bf70f6ea89a05ed42bed737"), looks := true }, kinds := [], alts := [], laidByText := true, laidKinds := [.data, .data, .data, .sentinel, .sentinel], laidTests := true, laidLooks := .later }
def OplogDoCardSaid : Prop := Claim7.holds Tryz.pinned (.plain (OpenSpec.ofChange oplogDoSpec)) oplogDoCard

/-- THE TIED CARD OF 'apographlaw29.OplogRedo'. -/
def oplogRedoCard : Claim7 := { stood := { row := oplogRedoRow, standIns := [], harness := (true, "9c6825a7e15a6f98c59a3751a8e8decdab15443b8bf70f6ea89a05ed42bed737"), looks := true }, kinds := [], alts := [], laidByText := true, laidKinds := [.data, .data, .data, .sentinel, .sentinel], laidTests := true, laidLooks := .later }
def OplogRedoCardSaid : Prop := Claim7.holds Tryz.pinned (.plain (OpenSpec.ofChange oplogRedoSpec)) oplogRedoCard

/-- THE TIED CARD OF 'apographlaw29.OplogSqueeze'. -/
def oplogSqueezeCard : Claim7 := { stood := { row := oplogSqueezeRow, standIns := [], harness := (true, "9c6825a7e15a6f98c59a3751a8e8decdab15443b8bf70f6ea89a05ed42bed737"), looks := true }, kinds := [], alts := [], laidByText := true, laidKinds := [.data, .data, .data, .sentinel, .sentinel], laidTests := true, laidLooks := .later }
def OplogSqueezeCardSaid : Prop := Claim7.holds Tryz.pinned (.plain (OpenSpec.ofChange oplogSqueezeSpec)) oplogSqueezeCard

/-- THE TIED CARD OF 'apographlaw29.OplogUndo'. -/
def oplogUndoCard : Claim7 := { stood := { row := oplogUndoRow, standIns := [], harness := (true, "9c6825a7e15a6f98c59a3751a8e8decdab15443b8bf70f6ea89a05ed42bed737"), looks := true }, kinds := [], alts := [], laidByText := true, laidKinds := [.data, .data, .data, .sentinel, .sentinel], laidTests := true, laidLooks := .later }
def OplogUndoCardSaid : Prop := Claim7.holds Tryz.pinned (.plain (OpenSpec.ofChange oplogUndoSpec)) oplogUndoCard

/-- THE TIED CARD OF 'apographlaw29.OplogReplay'. -/
def oplogReplayCard : Claim7 := { stood := { row := oplogReplayRow, standIns := [], harness := (true, "9c6825a7e15a6f98c59a3751a8e8decdab15443b8bf70f6ea89a05ed42bed737"), looks := true }, kinds := [], alts := [], laidByText := true, laidKinds := [.data, .data, .data, .sentinel, .sentinel], laidTests := true, laidLooks := .later }
def OplogReplayCardSaid : Prop := Claim7.holds Tryz.pinned (.plain (OpenSpec.ofChange oplogReplaySpec)) oplogReplayCard

/-- THE TIED CARD OF 'apographlaw29.OplogTexts'. -/
def oplogTextsCard : Claim7 := { stood := { row := oplogTextsRow, standIns := [], harness := (true, "9c6825a7e15a6f98c59a3751a8e8decdab15443b8bf70f6ea89a05ed42bed737"), looks := true }, kinds := [], alts := [], laidByText := true, laidKinds := [.data, .data, .data, .sentinel, .sentinel], laidTests := true, laidLooks := .later }
def OplogTextsCardSaid : Prop := Claim7.holds Tryz.pinned (.plain (OpenSpec.ofChange oplogTextsSpec)) oplogTextsCard

/-- THE TIED CARD OF 'apographlaw29.OplogOrder'. -/
def oplogOrderCard : Claim7 := { stood := { row := oplogOrderRow, standIns := [], harness := (true, "9c6825a7e15a6f98c59a3751a8e8decdab15443b8bf70f6ea89a05ed42bed737"), looks := true }, kinds := [], alts := [], laidByText := true, laidKinds := [.data, .data, .data, .sentinel, .sentinel], laidTests := true, laidLooks := .later }
def OplogOrderCardSaid : Prop := Claim7.holds Tryz.pinned (.plain (OpenSpec.ofChange oplogOrderSpec)) oplogOrderCard

/-- THE TIED CARD OF 'apographlaw29.OplogUndoes'. -/
def oplogUndoesCard : Claim7 := { stood := { row := oplogUndoesRow, standIns := [], harness := (true, "9c6825a7e15a6f98c59a3751a8e8decdab15443b8bf70f6ea89a05ed42bed737"), looks := true }, kinds := [], alts := [], laidByText := true, laidKinds := [.data, .data, .data, .sentinel, .sentinel], laidTests := true, laidLooks := .later }
def OplogUndoesCardSaid : Prop := Claim7.holds Tryz.pinned (.plain (OpenSpec.ofChange oplogUndoesSpec)) oplogUndoesCard

/-- THE SECOND FORM's CARD OF 'apographlaw29.OplogDoes'. -/
def oplogDoesUptoCard : Claim7 := { stood := { row := oplogDoesUptoRow, standIns := [], harness := (true, "9c6825a7e15a6f98c59a3751a8e8decdab15443b8bf70f6ea89a05ed42bed737"), looks := true }, kinds := [], alts := [], laidByText := true, laidKinds := [.data, .data, .data, .sentinel, .sentinel], laidTests := true, laidLooks := .later }
def OplogDoesUptoCardSaid : Prop := Claim7.holds Tryz.pinned (.plain (OpenSpec.upto oplogDoesSpec)) oplogDoesUptoCard

/-- THE SECOND FORM's CARD OF 'apographlaw29.OplogDo'. -/
def oplogDoUptoCard : Claim7 := { stood := { row := oplogDoUptoRow, standIns := [], harness := (true, "9c6825a7e15a6f98c59a3751a8e8decdab15443b8bf70f6ea89a05ed42bed737"), looks := true }, kinds := [], alts := [], laidByText := true, laidKinds := [.data, .data, .data, .sentinel, .sentinel], laidTests := true, laidLooks := .later }
def OplogDoUptoCardSaid : Prop := Claim7.holds Tryz.pinned (.plain (OpenSpec.upto oplogDoSpec)) oplogDoUptoCard

/-- THE SECOND FORM's CARD OF 'apographlaw29.OplogRedo'. -/
def oplogRedoUptoCard : Claim7 := { stood := { row := oplogRedoUptoRow, standIns := [], harness := (true, "9c6825a7e15a6f98c59a3751a8e8decdab15443b8bf70f6ea89a05ed42bed737"), looks := true }, kinds := [], alts := [], laidByText := true, laidKinds := [.data, .data, .data, .sentinel, .sentinel], laidTests := true, laidLooks := .later }
def OplogRedoUptoCardSaid : Prop := Claim7.holds Tryz.pinned (.plain (OpenSpec.upto oplogRedoSpec)) oplogRedoUptoCard

/-- THE SECOND FORM's CARD OF 'apographlaw29.OplogSqueeze'. -/
def oplogSqueezeUptoCard : Claim7 := { stood := { row := oplogSqueezeUptoRow, standIns := [], harness := (true, "9c6825a7e15a6f98c59a3751a8e8decdab15443b8bf70f6ea89a05ed42bed737"), looks := true }, kinds := [], alts := [], laidByText := true, laidKinds := [.data, .data, .data, .sentinel, .sentinel], laidTests := true, laidLooks := .later }
def OplogSqueezeUptoCardSaid : Prop := Claim7.holds Tryz.pinned (.plain (OpenSpec.upto oplogSqueezeSpec)) oplogSqueezeUptoCard

/-- THE SECOND FORM's CARD OF 'apographlaw29.OplogUndo'. -/
def oplogUndoUptoCard : Claim7 := { stood := { row := oplogUndoUptoRow, standIns := [], harness := (true, "9c6825a7e15a6f98c59a3751a8e8decdab15443b8bf70f6ea89a05ed42bed737"), looks := true }, kinds := [], alts := [], laidByText := true, laidKinds := [.data, .data, .data, .sentinel, .sentinel], laidTests := true, laidLooks := .later }
def OplogUndoUptoCardSaid : Prop := Claim7.holds Tryz.pinned (.plain (OpenSpec.upto oplogUndoSpec)) oplogUndoUptoCard

/-- THE SECOND FORM's CARD OF 'apographlaw29.OplogReplay'. -/
def oplogReplayUptoCard : Claim7 := { stood := { row := oplogReplayUptoRow, standIns := [], harness := (true, "9c6825a7e15a6f98c59a3751a8e8decdab15443b8bf70f6ea89a05ed42bed737"), looks := true }, kinds := [], alts := [], laidByText := true, laidKinds := [.data, .data, .data, .sentinel, .sentinel], laidTests := true, laidLooks := .later }
def OplogReplayUptoCardSaid : Prop := Claim7.holds Tryz.pinned (.plain (OpenSpec.upto oplogReplaySpec)) oplogReplayUptoCard

/-- THE SECOND FORM's CARD OF 'apographlaw29.OplogTexts'. -/
def oplogTextsUptoCard : Claim7 := { stood := { row := oplogTextsUptoRow, standIns := [], harness := (true, "9c6825a7e15a6f98c59a3751a8e8decdab15443b8bf70f6ea89a05ed42bed737"), looks := true }, kinds := [], alts := [], laidByText := true, laidKinds := [.data, .data, .data, .sentinel, .sentinel], laidTests := true, laidLooks := .later }
def OplogTextsUptoCardSaid : Prop := Claim7.holds Tryz.pinned (.plain (OpenSpec.upto oplogTextsSpec)) oplogTextsUptoCard

/-- THE SECOND FORM's CARD OF 'apographlaw29.OplogOrder'. -/
def oplogOrderUptoCard : Claim7 := { stood := { row := oplogOrderUptoRow, standIns := [], harness := (true, "9c6825a7e15a6f98c59a3751a8e8decdab15443b8bf70f6ea89a05ed42bed737"), looks := true }, kinds := [], alts := [], laidByText := true, laidKinds := [.data, .data, .data, .sentinel, .sentinel], laidTests := true, laidLooks := .later }
def OplogOrderUptoCardSaid : Prop := Claim7.holds Tryz.pinned (.plain (OpenSpec.upto oplogOrderSpec)) oplogOrderUptoCard

/-- THE SECOND FORM's CARD OF 'apographlaw29.OplogUndoes'. -/
def oplogUndoesUptoCard : Claim7 := { stood := { row := oplogUndoesUptoRow, standIns := [], harness := (true, "9c6825a7e15a6f98c59a3751a8e8decdab15443b8bf70f6ea89a05ed42bed737"), looks := true }, kinds := [], alts := [], laidByText := true, laidKinds := [.data, .data, .data, .sentinel, .sentinel], laidTests := true, laidLooks := .later }
def OplogUndoesUptoCardSaid : Prop := Claim7.holds Tryz.pinned (.plain (OpenSpec.upto oplogUndoesSpec)) oplogUndoesUptoCard
end Rows
end Go.Proofs.YtfdipkhbemgojaaGreatDoor
