/-
  DERIVED. GIVEN WITH THE SEED: THE CARDS: each row of YtkeaoejgboefbaaGreatDoorRows.lean that lists a variable, with what it lists TIED to the program's text (the seventh form; the later family's looks); each row that meets fmt, with fmt's text TOLD by the authors' own Lean function (tested against real Go, not proved from fmt's source: count such statements apart). THE CARD IS WHAT COUNTS. Prove the row's statement (the work); the ties are given (YtkeaoejgboefbaaGreatDoorTie.lean); close each card by the builder's one call (the guide's Derived/Test/ToyasCard.lean, 'card_holds'). Laid BY PROGRAM, IN A SANDBOX (cutbox-door.mjs). By AI agents, Wed Nov 11 2026. No macro, syntax, notation, axiom, sorry.
-/
import Derived.Test.YtkeaoejgboefbaaGreatDoorRows
import GoSem.ClaimSeven
namespace Go.Proofs.YtkeaoejgboefbaaGreatDoor
namespace Rows

/-- THE TIED CARD OF 'licitlaw56.EngineValues'. -/
def engineValuesCard : Claim7 := { stood := { row := engineValuesRow, standIns := [], harness := (true, "eb1c776c84e51bf1798c4c3edf2514d0bf085a0c91785e32e43302297c17c107"), looks := true }, kinds := [], alts := [], laidByText := true, laidKinds := [.data, .data, .data, .data, .pinned], laidTests := true, laidLooks := .later }
def EngineValuesCardSaid : Prop := Claim7.holds Tryz.pinned (.plain (OpenSpec.ofChange engineValuesSpec)) engineValuesCard

/-- THE TIED CARD OF 'licitlaw56.EngineSeparate'. -/
def engineSeparateCard : Claim7 := { stood := { row := engineSeparateRow, standIns := [], harness := (true, "eb1c776c84e51bf1798c4c3edf2514d0bf085a0c91785e32e43302297c17c107"), looks := true }, kinds := [], alts := [], laidByText := true, laidKinds := [.data, .data, .data, .data, .pinned], laidTests := true, laidLooks := .later }
def EngineSeparateCardSaid : Prop := Claim7.holds Tryz.pinned (.plain (OpenSpec.ofChange engineSeparateSpec)) engineSeparateCard

/-- THE TIED CARD OF 'licitlaw56.EngineScratch'. -/
def engineScratchCard : Claim7 := { stood := { row := engineScratchRow, standIns := [], harness := (true, "eb1c776c84e51bf1798c4c3edf2514d0bf085a0c91785e32e43302297c17c107"), looks := true }, kinds := [], alts := [], laidByText := true, laidKinds := [.data, .data, .data, .data, .pinned], laidTests := true, laidLooks := .later }
def EngineScratchCardSaid : Prop := Claim7.holds Tryz.pinned (.plain (OpenSpec.ofChange engineScratchSpec)) engineScratchCard

/-- THE TIED CARD OF 'licitlaw56.EngineQuiet'. -/
def engineQuietCard : Claim7 := { stood := { row := engineQuietRow, standIns := [], harness := (true, "eb1c776c84e51bf1798c4c3edf2514d0bf085a0c91785e32e43302297c17c107"), looks := true }, kinds := [], alts := [], laidByText := true, laidKinds := [.data, .data, .data, .data, .pinned], laidTests := true, laidLooks := .later }
def EngineQuietCardSaid : Prop := Claim7.holds Tryz.pinned (.plain (OpenSpec.ofChange engineQuietSpec)) engineQuietCard

/-- THE SECOND FORM's CARD OF 'licitlaw56.EngineValues'. -/
def engineValuesUptoCard : Claim7 := { stood := { row := engineValuesUptoRow, standIns := [], harness := (true, "eb1c776c84e51bf1798c4c3edf2514d0bf085a0c91785e32e43302297c17c107"), looks := true }, kinds := [], alts := [], laidByText := true, laidKinds := [.data, .data, .data, .data, .pinned], laidTests := true, laidLooks := .later }
def EngineValuesUptoCardSaid : Prop := Claim7.holds Tryz.pinned (.plain (OpenSpec.upto engineValuesSpec)) engineValuesUptoCard

/-- THE SECOND FORM's CARD OF 'licitlaw56.EngineSeparate'. -/
def engineSeparateUptoCard : Claim7 := { stood := { row := engineSeparateUptoRow, standIns := [], harness := (true, "eb1c776c84e51bf1798c4c3edf2514d0bf085a0c91785e32e43302297c17c107"), looks := true }, kinds := [], alts := [], laidByText := true, laidKinds := [.data, .data, .data, .data, .pinned], laidTests := true, laidLooks := .later }
def EngineSeparateUptoCardSaid : Prop := Claim7.holds Tryz.pinned (.plain (OpenSpec.upto engineSeparateSpec)) engineSeparateUptoCard

/-- THE SECOND FORM's CARD OF 'licitlaw56.EngineScratch'. -/
def engineScratchUptoCard : Claim7 := { stood := { row := engineScratchUptoRow, standIns := [], harness := (true, "eb1c776c84e51bf1798c4c3edf2514d0bf085a0c91785e32e43302297c17c107"), looks := true }, kinds := [], alts := [], laidByText := true, laidKinds := [.data, .data, .data, .data, .pinned], laidTests := true, laidLooks := .later }
def EngineScratchUptoCardSaid : Prop := Claim7.holds Tryz.pinned (.plain (OpenSpec.upto engineScratchSpec)) engineScratchUptoCard

/-- THE SECOND FORM's CARD OF 'licitlaw56.EngineQuiet'. -/
def engineQuietUptoCard : Claim7 := { stood := { row := engineQuietUptoRow, standIns := [], harness := (true, "eb1c776c84e51bf1798c4c3edf2514d0bf085a0c91785e32e43302297c17c107"), looks := true }, kinds := [], alts := [], laidByText := true, laidKinds := [.data, .data, .data, .data, .pinned], laidTests := true, laidLooks := .later }
def EngineQuietUptoCardSaid : Prop := Claim7.holds Tryz.pinned (.plain (OpenSpec.upto engineQuietSpec)) engineQuietUptoCard
end Rows
end Go.Proofs.YtkeaoejgboefbaaGreatDoor
