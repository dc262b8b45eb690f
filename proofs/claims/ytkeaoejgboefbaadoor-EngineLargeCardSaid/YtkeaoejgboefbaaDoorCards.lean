/-
  DERIVED. GIVEN WITH THE SEED: THE CARDS: each row of YtkeaoejgboefbaaDoorRows.lean that lists a variable, with what it lists TIED to the program's text (the seventh form; the later family's looks); each row that meets fmt, with fmt's text TOLD by the authors' own Lean function (tested against real Go, not proved from fmt's source: count such statements apart). THE CARD IS WHAT COUNTS. Prove the row's statement (the work); the ties are given (YtkeaoejgboefbaaDoorTie.lean); close each card by the builder's one call (the guide's Derived/Test/ToyasCard.lean, 'card_holds'). Laid BY PROGRAM, IN A SANDBOX (cutbox-door.mjs). By AI agents, Wed Nov 11 2026. No macro, syntax, notation, axiom, sorry.
-/
import Derived.Test.YtkeaoejgboefbaaDoorRows
import GoSem.ClaimSeven
namespace Go.Proofs.YtkeaoejgboefbaaDoor
namespace Rows

/-- THE TIED CARD OF 'licitlaw56.EngineOnce'. -/
def engineOnceCard : Claim7 := { stood := { row := engineOnceRow, standIns := [], harness := (true, "a9aec5dc7186a24f5e507d6a34bb7c66605d5e35c2857a7dc7f6acad7c5b5012"), looks := true }, kinds := [], alts := [], laidByText := true, laidKinds := [.data, .data, .data, .data, .pinned], laidTests := true, laidLooks := .later }
def EngineOnceCardSaid : Prop := Claim7.holds Tryd.pinned (.plain (OpenSpec.ofChange engineOnceSpec)) engineOnceCard

/-- THE TIED CARD OF 'licitlaw56.EngineFresh'. -/
def engineFreshCard : Claim7 := { stood := { row := engineFreshRow, standIns := [], harness := (true, "a9aec5dc7186a24f5e507d6a34bb7c66605d5e35c2857a7dc7f6acad7c5b5012"), looks := true }, kinds := [], alts := [], laidByText := true, laidKinds := [.data, .data, .data, .data, .pinned], laidTests := true, laidLooks := .later }
def EngineFreshCardSaid : Prop := Claim7.holds Tryd.pinned (.plain (OpenSpec.ofChange engineFreshSpec)) engineFreshCard

/-- THE TIED CARD OF 'licitlaw56.EngineCounts'. -/
def engineCountsCard : Claim7 := { stood := { row := engineCountsRow, standIns := [], harness := (true, "a9aec5dc7186a24f5e507d6a34bb7c66605d5e35c2857a7dc7f6acad7c5b5012"), looks := true }, kinds := [], alts := [], laidByText := true, laidKinds := [.data, .data, .data, .data, .pinned], laidTests := true, laidLooks := .later }
def EngineCountsCardSaid : Prop := Claim7.holds Tryd.pinned (.plain (OpenSpec.ofChange engineCountsSpec)) engineCountsCard

/-- THE TIED CARD OF 'licitlaw56.EngineChecks'. -/
def engineChecksCard : Claim7 := { stood := { row := engineChecksRow, standIns := [], harness := (true, "a9aec5dc7186a24f5e507d6a34bb7c66605d5e35c2857a7dc7f6acad7c5b5012"), looks := true }, kinds := [], alts := [], laidByText := true, laidKinds := [.data, .data, .data, .data, .pinned], laidTests := true, laidLooks := .later }
def EngineChecksCardSaid : Prop := Claim7.holds Tryd.pinned (.plain (OpenSpec.ofChange engineChecksSpec)) engineChecksCard

/-- THE TIED CARD OF 'licitlaw56.EngineLarge'. -/
def engineLargeCard : Claim7 := { stood := { row := engineLargeRow, standIns := [], harness := (true, "a9aec5dc7186a24f5e507d6a34bb7c66605d5e35c2857a7dc7f6acad7c5b5012"), looks := true }, kinds := [], alts := [], laidByText := true, laidKinds := [.data, .data, .data, .data, .pinned], laidTests := true, laidLooks := .later }
def EngineLargeCardSaid : Prop := Claim7.holds Tryd.pinned (.plain (OpenSpec.ofChange engineLargeSpec)) engineLargeCard

/-- THE SECOND FORM's CARD OF 'licitlaw56.EngineOnce'. -/
def engineOnceUptoCard : Claim7 := { stood := { row := engineOnceUptoRow, standIns := [], harness := (true, "a9aec5dc7186a24f5e507d6a34bb7c66605d5e35c2857a7dc7f6acad7c5b5012"), looks := true }, kinds := [], alts := [], laidByText := true, laidKinds := [.data, .data, .data, .data, .pinned], laidTests := true, laidLooks := .later }
def EngineOnceUptoCardSaid : Prop := Claim7.holds Tryd.pinned (.plain (OpenSpec.upto engineOnceSpec)) engineOnceUptoCard

/-- THE SECOND FORM's CARD OF 'licitlaw56.EngineFresh'. -/
def engineFreshUptoCard : Claim7 := { stood := { row := engineFreshUptoRow, standIns := [], harness := (true, "a9aec5dc7186a24f5e507d6a34bb7c66605d5e35c2857a7dc7f6acad7c5b5012"), looks := true }, kinds := [], alts := [], laidByText := true, laidKinds := [.data, .data, .data, .data, .pinned], laidTests := true, laidLooks := .later }
def EngineFreshUptoCardSaid : Prop := Claim7.holds Tryd.pinned (.plain (OpenSpec.upto engineFreshSpec)) engineFreshUptoCard

/-- THE SECOND FORM's CARD OF 'licitlaw56.EngineCounts'. -/
def engineCountsUptoCard : Claim7 := { stood := { row := engineCountsUptoRow, standIns := [], harness := (true, "a9aec5dc7186a24f5e507d6a34bb7c66605d5e35c2857a7dc7f6acad7c5b5012"), looks := true }, kinds := [], alts := [], laidByText := true, laidKinds := [.data, .data, .data, .data, .pinned], laidTests := true, laidLooks := .later }
def EngineCountsUptoCardSaid : Prop := Claim7.holds Tryd.pinned (.plain (OpenSpec.upto engineCountsSpec)) engineCountsUptoCard

/-- THE SECOND FORM's CARD OF 'licitlaw56.EngineChecks'. -/
def engineChecksUptoCard : Claim7 := { stood := { row := engineChecksUptoRow, standIns := [], harness := (true, "a9aec5dc7186a24f5e507d6a34bb7c66605d5e35c2857a7dc7f6acad7c5b5012"), looks := true }, kinds := [], alts := [], laidByText := true, laidKinds := [.data, .data, .data, .data, .pinned], laidTests := true, laidLooks := .later }
def EngineChecksUptoCardSaid : Prop := Claim7.holds Tryd.pinned (.plain (OpenSpec.upto engineChecksSpec)) engineChecksUptoCard

/-- THE SECOND FORM's CARD OF 'licitlaw56.EngineLarge'. -/
def engineLargeUptoCard : Claim7 := { stood := { row := engineLargeUptoRow, standIns := [], harness := (true, "a9aec5dc7186a24f5e507d6a34bb7c66605d5e35c2857a7dc7f6acad7c5b5012"), looks := true }, kinds := [], alts := [], laidByText := true, laidKinds := [.data, .data, .data, .data, .pinned], laidTests := true, laidLooks := .later }
def EngineLargeUptoCardSaid : Prop := Claim7.holds Tryd.pinned (.plain (OpenSpec.upto engineLargeSpec)) engineLargeUptoCard
end Rows
end Go.Proofs.YtkeaoejgboefbaaDoor
