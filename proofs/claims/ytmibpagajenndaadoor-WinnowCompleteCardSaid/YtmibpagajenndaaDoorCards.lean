/-
  DERIVED. GIVEN WITH THE SEED: THE CARDS: each row of YtmibpagajenndaaDoorRows.lean that lists a variable, with what it lists TIED to the program's text (the seventh form; the later family's looks); each row that meets fmt, with fmt's text TOLD by the authors' own Lean function (tested against real Go, not proved from fmt's source: count such statements apart). THE CARD IS WHAT COUNTS. Prove the row's statement (the work); the ties are given (YtmibpagajenndaaDoorTie.lean); close each card by the builder's one call (the guide's Derived/Test/ToyasCard.lean, 'card_holds'). Laid BY PROGRAM, IN A SANDBOX (cutbox-door.mjs). By AI agents, Wed Nov 11 2026. No macro, syntax, notation, axiom, sorry.
-/
import Derived.Test.YtmibpagajenndaaDoorRows
import GoSem.ClaimSeven
namespace Go.Proofs.YtmibpagajenndaaDoor
namespace Rows

/-- THE TIED CARD OF 'licitlaw24.RollingEqual'. -/
def rollingEqualCard : Claim7 := { stood := { row := rollingEqualRow, standIns := [], harness := (true, "b0eb2b86ab06b9c3b710ef32e903ad2120a6dbade072abec87e475034c0a132c"), looks := false }, kinds := [], alts := [], laidByText := true, laidKinds := [.data, .pinned], laidTests := true, laidLooks := .later }
def RollingEqualCardSaid : Prop := Claim7.holds Tryd.pinned (.plain (OpenSpec.ofChange rollingEqualSpec)) rollingEqualCard

/-- THE TIED CARD OF 'licitlaw25.WinnowPrints'. -/
def winnowPrintsCard : Claim7 := { stood := { row := winnowPrintsRow, standIns := [], harness := (true, "b0eb2b86ab06b9c3b710ef32e903ad2120a6dbade072abec87e475034c0a132c"), looks := false }, kinds := [], alts := [], laidByText := true, laidKinds := [.data, .pinned], laidTests := true, laidLooks := .later }
def WinnowPrintsCardSaid : Prop := Claim7.holds Tryd.pinned (.plain (OpenSpec.ofChange winnowPrintsSpec)) winnowPrintsCard

/-- THE TIED CARD OF 'licitlaw25.WinnowComplete'. -/
def winnowCompleteCard : Claim7 := { stood := { row := winnowCompleteRow, standIns := [], harness := (true, "b0eb2b86ab06b9c3b710ef32e903ad2120a6dbade072abec87e475034c0a132c"), looks := false }, kinds := [], alts := [], laidByText := true, laidKinds := [.data, .pinned], laidTests := true, laidLooks := .later }
def WinnowCompleteCardSaid : Prop := Claim7.holds Tryd.pinned (.plain (OpenSpec.ofChange winnowCompleteSpec)) winnowCompleteCard

/-- THE SECOND FORM's CARD OF 'licitlaw24.RollingEqual'. -/
def rollingEqualUptoCard : Claim7 := { stood := { row := rollingEqualUptoRow, standIns := [], harness := (true, "b0eb2b86ab06b9c3b710ef32e903ad2120a6dbade072abec87e475034c0a132c"), looks := false }, kinds := [], alts := [], laidByText := true, laidKinds := [.data, .pinned], laidTests := true, laidLooks := .later }
def RollingEqualUptoCardSaid : Prop := Claim7.holds Tryd.pinned (.plain (OpenSpec.upto rollingEqualSpec)) rollingEqualUptoCard

/-- THE SECOND FORM's CARD OF 'licitlaw25.WinnowPrints'. -/
def winnowPrintsUptoCard : Claim7 := { stood := { row := winnowPrintsUptoRow, standIns := [], harness := (true, "b0eb2b86ab06b9c3b710ef32e903ad2120a6dbade072abec87e475034c0a132c"), looks := false }, kinds := [], alts := [], laidByText := true, laidKinds := [.data, .pinned], laidTests := true, laidLooks := .later }
def WinnowPrintsUptoCardSaid : Prop := Claim7.holds Tryd.pinned (.plain (OpenSpec.upto winnowPrintsSpec)) winnowPrintsUptoCard

/-- THE SECOND FORM's CARD OF 'licitlaw25.WinnowComplete'. -/
def winnowCompleteUptoCard : Claim7 := { stood := { row := winnowCompleteUptoRow, standIns := [], harness := (true, "b0eb2b86ab06b9c3b710ef32e903ad2120a6dbade072abec87e475034c0a132c"), looks := false }, kinds := [], alts := [], laidByText := true, laidKinds := [.data, .pinned], laidTests := true, laidLooks := .later }
def WinnowCompleteUptoCardSaid : Prop := Claim7.holds Tryd.pinned (.plain (OpenSpec.upto winnowCompleteSpec)) winnowCompleteUptoCard
end Rows
end Go.Proofs.YtmibpagajenndaaDoor
