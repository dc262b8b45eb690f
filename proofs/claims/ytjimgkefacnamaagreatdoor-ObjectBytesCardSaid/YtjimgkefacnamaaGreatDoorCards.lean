/-
  DERIVED. GIVEN WITH THE SEED: THE CARDS: each row of YtjimgkefacnamaaGreatDoorRows.lean that lists a variable, with what it lists TIED to the program's text (the seventh form; the later family's looks); each row that meets fmt, with fmt's text TOLD by the authors' own Lean function (tested against real Go, not proved from fmt's source: count such statements apart). THE CARD IS WHAT COUNTS. Prove the row's statement (the work); the ties are given (YtjimgkefacnamaaGreatDoorTie.lean); close each card by the builder's one call (the guide's Derived/Test/ToyasCard.lean, 'card_holds'). Laid BY PROGRAM, IN A SANDBOX (cutbox-door.mjs). By AI agents, Wed Nov 11 2026. No macro, syntax, notation, axiom, sorry.
-/
import Derived.Test.YtjimgkefacnamaaGreatDoorRows
import GoSem.ClaimSeven
namespace Go.Proofs.YtjimgkefacnamaaGreatDoor
namespace Rows

/-- THE TIED CARD OF 'licitlaw10.ObjectFinds'. -/
def objectFindsCard : Claim7 := { stood := { row := objectFindsRow, standIns := [], harness := (true, "7b871de8fe95a601258b0c3b7a8e4740f44402d66b977d3201077b059a6168cb"), looks := false }, kinds := [], alts := [], laidByText := true, laidKinds := [.data, .data, .data, .data, .pinned], laidTests := true, laidLooks := .later }
def ObjectFindsCardSaid : Prop := Claim7.holds Tryz.pinned (.plain (OpenSpec.ofChange objectFindsSpec)) objectFindsCard

/-- THE TIED CARD OF 'licitlaw10.ObjectEncodes'. -/
def objectEncodesCard : Claim7 := { stood := { row := objectEncodesRow, standIns := [], harness := (true, "7b871de8fe95a601258b0c3b7a8e4740f44402d66b977d3201077b059a6168cb"), looks := false }, kinds := [], alts := [], laidByText := true, laidKinds := [.data, .data, .data, .data, .pinned], laidTests := true, laidLooks := .later }
def ObjectEncodesCardSaid : Prop := Claim7.holds Tryz.pinned (.plain (OpenSpec.ofChange objectEncodesSpec)) objectEncodesCard

/-- THE TIED CARD OF 'licitlaw10.ObjectDecodes'. -/
def objectDecodesCard : Claim7 := { stood := { row := objectDecodesRow, standIns := [], harness := (true, "7b871de8fe95a601258b0c3b7a8e4740f44402d66b977d3201077b059a6168cb"), looks := false }, kinds := [], alts := [], laidByText := true, laidKinds := [.data, .data, .data, .data, .pinned], laidTests := true, laidLooks := .later }
def ObjectDecodesCardSaid : Prop := Claim7.holds Tryz.pinned (.plain (OpenSpec.ofChange objectDecodesSpec)) objectDecodesCard

/-- THE TIED CARD OF 'licitlaw10.ObjectPacks'. -/
def objectPacksCard : Claim7 := { stood := { row := objectPacksRow, standIns := [], harness := (true, "7b871de8fe95a601258b0c3b7a8e4740f44402d66b977d3201077b059a6168cb"), looks := false }, kinds := [], alts := [], laidByText := true, laidKinds := [.data, .data, .data, .data, .pinned], laidTests := true, laidLooks := .later }
def ObjectPacksCardSaid : Prop := Claim7.holds Tryz.pinned (.plain (OpenSpec.ofChange objectPacksSpec)) objectPacksCard

/-- THE TIED CARD OF 'licitlaw10.ObjectReturns'. -/
def objectReturnsCard : Claim7 := { stood := { row := objectReturnsRow, standIns := [], harness := (true, "7b871de8fe95a601258b0c3b7a8e4740f44402d66b977d3201077b059a6168cb"), looks := false }, kinds := [], alts := [], laidByText := true, laidKinds := [.data, .data, .data, .data, .pinned], laidTests := true, laidLooks := .later }
def ObjectReturnsCardSaid : Prop := Claim7.holds Tryz.pinned (.plain (OpenSpec.ofChange objectReturnsSpec)) objectReturnsCard

/-- THE TIED CARD OF 'licitlaw10.ObjectBytes'. -/
def objectBytesCard : Claim7 := { stood := { row := objectBytesRow, standIns := [], harness := (true, "7b871de8fe95a601258b0c3b7a8e4740f44402d66b977d3201077b059a6168cb"), looks := false }, kinds := [], alts := [], laidByText := true, laidKinds := [.data, .data, .data, .data, .pinned], laidTests := true, laidLooks := .later }
def ObjectBytesCardSaid : Prop := Claim7.holds Tryz.pinned (.plain (OpenSpec.ofChange objectBytesSpec)) objectBytesCard

/-- THE TIED CARD OF 'licitlaw10.ObjectCompiled'. -/
def objectCompiledCard : Claim7 := { stood := { row := objectCompiledRow, standIns := [], harness := (true, "7b871de8fe95a601258b0c3b7a8e4740f44402d66b977d3201077b059a6168cb"), looks := false }, kinds := [], alts := [], laidByText := true, laidKinds := [.data, .data, .data, .data, .pinned], laidTests := true, laidLooks := .later }
def ObjectCompiledCardSaid : Prop := Claim7.holds Tryz.pinned (.plain (OpenSpec.ofChange objectCompiledSpec)) objectCompiledCard

/-- THE SECOND FORM's CARD OF 'licitlaw10.ObjectFinds'. -/
def objectFindsUptoCard : Claim7 := { stood := { row := objectFindsUptoRow, standIns := [], harness := (true, "7b871de8fe95a601258b0c3b7a8e4740f44402d66b977d3201077b059a6168cb"), looks := false }, kinds := [], alts := [], laidByText := true, laidKinds := [.data, .data, .data, .data, .pinned], laidTests := true, laidLooks := .later }
def ObjectFindsUptoCardSaid : Prop := Claim7.holds Tryz.pinned (.plain (OpenSpec.upto objectFindsSpec)) objectFindsUptoCard

/-- THE SECOND FORM's CARD OF 'licitlaw10.ObjectEncodes'. -/
def objectEncodesUptoCard : Claim7 := { stood := { row := objectEncodesUptoRow, standIns := [], harness := (true, "7b871de8fe95a601258b0c3b7a8e4740f44402d66b977d3201077b059a6168cb"), looks := false }, kinds := [], alts := [], laidByText := true, laidKinds := [.data, .data, .data, .data, .pinned], laidTests := true, laidLooks := .later }
def ObjectEncodesUptoCardSaid : Prop := Claim7.holds Tryz.pinned (.plain (OpenSpec.upto objectEncodesSpec)) objectEncodesUptoCard

/-- THE SECOND FORM's CARD OF 'licitlaw10.ObjectDecodes'. -/
def objectDecodesUptoCard : Claim7 := { stood := { row := objectDecodesUptoRow, standIns := [], harness := (true, "7b871de8fe95a601258b0c3b7a8e4740f44402d66b977d3201077b059a6168cb"), looks := false }, kinds := [], alts := [], laidByText := true, laidKinds := [.data, .data, .data, .data, .pinned], laidTests := true, laidLooks := .later }
def ObjectDecodesUptoCardSaid : Prop := Claim7.holds Tryz.pinned (.plain (OpenSpec.upto objectDecodesSpec)) objectDecodesUptoCard

/-- THE SECOND FORM's CARD OF 'licitlaw10.ObjectPacks'. -/
def objectPacksUptoCard : Claim7 := { stood := { row := objectPacksUptoRow, standIns := [], harness := (true, "7b871de8fe95a601258b0c3b7a8e4740f44402d66b977d3201077b059a6168cb"), looks := false }, kinds := [], alts := [], laidByText := true, laidKinds := [.data, .data, .data, .data, .pinned], laidTests := true, laidLooks := .later }
def ObjectPacksUptoCardSaid : Prop := Claim7.holds Tryz.pinned (.plain (OpenSpec.upto objectPacksSpec)) objectPacksUptoCard

/-- THE SECOND FORM's CARD OF 'licitlaw10.ObjectReturns'. -/
def objectReturnsUptoCard : Claim7 := { stood := { row := objectReturnsUptoRow, standIns := [], harness := (true, "7b871de8fe95a601258b0c3b7a8e4740f44402d66b977d3201077b059a6168cb"), looks := false }, kinds := [], alts := [], laidByText := true, laidKinds := [.data, .data, .data, .data, .pinned], laidTests := true, laidLooks := .later }
def ObjectReturnsUptoCardSaid : Prop := Claim7.holds Tryz.pinned (.plain (OpenSpec.upto objectReturnsSpec)) objectReturnsUptoCard

/-- THE SECOND FORM's CARD OF 'licitlaw10.ObjectBytes'. -/
def objectBytesUptoCard : Claim7 := { stood := { row := objectBytesUptoRow, standIns := [], harness := (true, "7b871de8fe95a601258b0c3b7a8e4740f44402d66b977d3201077b059a6168cb"), looks := false }, kinds := [], alts := [], laidByText := true, laidKinds := [.data, .data, .data, .data, .pinned], laidTests := true, laidLooks := .later }
def ObjectBytesUptoCardSaid : Prop := Claim7.holds Tryz.pinned (.plain (OpenSpec.upto objectBytesSpec)) objectBytesUptoCard

/-- THE SECOND FORM's CARD OF 'licitlaw10.ObjectCompiled'. -/
def objectCompiledUptoCard : Claim7 := { stood := { row := objectCompiledUptoRow, standIns := [], harness := (true, "7b871de8fe95a601258b0c3b7a8e4740f44402d66b977d3201077b059a6168cb"), looks := false }, kinds := [], alts := [], laidByText := true, laidKinds := [.data, .data, .data, .data, .pinned], laidTests := true, laidLooks := .later }
def ObjectCompiledUptoCardSaid : Prop := Claim7.holds Tryz.pinned (.plain (OpenSpec.upto objectCompiledSpec)) objectCompiledUptoCard
end Rows
end Go.Proofs.YtjimgkefacnamaaGreatDoor
