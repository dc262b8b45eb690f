/-
  DERIVED. GIVEN WITH THE SEED: THE CARDS: each row of YtclhbcicbnoohaaGreatDoorRows.lean that lists a variable, with what it lists TIED to the program's text (the seventh form; the later family's looks); each row that meets fmt, with fmt's text TOLD by the authors' own Lean function (tested against real Go, not proved from fmt's source: count such statements apart). THE CARD IS WHAT COUNTS. Prove the row's statement (the work); the ties are given (YtclhbcicbnoohaaGreatDoorTie.lean); close each card by the builder's one call (the guide's Derived/Test/ToyasCard.lean, 'card_holds'). Laid BY PROGRAM, IN A SANDBOX (cutbox-door.mjs). By AI agents, Wed Nov 11 2026. No macro, syntax, notation, axiom, sorry.
-/
import Derived.Test.YtclhbcicbnoohaaGreatDoorRows
import GoSem.ClaimSeven
namespace Go.Proofs.YtclhbcicbnoohaaGreatDoor
namespace Rows

/-- THE TIED CARD OF 'licitlaw03.TreeFiles'. -/
def treeFilesCard : Claim7 := { stood := { row := treeFilesRow, standIns := [], harness := (true, "4822b28440eb7bd2e37a3f19f8f9e8d46e9769a97ba2357d248f057fe3ce9534"), looks := false }, kinds := [], alts := [], laidByText := true, laidKinds := [.data, .data, .data, .data, .pinned], laidTests := true, laidLooks := .later }
def TreeFilesCardSaid : Prop := Claim7.holds Tryz.pinned (.plain (OpenSpec.ofChange treeFilesSpec)) treeFilesCard

/-- THE TIED CARD OF 'licitlaw03.TreePlaces'. -/
def treePlacesCard : Claim7 := { stood := { row := treePlacesRow, standIns := [], harness := (true, "4822b28440eb7bd2e37a3f19f8f9e8d46e9769a97ba2357d248f057fe3ce9534"), looks := false }, kinds := [], alts := [], laidByText := true, laidKinds := [.data, .data, .data, .data, .pinned], laidTests := true, laidLooks := .later }
def TreePlacesCardSaid : Prop := Claim7.holds Tryz.pinned (.plain (OpenSpec.ofChange treePlacesSpec)) treePlacesCard

/-- THE TIED CARD OF 'licitlaw03.TreePaths'. -/
def treePathsCard : Claim7 := { stood := { row := treePathsRow, standIns := [], harness := (true, "4822b28440eb7bd2e37a3f19f8f9e8d46e9769a97ba2357d248f057fe3ce9534"), looks := false }, kinds := [], alts := [], laidByText := true, laidKinds := [.data, .data, .data, .data, .pinned], laidTests := true, laidLooks := .later }
def TreePathsCardSaid : Prop := Claim7.holds Tryz.pinned (.plain (OpenSpec.ofChange treePathsSpec)) treePathsCard

/-- THE TIED CARD OF 'licitlaw03.TreeIDs'. -/
def treeIDsCard : Claim7 := { stood := { row := treeIDsRow, standIns := [], harness := (true, "4822b28440eb7bd2e37a3f19f8f9e8d46e9769a97ba2357d248f057fe3ce9534"), looks := false }, kinds := [], alts := [], laidByText := true, laidKinds := [.data, .data, .data, .data, .pinned], laidTests := true, laidLooks := .later }
def TreeIDsCardSaid : Prop := Claim7.holds Tryz.pinned (.plain (OpenSpec.ofChange treeIDsSpec)) treeIDsCard

/-- THE TIED CARD OF 'licitlaw03.TreeLines'. -/
def treeLinesCard : Claim7 := { stood := { row := treeLinesRow, standIns := [], harness := (true, "4822b28440eb7bd2e37a3f19f8f9e8d46e9769a97ba2357d248f057fe3ce9534"), looks := false }, kinds := [], alts := [], laidByText := true, laidKinds := [.data, .data, .data, .data, .pinned], laidTests := true, laidLooks := .later }
def TreeLinesCardSaid : Prop := Claim7.holds Tryz.pinned (.plain (OpenSpec.ofChange treeLinesSpec)) treeLinesCard

/-- THE TIED CARD OF 'licitlaw03.TreeDiffers'. -/
def treeDiffersCard : Claim7 := { stood := { row := treeDiffersRow, standIns := [], harness := (true, "4822b28440eb7bd2e37a3f19f8f9e8d46e9769a97ba2357d248f057fe3ce9534"), looks := false }, kinds := [], alts := [], laidByText := true, laidKinds := [.data, .data, .data, .data, .pinned], laidTests := true, laidLooks := .later }
def TreeDiffersCardSaid : Prop := Claim7.holds Tryz.pinned (.plain (OpenSpec.ofChange treeDiffersSpec)) treeDiffersCard

/-- THE TIED CARD OF 'licitlaw03.TreeReplaces'. -/
def treeReplacesCard : Claim7 := { stood := { row := treeReplacesRow, standIns := [], harness := (true, "4822b28440eb7bd2e37a3f19f8f9e8d46e9769a97ba2357d248f057fe3ce9534"), looks := false }, kinds := [], alts := [], laidByText := true, laidKinds := [.data, .data, .data, .data, .pinned], laidTests := true, laidLooks := .later }
def TreeReplacesCardSaid : Prop := Claim7.holds Tryz.pinned (.plain (OpenSpec.ofChange treeReplacesSpec)) treeReplacesCard

/-- THE TIED CARD OF 'licitlaw03.TreeLeads'. -/
def treeLeadsCard : Claim7 := { stood := { row := treeLeadsRow, standIns := [], harness := (true, "4822b28440eb7bd2e37a3f19f8f9e8d46e9769a97ba2357d248f057fe3ce9534"), looks := false }, kinds := [], alts := [], laidByText := true, laidKinds := [.data, .data, .data, .data, .pinned], laidTests := true, laidLooks := .later }
def TreeLeadsCardSaid : Prop := Claim7.holds Tryz.pinned (.plain (OpenSpec.ofChange treeLeadsSpec)) treeLeadsCard

/-- THE SECOND FORM's CARD OF 'licitlaw03.TreeFiles'. -/
def treeFilesUptoCard : Claim7 := { stood := { row := treeFilesUptoRow, standIns := [], harness := (true, "4822b28440eb7bd2e37a3f19f8f9e8d46e9769a97ba2357d248f057fe3ce9534"), looks := false }, kinds := [], alts := [], laidByText := true, laidKinds := [.data, .data, .data, .data, .pinned], laidTests := true, laidLooks := .later }
def TreeFilesUptoCardSaid : Prop := Claim7.holds Tryz.pinned (.plain (OpenSpec.upto treeFilesSpec)) treeFilesUptoCard

/-- THE SECOND FORM's CARD OF 'licitlaw03.TreePlaces'. -/
def treePlacesUptoCard : Claim7 := { stood := { row := treePlacesUptoRow, standIns := [], harness := (true, "4822b28440eb7bd2e37a3f19f8f9e8d46e9769a97ba2357d248f057fe3ce9534"), looks := false }, kinds := [], alts := [], laidByText := true, laidKinds := [.data, .data, .data, .data, .pinned], laidTests := true, laidLooks := .later }
def TreePlacesUptoCardSaid : Prop := Claim7.holds Tryz.pinned (.plain (OpenSpec.upto treePlacesSpec)) treePlacesUptoCard

/-- THE SECOND FORM's CARD OF 'licitlaw03.TreePaths'. -/
def treePathsUptoCard : Claim7 := { stood := { row := treePathsUptoRow, standIns := [], harness := (true, "4822b28440eb7bd2e37a3f19f8f9e8d46e9769a97ba2357d248f057fe3ce9534"), looks := false }, kinds := [], alts := [], laidByText := true, laidKinds := [.data, .data, .data, .data, .pinned], laidTests := true, laidLooks := .later }
def TreePathsUptoCardSaid : Prop := Claim7.holds Tryz.pinned (.plain (OpenSpec.upto treePathsSpec)) treePathsUptoCard

/-- THE SECOND FORM's CARD OF 'licitlaw03.TreeIDs'. -/
def treeIDsUptoCard : Claim7 := { stood := { row := treeIDsUptoRow, standIns := [], harness := (true, "4822b28440eb7bd2e37a3f19f8f9e8d46e9769a97ba2357d248f057fe3ce9534"), looks := false }, kinds := [], alts := [], laidByText := true, laidKinds := [.data, .data, .data, .data, .pinned], laidTests := true, laidLooks := .later }
def TreeIDsUptoCardSaid : Prop := Claim7.holds Tryz.pinned (.plain (OpenSpec.upto treeIDsSpec)) treeIDsUptoCard

/-- THE SECOND FORM's CARD OF 'licitlaw03.TreeLines'. -/
def treeLinesUptoCard : Claim7 := { stood := { row := treeLinesUptoRow, standIns := [], harness := (true, "4822b28440eb7bd2e37a3f19f8f9e8d46e9769a97ba2357d248f057fe3ce9534"), looks := false }, kinds := [], alts := [], laidByText := true, laidKinds := [.data, .data, .data, .data, .pinned], laidTests := true, laidLooks := .later }
def TreeLinesUptoCardSaid : Prop := Claim7.holds Tryz.pinned (.plain (OpenSpec.upto treeLinesSpec)) treeLinesUptoCard

/-- THE SECOND FORM's CARD OF 'licitlaw03.TreeDiffers'. -/
def treeDiffersUptoCard : Claim7 := { stood := { row := treeDiffersUptoRow, standIns := [], harness := (true, "4822b28440eb7bd2e37a3f19f8f9e8d46e9769a97ba2357d248f057fe3ce9534"), looks := false }, kinds := [], alts := [], laidByText := true, laidKinds := [.data, .data, .data, .data, .pinned], laidTests := true, laidLooks := .later }
def TreeDiffersUptoCardSaid : Prop := Claim7.holds Tryz.pinned (.plain (OpenSpec.upto treeDiffersSpec)) treeDiffersUptoCard

/-- THE SECOND FORM's CARD OF 'licitlaw03.TreeReplaces'. -/
def treeReplacesUptoCard : Claim7 := { stood := { row := treeReplacesUptoRow, standIns := [], harness := (true, "4822b28440eb7bd2e37a3f19f8f9e8d46e9769a97ba2357d248f057fe3ce9534"), looks := false }, kinds := [], alts := [], laidByText := true, laidKinds := [.data, .data, .data, .data, .pinned], laidTests := true, laidLooks := .later }
def TreeReplacesUptoCardSaid : Prop := Claim7.holds Tryz.pinned (.plain (OpenSpec.upto treeReplacesSpec)) treeReplacesUptoCard

/-- THE SECOND FORM's CARD OF 'licitlaw03.TreeLeads'. -/
def treeLeadsUptoCard : Claim7 := { stood := { row := treeLeadsUptoRow, standIns := [], harness := (true, "4822b28440eb7bd2e37a3f19f8f9e8d46e9769a97ba2357d248f057fe3ce9534"), looks := false }, kinds := [], alts := [], laidByText := true, laidKinds := [.data, .data, .data, .data, .pinned], laidTests := true, laidLooks := .later }
def TreeLeadsUptoCardSaid : Prop := Claim7.holds Tryz.pinned (.plain (OpenSpec.upto treeLeadsSpec)) treeLeadsUptoCard
end Rows
end Go.Proofs.YtclhbcicbnoohaaGreatDoor
