/-
  DERIVED. GIVEN WITH THE SEED: THE CARDS: each row of YtfbhchpbflaphaaGreatDoorRows.lean that lists a variable, with what it lists TIED to the program's text (the seventh form; the later family's looks); each row that meets fmt, with fmt's text TOLD by the authors' own Lean function (tested against real Go, not proved from fmt's source: count such statements apart). THE CARD IS WHAT COUNTS. Prove the row's statement (the work); the ties are given (YtfbhchpbflaphaaGreatDoorTie.lean); close each card by the builder's one call (the guide's Derived/Test/ToyasCard.lean, 'card_holds'). Laid BY PROGRAM, IN A SANDBOX (cutbox-door.mjs). By AI agents, Wed Nov 11 2026. No macro, syntax, notation, axiom, sorry.
-/
import Derived.Test.YtfbhchpbflaphaaGreatDoorRows
import GoSem.ClaimSeven
namespace Go.Proofs.YtfbhchpbflaphaaGreatDoor
namespace Rows

/-- THE TIED CARD OF 'licitlaw11.LinkPrograms'. -/
def linkProgramsCard : Claim7 := { stood := { row := linkProgramsRow, standIns := [], harness := (true, "0b1bf69e0e387845313f8118cbbd929aea5a70336425044d1fc00490b1ca72a5"), looks := false }, kinds := [], alts := [], laidByText := true, laidKinds := [.data, .pinned], laidTests := true, laidLooks := .later }
def LinkProgramsCardSaid : Prop := Claim7.holds Tryz.pinned (.plain (OpenSpec.ofChange linkProgramsSpec)) linkProgramsCard

/-- THE TIED CARD OF 'licitlaw11.LinkShares'. -/
def linkSharesCard : Claim7 := { stood := { row := linkSharesRow, standIns := [], harness := (true, "0b1bf69e0e387845313f8118cbbd929aea5a70336425044d1fc00490b1ca72a5"), looks := false }, kinds := [], alts := [], laidByText := true, laidKinds := [.data, .pinned], laidTests := true, laidLooks := .later }
def LinkSharesCardSaid : Prop := Claim7.holds Tryz.pinned (.plain (OpenSpec.ofChange linkSharesSpec)) linkSharesCard

/-- THE TIED CARD OF 'licitlaw11.LinkResolves'. -/
def linkResolvesCard : Claim7 := { stood := { row := linkResolvesRow, standIns := [], harness := (true, "0b1bf69e0e387845313f8118cbbd929aea5a70336425044d1fc00490b1ca72a5"), looks := false }, kinds := [], alts := [], laidByText := true, laidKinds := [.data, .pinned], laidTests := true, laidLooks := .later }
def LinkResolvesCardSaid : Prop := Claim7.holds Tryz.pinned (.plain (OpenSpec.ofChange linkResolvesSpec)) linkResolvesCard

/-- THE TIED CARD OF 'licitlaw11.LinkPlaces'. -/
def linkPlacesCard : Claim7 := { stood := { row := linkPlacesRow, standIns := [], harness := (true, "0b1bf69e0e387845313f8118cbbd929aea5a70336425044d1fc00490b1ca72a5"), looks := false }, kinds := [], alts := [], laidByText := true, laidKinds := [.data, .pinned], laidTests := true, laidLooks := .later }
def LinkPlacesCardSaid : Prop := Claim7.holds Tryz.pinned (.plain (OpenSpec.ofChange linkPlacesSpec)) linkPlacesCard

/-- THE TIED CARD OF 'licitlaw11.LinkExports'. -/
def linkExportsCard : Claim7 := { stood := { row := linkExportsRow, standIns := [], harness := (true, "0b1bf69e0e387845313f8118cbbd929aea5a70336425044d1fc00490b1ca72a5"), looks := false }, kinds := [], alts := [], laidByText := true, laidKinds := [.data, .pinned], laidTests := true, laidLooks := .later }
def LinkExportsCardSaid : Prop := Claim7.holds Tryz.pinned (.plain (OpenSpec.ofChange linkExportsSpec)) linkExportsCard

/-- THE TIED CARD OF 'licitlaw11.LinkUnread'. -/
def linkUnreadCard : Claim7 := { stood := { row := linkUnreadRow, standIns := [], harness := (true, "0b1bf69e0e387845313f8118cbbd929aea5a70336425044d1fc00490b1ca72a5"), looks := false }, kinds := [], alts := [], laidByText := true, laidKinds := [.data, .pinned], laidTests := true, laidLooks := .later }
def LinkUnreadCardSaid : Prop := Claim7.holds Tryz.pinned (.plain (OpenSpec.ofChange linkUnreadSpec)) linkUnreadCard

/-- THE TIED CARD OF 'licitlaw11.LinkFound'. -/
def linkFoundCard : Claim7 := { stood := { row := linkFoundRow, standIns := [], harness := (true, "0b1bf69e0e387845313f8118cbbd929aea5a70336425044d1fc00490b1ca72a5"), looks := false }, kinds := [], alts := [], laidByText := true, laidKinds := [.data, .pinned], laidTests := true, laidLooks := .later }
def LinkFoundCardSaid : Prop := Claim7.holds Tryz.pinned (.plain (OpenSpec.ofChange linkFoundSpec)) linkFoundCard

/-- THE SECOND FORM's CARD OF 'licitlaw11.LinkPrograms'. -/
def linkProgramsUptoCard : Claim7 := { stood := { row := linkProgramsUptoRow, standIns := [], harness := (true, "0b1bf69e0e387845313f8118cbbd929aea5a70336425044d1fc00490b1ca72a5"), looks := false }, kinds := [], alts := [], laidByText := true, laidKinds := [.data, .pinned], laidTests := true, laidLooks := .later }
def LinkProgramsUptoCardSaid : Prop := Claim7.holds Tryz.pinned (.plain (OpenSpec.upto linkProgramsSpec)) linkProgramsUptoCard

/-- THE SECOND FORM's CARD OF 'licitlaw11.LinkShares'. -/
def linkSharesUptoCard : Claim7 := { stood := { row := linkSharesUptoRow, standIns := [], harness := (true, "0b1bf69e0e387845313f8118cbbd929aea5a70336425044d1fc00490b1ca72a5"), looks := false }, kinds := [], alts := [], laidByText := true, laidKinds := [.data, .pinned], laidTests := true, laidLooks := .later }
def LinkSharesUptoCardSaid : Prop := Claim7.holds Tryz.pinned (.plain (OpenSpec.upto linkSharesSpec)) linkSharesUptoCard

/-- THE SECOND FORM's CARD OF 'licitlaw11.LinkResolves'. -/
def linkResolvesUptoCard : Claim7 := { stood := { row := linkResolvesUptoRow, standIns := [], harness := (true, "0b1bf69e0e387845313f8118cbbd929aea5a70336425044d1fc00490b1ca72a5"), looks := false }, kinds := [], alts := [], laidByText := true, laidKinds := [.data, .pinned], laidTests := true, laidLooks := .later }
def LinkResolvesUptoCardSaid : Prop := Claim7.holds Tryz.pinned (.plain (OpenSpec.upto linkResolvesSpec)) linkResolvesUptoCard

/-- THE SECOND FORM's CARD OF 'licitlaw11.LinkPlaces'. -/
def linkPlacesUptoCard : Claim7 := { stood := { row := linkPlacesUptoRow, standIns := [], harness := (true, "0b1bf69e0e387845313f8118cbbd929aea5a70336425044d1fc00490b1ca72a5"), looks := false }, kinds := [], alts := [], laidByText := true, laidKinds := [.data, .pinned], laidTests := true, laidLooks := .later }
def LinkPlacesUptoCardSaid : Prop := Claim7.holds Tryz.pinned (.plain (OpenSpec.upto linkPlacesSpec)) linkPlacesUptoCard

/-- THE SECOND FORM's CARD OF 'licitlaw11.LinkExports'. -/
def linkExportsUptoCard : Claim7 := { stood := { row := linkExportsUptoRow, standIns := [], harness := (true, "0b1bf69e0e387845313f8118cbbd929aea5a70336425044d1fc00490b1ca72a5"), looks := false }, kinds := [], alts := [], laidByText := true, laidKinds := [.data, .pinned], laidTests := true, laidLooks := .later }
def LinkExportsUptoCardSaid : Prop := Claim7.holds Tryz.pinned (.plain (OpenSpec.upto linkExportsSpec)) linkExportsUptoCard

/-- THE SECOND FORM's CARD OF 'licitlaw11.LinkUnread'. -/
def linkUnreadUptoCard : Claim7 := { stood := { row := linkUnreadUptoRow, standIns := [], harness := (true, "0b1bf69e0e387845313f8118cbbd929aea5a70336425044d1fc00490b1ca72a5"), looks := false }, kinds := [], alts := [], laidByText := true, laidKinds := [.data, .pinned], laidTests := true, laidLooks := .later }
def LinkUnreadUptoCardSaid : Prop := Claim7.holds Tryz.pinned (.plain (OpenSpec.upto linkUnreadSpec)) linkUnreadUptoCard

/-- THE SECOND FORM's CARD OF 'licitlaw11.LinkFound'. -/
def linkFoundUptoCard : Claim7 := { stood := { row := linkFoundUptoRow, standIns := [], harness := (true, "0b1bf69e0e387845313f8118cbbd929aea5a70336425044d1fc00490b1ca72a5"), looks := false }, kinds := [], alts := [], laidByText := true, laidKinds := [.data, .pinned], laidTests := true, laidLooks := .later }
def LinkFoundUptoCardSaid : Prop := Claim7.holds Tryz.pinned (.plain (OpenSpec.upto linkFoundSpec)) linkFoundUptoCard
end Rows
end Go.Proofs.YtfbhchpbflaphaaGreatDoor
