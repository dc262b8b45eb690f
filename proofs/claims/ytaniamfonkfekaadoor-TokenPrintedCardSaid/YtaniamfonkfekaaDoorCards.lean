/-
  DERIVED. GIVEN WITH THE SEED: THE CARDS: each row of YtaniamfonkfekaaDoorRows.lean that lists a variable, with what it lists TIED to the program's text (the seventh form; the later family's looks); each row that meets fmt, with fmt's text TOLD by the authors' own Lean function (tested against real Go, not proved from fmt's source: count such statements apart). THE CARD IS WHAT COUNTS. Prove the row's statement (the work); the ties are given (YtaniamfonkfekaaDoorTie.lean); close each card by the builder's one call (the guide's Derived/Test/ToyasCard.lean, 'card_holds'). Laid BY PROGRAM, IN A SANDBOX (cutbox-door.mjs). By AI agents, Wed Nov 11 2026. No macro, syntax, notation, axiom, sorry.
-/
import Derived.Test.YtaniamfonkfekaaDoorRows
import GoSem.ClaimSeven
namespace Go.Proofs.YtaniamfonkfekaaDoor
namespace Rows

/-- THE TIED CARD OF 'licitlaw05.TokenPrinted'. -/
def tokenPrintedCard : Claim7 := { stood := { row := tokenPrintedRow, standIns := [], harness := (true, "451b8f5348d0dde5fd00c1755f40b71af406f1056f08535ccdb23081441a1930"), looks := false }, kinds := [], alts := [], laidByText := true, laidKinds := [.data, .pinned], laidTests := true, laidLooks := .later }
def TokenPrintedCardSaid : Prop := Claim7.holds Tryd.pinned (.plain (OpenSpec.ofChange tokenPrintedSpec)) tokenPrintedCard

/-- THE SECOND FORM's CARD OF 'licitlaw05.TokenPrinted'. -/
def tokenPrintedUptoCard : Claim7 := { stood := { row := tokenPrintedUptoRow, standIns := [], harness := (true, "451b8f5348d0dde5fd00c1755f40b71af406f1056f08535ccdb23081441a1930"), looks := false }, kinds := [], alts := [], laidByText := true, laidKinds := [.data, .pinned], laidTests := true, laidLooks := .later }
def TokenPrintedUptoCardSaid : Prop := Claim7.holds Tryd.pinned (.plain (OpenSpec.upto tokenPrintedSpec)) tokenPrintedUptoCard
end Rows
end Go.Proofs.YtaniamfonkfekaaDoor
