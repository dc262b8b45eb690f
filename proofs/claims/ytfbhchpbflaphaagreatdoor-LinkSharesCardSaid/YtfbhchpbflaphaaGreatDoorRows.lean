/-
  NARROWER THAN 'FOR EVERY INPUT', by the rows' own cells (each row's printed sentence says how): LinkPrograms: laid · LinkShares: laid · LinkResolves: laid · LinkPlaces: laid · LinkExports: laid · LinkUnread: laid · LinkFound: laid.
  DERIVED. THE GIVEN ROWS OF THIS SEAT. 7 by the template 'for every input the law returns true; each argument reads behind the call as it read before'; 0 by the template 'total and deterministic' (their statements: YtfbhchpbflaphaaGreatDoorTotals.lean).
  GIVEN WITH THE SEED: the statements are not yours to turn. If you find one false, say at which input.
  Laid BY PROGRAM, IN A SANDBOX (cutbox-rows.mjs): the forced cells as the released guide's own fill.sh prints them over the translation fdbeb5fd2ddd7404… (all of the seat's roots in one cut). By AI agents, Wed Nov 11 2026. No macro, syntax, notation, axiom, sorry.
-/
import Derived.Test.YtfbhchpbflaphaaGreatDoorChecked
import GoSem.PinnedTables
import GoSem.Claim
import GoSem.ClaimJoined
import GoSem.ClaimMapViews
import Derived.JoinedTies
import Derived.KernelRfl
namespace Go.Proofs.YtfbhchpbflaphaaGreatDoor
/- THE CELL 'sum', in the pinned program and in every row, IS THE sha256 OF THE DUMP (.gsa) THAT YtfbhchpbflaphaaGreatDoorProg.lean LOADS. Nothing in Lean hashes anything: it is a label: what it is worth is what the hold of that sum in a sandbox is worth. -/
noncomputable def Tryz.pinned : Pinned := { name := "ytfbhchpbflaphaagreatdoor", sum := "fdbeb5fd2ddd74045e381e43290f22c3d5d6289fbbd14c38a18e95cc9e3e1dc5", checked := Tryz.checked }
namespace Rows
def none {H : Type} : Left H := { results := [], args := [] }

/- WHAT THE LISTED PACKAGE-LEVEL VARIABLES READ AS WHEN THE CALL BEGINS. Each datum BY PROGRAM (the guide's laid-datum.mjs) off the statement by which the dump's own 'gosem.cut.vars' lays the variable. In a bare row this is a premise. The card (YtfbhchpbflaphaaGreatDoorCards.lean) ties it to the program's text. -/
def laid_unicode_utf8_acceptRanges {H : Type} : DataW H := .agg [.agg [.lit (.int .u8 128), .lit (.int .u8 191)], .agg [.lit (.int .u8 160), .lit (.int .u8 191)], .agg [.lit (.int .u8 128), .lit (.int .u8 159)], .agg [.lit (.int .u8 144), .lit (.int .u8 191)], .agg [.lit (.int .u8 128), .lit (.int .u8 143)], .agg [.lit (.int .u8 0), .lit (.int .u8 0)], .agg [.lit (.int .u8 0), .lit (.int .u8 0)], .agg [.lit (.int .u8 0), .lit (.int .u8 0)], .agg [.lit (.int .u8 0), .lit (.int .u8 0)], .agg [.lit (.int .u8 0), .lit (.int .u8 0)], .agg [.lit (.int .u8 0), .lit (.int .u8 0)], .agg [.lit (.int .u8 0), .lit (.int .u8 0)], .agg [.lit (.int .u8 0), .lit (.int .u8 0)], .agg [.lit (.int .u8 0), .lit (.int .u8 0)], .agg [.lit (.int .u8 0), .lit (.int .u8 0)], .agg [.lit (.int .u8 0), .lit (.int .u8 0)]]
/-- One of Go's own tables, pinned by name: the form's constant. -/
def laid_unicode_utf8_first : DataW Unit := Go.Pinned.utf8First

/-- 'licitlaw11.LinkPrograms': WHATEVER THE INPUT: true; the input reads as it did. -/
def linkProgramsSpec : ChangeSpec := { name := "linkPrograms", fn := fun _ => fun
  | [d] => { results := [.lit (.bool true)], args := [d] }
  | _ => none }
def linkProgramsRow : OpenClaim := { program := "ytfbhchpbflaphaagreatdoor", sum := "fdbeb5fd2ddd74045e381e43290f22c3d5d6289fbbd14c38a18e95cc9e3e1dc5", func := "licit/licitlaw11.LinkPrograms", spec := "linkPrograms", inPlace := ["internal/bytealg.IndexByteString", "internal/bytealg.CountString", "internal/bytealg.IndexString"], unfollowed := true, recurses := true, named := ["unicode/utf8.first", "unicode/utf8.acceptRanges", "internal/bytealg.MaxLen"], plainKeys := false, apart := false, laid := [("unicode/utf8.acceptRanges", laid_unicode_utf8_acceptRanges), ("unicode/utf8.first", laid_unicode_utf8_first)] }
def LinkProgramsSaid : Prop := linkProgramsRow.holds Tryz.pinned (OpenSpec.ofChange linkProgramsSpec)

/-- ITS FALSE NEIGHBOUR: 'it returns false'. Refute it at one input. -/
def linkProgramsWrong : ChangeSpec := { name := "linkPrograms", fn := fun _ => fun
  | [d] => { results := [.lit (.bool false)], args := [d] }
  | _ => none }
def LinkProgramsWrongFalsely : Prop := linkProgramsRow.holds Tryz.pinned (OpenSpec.ofChange linkProgramsWrong)

/-- 'licitlaw11.LinkShares': WHATEVER THE INPUT: true; the input reads as it did. -/
def linkSharesSpec : ChangeSpec := { name := "linkShares", fn := fun _ => fun
  | [d] => { results := [.lit (.bool true)], args := [d] }
  | _ => none }
def linkSharesRow : OpenClaim := { program := "ytfbhchpbflaphaagreatdoor", sum := "fdbeb5fd2ddd74045e381e43290f22c3d5d6289fbbd14c38a18e95cc9e3e1dc5", func := "licit/licitlaw11.LinkShares", spec := "linkShares", inPlace := ["internal/bytealg.IndexByteString", "internal/bytealg.CountString", "internal/bytealg.IndexString"], unfollowed := true, recurses := true, named := ["unicode/utf8.first", "unicode/utf8.acceptRanges", "internal/bytealg.MaxLen"], plainKeys := false, apart := false, laid := [("unicode/utf8.acceptRanges", laid_unicode_utf8_acceptRanges), ("unicode/utf8.first", laid_unicode_utf8_first)] }
def LinkSharesSaid : Prop := linkSharesRow.holds Tryz.pinned (OpenSpec.ofChange linkSharesSpec)

/-- ITS FALSE NEIGHBOUR: 'it returns false'. Refute it at one input. -/
def linkSharesWrong : ChangeSpec := { name := "linkShares", fn := fun _ => fun
  | [d] => { results := [.lit (.bool false)], args := [d] }
  | _ => none }
def LinkSharesWrongFalsely : Prop := linkSharesRow.holds Tryz.pinned (OpenSpec.ofChange linkSharesWrong)

/-- 'licitlaw11.LinkResolves': WHATEVER THE INPUT: true; the input reads as it did. -/
def linkResolvesSpec : ChangeSpec := { name := "linkResolves", fn := fun _ => fun
  | [d] => { results := [.lit (.bool true)], args := [d] }
  | _ => none }
def linkResolvesRow : OpenClaim := { program := "ytfbhchpbflaphaagreatdoor", sum := "fdbeb5fd2ddd74045e381e43290f22c3d5d6289fbbd14c38a18e95cc9e3e1dc5", func := "licit/licitlaw11.LinkResolves", spec := "linkResolves", inPlace := ["internal/bytealg.IndexByteString", "internal/bytealg.CountString", "internal/bytealg.IndexString"], unfollowed := true, recurses := true, named := ["unicode/utf8.first", "unicode/utf8.acceptRanges", "internal/bytealg.MaxLen"], plainKeys := false, apart := false, laid := [("unicode/utf8.acceptRanges", laid_unicode_utf8_acceptRanges), ("unicode/utf8.first", laid_unicode_utf8_first)] }
def LinkResolvesSaid : Prop := linkResolvesRow.holds Tryz.pinned (OpenSpec.ofChange linkResolvesSpec)

/-- ITS FALSE NEIGHBOUR: 'it returns false'. Refute it at one input. -/
def linkResolvesWrong : ChangeSpec := { name := "linkResolves", fn := fun _ => fun
  | [d] => { results := [.lit (.bool false)], args := [d] }
  | _ => none }
def LinkResolvesWrongFalsely : Prop := linkResolvesRow.holds Tryz.pinned (OpenSpec.ofChange linkResolvesWrong)

/-- 'licitlaw11.LinkPlaces': WHATEVER THE INPUT: true; the input reads as it did. -/
def linkPlacesSpec : ChangeSpec := { name := "linkPlaces", fn := fun _ => fun
  | [d] => { results := [.lit (.bool true)], args := [d] }
  | _ => none }
def linkPlacesRow : OpenClaim := { program := "ytfbhchpbflaphaagreatdoor", sum := "fdbeb5fd2ddd74045e381e43290f22c3d5d6289fbbd14c38a18e95cc9e3e1dc5", func := "licit/licitlaw11.LinkPlaces", spec := "linkPlaces", inPlace := ["internal/bytealg.IndexByteString", "internal/bytealg.CountString", "internal/bytealg.IndexString"], unfollowed := true, recurses := true, named := ["unicode/utf8.first", "unicode/utf8.acceptRanges", "internal/bytealg.MaxLen"], plainKeys := false, apart := false, laid := [("unicode/utf8.acceptRanges", laid_unicode_utf8_acceptRanges), ("unicode/utf8.first", laid_unicode_utf8_first)] }
def LinkPlacesSaid : Prop := linkPlacesRow.holds Tryz.pinned (OpenSpec.ofChange linkPlacesSpec)

/-- ITS FALSE NEIGHBOUR: 'it returns false'. Refute it at one input. -/
def linkPlacesWrong : ChangeSpec := { name := "linkPlaces", fn := fun _ => fun
  | [d] => { results := [.lit (.bool false)], args := [d] }
  | _ => none }
def LinkPlacesWrongFalsely : Prop := linkPlacesRow.holds Tryz.pinned (OpenSpec.ofChange linkPlacesWrong)

/-- 'licitlaw11.LinkExports': WHATEVER THE INPUT: true; the input reads as it did. -/
def linkExportsSpec : ChangeSpec := { name := "linkExports", fn := fun _ => fun
  | [d] => { results := [.lit (.bool true)], args := [d] }
  | _ => none }
def linkExportsRow : OpenClaim := { program := "ytfbhchpbflaphaagreatdoor", sum := "fdbeb5fd2ddd74045e381e43290f22c3d5d6289fbbd14c38a18e95cc9e3e1dc5", func := "licit/licitlaw11.LinkExports", spec := "linkExports", inPlace := ["internal/bytealg.IndexByteString", "internal/bytealg.CountString", "internal/bytealg.IndexString"], unfollowed := true, recurses := true, named := ["unicode/utf8.first", "unicode/utf8.acceptRanges", "internal/bytealg.MaxLen"], plainKeys := false, apart := false, laid := [("unicode/utf8.acceptRanges", laid_unicode_utf8_acceptRanges), ("unicode/utf8.first", laid_unicode_utf8_first)] }
def LinkExportsSaid : Prop := linkExportsRow.holds Tryz.pinned (OpenSpec.ofChange linkExportsSpec)

/-- ITS FALSE NEIGHBOUR: 'it returns false'. Refute it at one input. -/
def linkExportsWrong : ChangeSpec := { name := "linkExports", fn := fun _ => fun
  | [d] => { results := [.lit (.bool false)], args := [d] }
  | _ => none }
def LinkExportsWrongFalsely : Prop := linkExportsRow.holds Tryz.pinned (OpenSpec.ofChange linkExportsWrong)

/-- 'licitlaw11.LinkUnread': WHATEVER THE INPUT: true; the input reads as it did. -/
def linkUnreadSpec : ChangeSpec := { name := "linkUnread", fn := fun _ => fun
  | [d1, d2] => { results := [.lit (.bool true)], args := [d1, d2] }
  | _ => none }
def linkUnreadRow : OpenClaim := { program := "ytfbhchpbflaphaagreatdoor", sum := "fdbeb5fd2ddd74045e381e43290f22c3d5d6289fbbd14c38a18e95cc9e3e1dc5", func := "licit/licitlaw11.LinkUnread", spec := "linkUnread", inPlace := ["internal/bytealg.IndexByteString", "internal/bytealg.CountString", "internal/bytealg.IndexString"], unfollowed := true, recurses := true, named := ["unicode/utf8.first", "unicode/utf8.acceptRanges", "internal/bytealg.MaxLen"], plainKeys := false, apart := false, laid := [("unicode/utf8.acceptRanges", laid_unicode_utf8_acceptRanges), ("unicode/utf8.first", laid_unicode_utf8_first)] }
def LinkUnreadSaid : Prop := linkUnreadRow.holds Tryz.pinned (OpenSpec.ofChange linkUnreadSpec)

/-- ITS FALSE NEIGHBOUR: 'it returns false'. Refute it at one input. -/
def linkUnreadWrong : ChangeSpec := { name := "linkUnread", fn := fun _ => fun
  | [d1, d2] => { results := [.lit (.bool false)], args := [d1, d2] }
  | _ => none }
def LinkUnreadWrongFalsely : Prop := linkUnreadRow.holds Tryz.pinned (OpenSpec.ofChange linkUnreadWrong)

/-- 'licitlaw11.LinkFound': WHATEVER THE INPUT: true; the input reads as it did. -/
def linkFoundSpec : ChangeSpec := { name := "linkFound", fn := fun _ => fun
  | [d] => { results := [.lit (.bool true)], args := [d] }
  | _ => none }
def linkFoundRow : OpenClaim := { program := "ytfbhchpbflaphaagreatdoor", sum := "fdbeb5fd2ddd74045e381e43290f22c3d5d6289fbbd14c38a18e95cc9e3e1dc5", func := "licit/licitlaw11.LinkFound", spec := "linkFound", inPlace := ["internal/bytealg.IndexByteString", "internal/bytealg.CountString", "internal/bytealg.IndexString"], unfollowed := true, recurses := true, named := ["unicode/utf8.first", "unicode/utf8.acceptRanges", "internal/bytealg.MaxLen"], plainKeys := false, apart := false, laid := [("unicode/utf8.acceptRanges", laid_unicode_utf8_acceptRanges), ("unicode/utf8.first", laid_unicode_utf8_first)] }
def LinkFoundSaid : Prop := linkFoundRow.holds Tryz.pinned (OpenSpec.ofChange linkFoundSpec)

/-- ITS FALSE NEIGHBOUR: 'it returns false'. Refute it at one input. -/
def linkFoundWrong : ChangeSpec := { name := "linkFound", fn := fun _ => fun
  | [d] => { results := [.lit (.bool false)], args := [d] }
  | _ => none }
def LinkFoundWrongFalsely : Prop := linkFoundRow.holds Tryz.pinned (OpenSpec.ofChange linkFoundWrong)

/- THE SECOND FORM. 'bulk': how many values and letters a reading holds, each counted each time it is reached (what is shared counts as often as it is met; a slice's spare places count too). A statement '..UptoSaid' is the law's where the arguments, and the package variables that the reading takes, are together of bulk at most 1048576: NARROWER than '..Said'. Prove '..Said' where nothing that the law and all that it calls make is longer than what came in: it says more and counts as full. Else prove '..UptoSaid'. A law counts once. -/
mutual
def uptoBulk {H : Type} : DataW H → Nat
  | .lit (.string bytes) => bytes.length + 1
  | .lit _ => 1
  | .nil => 1
  | .ptr d => uptoBulk d + 1
  | .slice elems spare => uptoBulkAll elems + uptoBulkAll spare + 1
  | .agg parts => uptoBulkAll parts + 1
  | .iface _ d => uptoBulk d + 1
  | .map entries => uptoBulkEntries entries + 1
  | .held _ => 1
def uptoBulkAll {H : Type} : List (DataW H) → Nat
  | [] => 0
  | d :: r => uptoBulk d + uptoBulkAll r
def uptoBulkEntries {H : Type} : List (Lit × DataW H) → Nat
  | [] => 0
  | x :: r => uptoBulkEntry x + uptoBulkEntries r
def uptoBulkEntry {H : Type} : Lit × DataW H → Nat
  | (.string bytes, d) => bytes.length + uptoBulk d + 1
  | (_, d) => uptoBulk d + 1
 end
def uptoSmall : (H : Type) → List (DataW H) → Bool := fun _ ds => decide (uptoBulkAll ds ≤ 1048576)
def OpenSpec.upto (s : _root_.Go.ChangeSpec) : _root_.Go.OpenSpec := { _root_.Go.OpenSpec.ofChange s with cond := some uptoSmall }

/-- 'licitlaw11.LinkPrograms', WHERE WHAT IT READS IS OF BULK AT MOST 1048576: true; the input reads as it did. -/
def linkProgramsUptoRow : OpenClaim := { program := "ytfbhchpbflaphaagreatdoor", sum := "fdbeb5fd2ddd74045e381e43290f22c3d5d6289fbbd14c38a18e95cc9e3e1dc5", func := "licit/licitlaw11.LinkPrograms", spec := "linkPrograms", inPlace := ["internal/bytealg.IndexByteString", "internal/bytealg.CountString", "internal/bytealg.IndexString"], unfollowed := true, recurses := true, named := ["unicode/utf8.first", "unicode/utf8.acceptRanges", "internal/bytealg.MaxLen"], plainKeys := false, apart := false, laid := [("unicode/utf8.acceptRanges", laid_unicode_utf8_acceptRanges), ("unicode/utf8.first", laid_unicode_utf8_first)], narrowed := true }
def LinkProgramsUptoSaid : Prop := linkProgramsUptoRow.holds Tryz.pinned (OpenSpec.upto linkProgramsSpec)

/-- 'licitlaw11.LinkShares', WHERE WHAT IT READS IS OF BULK AT MOST 1048576: true; the input reads as it did. -/
def linkSharesUptoRow : OpenClaim := { program := "ytfbhchpbflaphaagreatdoor", sum := "fdbeb5fd2ddd74045e381e43290f22c3d5d6289fbbd14c38a18e95cc9e3e1dc5", func := "licit/licitlaw11.LinkShares", spec := "linkShares", inPlace := ["internal/bytealg.IndexByteString", "internal/bytealg.CountString", "internal/bytealg.IndexString"], unfollowed := true, recurses := true, named := ["unicode/utf8.first", "unicode/utf8.acceptRanges", "internal/bytealg.MaxLen"], plainKeys := false, apart := false, laid := [("unicode/utf8.acceptRanges", laid_unicode_utf8_acceptRanges), ("unicode/utf8.first", laid_unicode_utf8_first)], narrowed := true }
def LinkSharesUptoSaid : Prop := linkSharesUptoRow.holds Tryz.pinned (OpenSpec.upto linkSharesSpec)

/-- 'licitlaw11.LinkResolves', WHERE WHAT IT READS IS OF BULK AT MOST 1048576: true; the input reads as it did. -/
def linkResolvesUptoRow : OpenClaim := { program := "ytfbhchpbflaphaagreatdoor", sum := "fdbeb5fd2ddd74045e381e43290f22c3d5d6289fbbd14c38a18e95cc9e3e1dc5", func := "licit/licitlaw11.LinkResolves", spec := "linkResolves", inPlace := ["internal/bytealg.IndexByteString", "internal/bytealg.CountString", "internal/bytealg.IndexString"], unfollowed := true, recurses := true, named := ["unicode/utf8.first", "unicode/utf8.acceptRanges", "internal/bytealg.MaxLen"], plainKeys := false, apart := false, laid := [("unicode/utf8.acceptRanges", laid_unicode_utf8_acceptRanges), ("unicode/utf8.first", laid_unicode_utf8_first)], narrowed := true }
def LinkResolvesUptoSaid : Prop := linkResolvesUptoRow.holds Tryz.pinned (OpenSpec.upto linkResolvesSpec)

/-- 'licitlaw11.LinkPlaces', WHERE WHAT IT READS IS OF BULK AT MOST 1048576: true; the input reads as it did. -/
def linkPlacesUptoRow : OpenClaim := { program := "ytfbhchpbflaphaagreatdoor", sum := "fdbeb5fd2ddd74045e381e43290f22c3d5d6289fbbd14c38a18e95cc9e3e1dc5", func := "licit/licitlaw11.LinkPlaces", spec := "linkPlaces", inPlace := ["internal/bytealg.IndexByteString", "internal/bytealg.CountString", "internal/bytealg.IndexString"], unfollowed := true, recurses := true, named := ["unicode/utf8.first", "unicode/utf8.acceptRanges", "internal/bytealg.MaxLen"], plainKeys := false, apart := false, laid := [("unicode/utf8.acceptRanges", laid_unicode_utf8_acceptRanges), ("unicode/utf8.first", laid_unicode_utf8_first)], narrowed := true }
def LinkPlacesUptoSaid : Prop := linkPlacesUptoRow.holds Tryz.pinned (OpenSpec.upto linkPlacesSpec)

/-- 'licitlaw11.LinkExports', WHERE WHAT IT READS IS OF BULK AT MOST 1048576: true; the input reads as it did. -/
def linkExportsUptoRow : OpenClaim := { program := "ytfbhchpbflaphaagreatdoor", sum := "fdbeb5fd2ddd74045e381e43290f22c3d5d6289fbbd14c38a18e95cc9e3e1dc5", func := "licit/licitlaw11.LinkExports", spec := "linkExports", inPlace := ["internal/bytealg.IndexByteString", "internal/bytealg.CountString", "internal/bytealg.IndexString"], unfollowed := true, recurses := true, named := ["unicode/utf8.first", "unicode/utf8.acceptRanges", "internal/bytealg.MaxLen"], plainKeys := false, apart := false, laid := [("unicode/utf8.acceptRanges", laid_unicode_utf8_acceptRanges), ("unicode/utf8.first", laid_unicode_utf8_first)], narrowed := true }
def LinkExportsUptoSaid : Prop := linkExportsUptoRow.holds Tryz.pinned (OpenSpec.upto linkExportsSpec)

/-- 'licitlaw11.LinkUnread', WHERE WHAT IT READS IS OF BULK AT MOST 1048576: true; the input reads as it did. -/
def linkUnreadUptoRow : OpenClaim := { program := "ytfbhchpbflaphaagreatdoor", sum := "fdbeb5fd2ddd74045e381e43290f22c3d5d6289fbbd14c38a18e95cc9e3e1dc5", func := "licit/licitlaw11.LinkUnread", spec := "linkUnread", inPlace := ["internal/bytealg.IndexByteString", "internal/bytealg.CountString", "internal/bytealg.IndexString"], unfollowed := true, recurses := true, named := ["unicode/utf8.first", "unicode/utf8.acceptRanges", "internal/bytealg.MaxLen"], plainKeys := false, apart := false, laid := [("unicode/utf8.acceptRanges", laid_unicode_utf8_acceptRanges), ("unicode/utf8.first", laid_unicode_utf8_first)], narrowed := true }
def LinkUnreadUptoSaid : Prop := linkUnreadUptoRow.holds Tryz.pinned (OpenSpec.upto linkUnreadSpec)

/-- 'licitlaw11.LinkFound', WHERE WHAT IT READS IS OF BULK AT MOST 1048576: true; the input reads as it did. -/
def linkFoundUptoRow : OpenClaim := { program := "ytfbhchpbflaphaagreatdoor", sum := "fdbeb5fd2ddd74045e381e43290f22c3d5d6289fbbd14c38a18e95cc9e3e1dc5", func := "licit/licitlaw11.LinkFound", spec := "linkFound", inPlace := ["internal/bytealg.IndexByteString", "internal/bytealg.CountString", "internal/bytealg.IndexString"], unfollowed := true, recurses := true, named := ["unicode/utf8.first", "unicode/utf8.acceptRanges", "internal/bytealg.MaxLen"], plainKeys := false, apart := false, laid := [("unicode/utf8.acceptRanges", laid_unicode_utf8_acceptRanges), ("unicode/utf8.first", laid_unicode_utf8_first)], narrowed := true }
def LinkFoundUptoSaid : Prop := linkFoundUptoRow.holds Tryz.pinned (OpenSpec.upto linkFoundSpec)

end Rows
end Go.Proofs.YtfbhchpbflaphaaGreatDoor
