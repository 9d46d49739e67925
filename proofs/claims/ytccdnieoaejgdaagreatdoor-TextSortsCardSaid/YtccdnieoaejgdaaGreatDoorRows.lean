/-
  NARROWER THAN 'FOR EVERY INPUT', by the rows' own cells (each row's printed sentence says how): TextHyphens: laid · TextSorts: laid · TextExceptions: laid · TextLevels: laid · TextParts: laid · TextWords: laid · TextBack: laid · TextNeeds: laid · TextPrints: laid · TopHyphensBack: laid.
  DERIVED. THE GIVEN ROWS OF THIS SEAT. 10 by the template 'for every input the law returns true; each argument reads behind the call as it read before'; 0 by the template 'total and deterministic' (their statements: YtccdnieoaejgdaaGreatDoorTotals.lean).
  GIVEN WITH THE SEED: the statements are not yours to turn. If you find one false, say at which input.
  Laid BY PROGRAM, IN A SANDBOX (cutbox-rows.mjs): the forced cells as the released guide's own fill.sh prints them over the translation e2149652239581c4… (all of the seat's roots in one cut). By AI agents, Wed Nov 11 2026. No macro, syntax, notation, axiom, sorry.
-/
import Derived.Test.YtccdnieoaejgdaaGreatDoorChecked
import GoSem.PinnedTables
import GoSem.Claim
import GoSem.ClaimJoined
import GoSem.ClaimMapViews
import Derived.JoinedTies
import Derived.KernelRfl
namespace Go.Proofs.YtccdnieoaejgdaaGreatDoor
/- THE CELL 'sum', in the pinned program and in every row, IS THE sha256 OF THE DUMP (.gsa) THAT YtccdnieoaejgdaaGreatDoorProg.lean LOADS. Nothing in Lean hashes anything: it is a label: what it is worth is what the hold of that sum in a sandbox is worth. -/
noncomputable def Tryz.pinned : Pinned := { name := "ytccdnieoaejgdaagreatdoor", sum := "e2149652239581c406b25707dc903ae6d6f651496cd5731ff745e73b0f831d90", checked := Tryz.checked }
namespace Rows
def none {H : Type} : Left H := { results := [], args := [] }

/- WHAT THE LISTED PACKAGE-LEVEL VARIABLES READ AS WHEN THE CALL BEGINS. Each datum BY PROGRAM (the guide's laid-datum.mjs) off the statement by which the dump's own 'gosem.cut.vars' lays the variable. In a bare row this is a premise. The card (YtccdnieoaejgdaaGreatDoorCards.lean) ties it to the program's text. -/
def laid_unicode_utf8_acceptRanges {H : Type} : DataW H := .agg [.agg [.lit (.int .u8 128), .lit (.int .u8 191)], .agg [.lit (.int .u8 160), .lit (.int .u8 191)], .agg [.lit (.int .u8 128), .lit (.int .u8 159)], .agg [.lit (.int .u8 144), .lit (.int .u8 191)], .agg [.lit (.int .u8 128), .lit (.int .u8 143)], .agg [.lit (.int .u8 0), .lit (.int .u8 0)], .agg [.lit (.int .u8 0), .lit (.int .u8 0)], .agg [.lit (.int .u8 0), .lit (.int .u8 0)], .agg [.lit (.int .u8 0), .lit (.int .u8 0)], .agg [.lit (.int .u8 0), .lit (.int .u8 0)], .agg [.lit (.int .u8 0), .lit (.int .u8 0)], .agg [.lit (.int .u8 0), .lit (.int .u8 0)], .agg [.lit (.int .u8 0), .lit (.int .u8 0)], .agg [.lit (.int .u8 0), .lit (.int .u8 0)], .agg [.lit (.int .u8 0), .lit (.int .u8 0)], .agg [.lit (.int .u8 0), .lit (.int .u8 0)]]
/-- One of Go's own tables, pinned by name: the form's constant. -/
def laid_unicode_utf8_first : DataW Unit := Go.Pinned.utf8First

/-- 'tympanlaw02.TextHyphens': WHATEVER THE INPUT: true; the input reads as it did. -/
def textHyphensSpec : ChangeSpec := { name := "textHyphens", fn := fun _ => fun
  | [d1, d2] => { results := [.lit (.bool true)], args := [d1, d2] }
  | _ => none }
def textHyphensRow : OpenClaim := { program := "ytccdnieoaejgdaagreatdoor", sum := "e2149652239581c406b25707dc903ae6d6f651496cd5731ff745e73b0f831d90", func := "tympan/tympanlaw02.TextHyphens", spec := "textHyphens", inPlace := ["internal/bytealg.CountString", "internal/bytealg.IndexByteString", "internal/bytealg.IndexString"], unfollowed := true, recurses := true, named := ["unicode/utf8.first", "unicode/utf8.acceptRanges", "internal/bytealg.MaxLen"], apart := false, laid := [("unicode/utf8.acceptRanges", laid_unicode_utf8_acceptRanges), ("unicode/utf8.first", laid_unicode_utf8_first)] }
def TextHyphensSaid : Prop := textHyphensRow.holds Tryz.pinned (OpenSpec.ofChange textHyphensSpec)

/-- ITS FALSE NEIGHBOUR: 'it returns false'. Refute it at one input. -/
def textHyphensWrong : ChangeSpec := { name := "textHyphens", fn := fun _ => fun
  | [d1, d2] => { results := [.lit (.bool false)], args := [d1, d2] }
  | _ => none }
def TextHyphensWrongFalsely : Prop := textHyphensRow.holds Tryz.pinned (OpenSpec.ofChange textHyphensWrong)

/-- 'tympanlaw02.TextSorts': WHATEVER THE INPUT: true; the input reads as it did. -/
def textSortsSpec : ChangeSpec := { name := "textSorts", fn := fun _ => fun
  | [d1, d2, d3] => { results := [.lit (.bool true)], args := [d1, d2, d3] }
  | _ => none }
def textSortsRow : OpenClaim := { program := "ytccdnieoaejgdaagreatdoor", sum := "e2149652239581c406b25707dc903ae6d6f651496cd5731ff745e73b0f831d90", func := "tympan/tympanlaw02.TextSorts", spec := "textSorts", inPlace := ["internal/bytealg.CountString", "internal/bytealg.IndexByteString", "internal/bytealg.IndexString"], unfollowed := true, recurses := true, named := ["unicode/utf8.first", "unicode/utf8.acceptRanges", "internal/bytealg.MaxLen"], apart := false, laid := [("unicode/utf8.acceptRanges", laid_unicode_utf8_acceptRanges), ("unicode/utf8.first", laid_unicode_utf8_first)] }
def TextSortsSaid : Prop := textSortsRow.holds Tryz.pinned (OpenSpec.ofChange textSortsSpec)

/-- ITS FALSE NEIGHBOUR: 'it returns false'. Refute it at one input. -/
def textSortsWrong : ChangeSpec := { name := "textSorts", fn := fun _ => fun
  | [d1, d2, d3] => { results := [.lit (.bool false)], args := [d1, d2, d3] }
  | _ => none }
def TextSortsWrongFalsely : Prop := textSortsRow.holds Tryz.pinned (OpenSpec.ofChange textSortsWrong)

/-- 'tympanlaw02.TextExceptions': WHATEVER THE INPUT: true; the input reads as it did. -/
def textExceptionsSpec : ChangeSpec := { name := "textExceptions", fn := fun _ => fun
  | [d1, d2, d3] => { results := [.lit (.bool true)], args := [d1, d2, d3] }
  | _ => none }
def textExceptionsRow : OpenClaim := { program := "ytccdnieoaejgdaagreatdoor", sum := "e2149652239581c406b25707dc903ae6d6f651496cd5731ff745e73b0f831d90", func := "tympan/tympanlaw02.TextExceptions", spec := "textExceptions", inPlace := ["internal/bytealg.CountString", "internal/bytealg.IndexByteString", "internal/bytealg.IndexString"], unfollowed := true, recurses := true, named := ["unicode/utf8.first", "unicode/utf8.acceptRanges", "internal/bytealg.MaxLen"], apart := false, laid := [("unicode/utf8.acceptRanges", laid_unicode_utf8_acceptRanges), ("unicode/utf8.first", laid_unicode_utf8_first)] }
def TextExceptionsSaid : Prop := textExceptionsRow.holds Tryz.pinned (OpenSpec.ofChange textExceptionsSpec)

/-- ITS FALSE NEIGHBOUR: 'it returns false'. Refute it at one input. -/
def textExceptionsWrong : ChangeSpec := { name := "textExceptions", fn := fun _ => fun
  | [d1, d2, d3] => { results := [.lit (.bool false)], args := [d1, d2, d3] }
  | _ => none }
def TextExceptionsWrongFalsely : Prop := textExceptionsRow.holds Tryz.pinned (OpenSpec.ofChange textExceptionsWrong)

/-- 'tympanlaw02.TextLevels': WHATEVER THE INPUT: true; the input reads as it did. -/
def textLevelsSpec : ChangeSpec := { name := "textLevels", fn := fun _ => fun
  | [d1, d2, d3] => { results := [.lit (.bool true)], args := [d1, d2, d3] }
  | _ => none }
def textLevelsRow : OpenClaim := { program := "ytccdnieoaejgdaagreatdoor", sum := "e2149652239581c406b25707dc903ae6d6f651496cd5731ff745e73b0f831d90", func := "tympan/tympanlaw02.TextLevels", spec := "textLevels", inPlace := ["internal/bytealg.CountString", "internal/bytealg.IndexByteString", "internal/bytealg.IndexString"], unfollowed := true, recurses := true, named := ["unicode/utf8.first", "unicode/utf8.acceptRanges", "internal/bytealg.MaxLen"], apart := false, laid := [("unicode/utf8.acceptRanges", laid_unicode_utf8_acceptRanges), ("unicode/utf8.first", laid_unicode_utf8_first)] }
def TextLevelsSaid : Prop := textLevelsRow.holds Tryz.pinned (OpenSpec.ofChange textLevelsSpec)

/-- ITS FALSE NEIGHBOUR: 'it returns false'. Refute it at one input. -/
def textLevelsWrong : ChangeSpec := { name := "textLevels", fn := fun _ => fun
  | [d1, d2, d3] => { results := [.lit (.bool false)], args := [d1, d2, d3] }
  | _ => none }
def TextLevelsWrongFalsely : Prop := textLevelsRow.holds Tryz.pinned (OpenSpec.ofChange textLevelsWrong)

/-- 'tympanlaw02.TextParts': WHATEVER THE INPUT: true; the input reads as it did. -/
def textPartsSpec : ChangeSpec := { name := "textParts", fn := fun _ => fun
  | [d1, d2, d3] => { results := [.lit (.bool true)], args := [d1, d2, d3] }
  | _ => none }
def textPartsRow : OpenClaim := { program := "ytccdnieoaejgdaagreatdoor", sum := "e2149652239581c406b25707dc903ae6d6f651496cd5731ff745e73b0f831d90", func := "tympan/tympanlaw02.TextParts", spec := "textParts", inPlace := ["internal/bytealg.CountString", "internal/bytealg.IndexByteString", "internal/bytealg.IndexString"], unfollowed := true, recurses := true, named := ["unicode/utf8.first", "unicode/utf8.acceptRanges", "internal/bytealg.MaxLen"], apart := false, laid := [("unicode/utf8.acceptRanges", laid_unicode_utf8_acceptRanges), ("unicode/utf8.first", laid_unicode_utf8_first)] }
def TextPartsSaid : Prop := textPartsRow.holds Tryz.pinned (OpenSpec.ofChange textPartsSpec)

/-- ITS FALSE NEIGHBOUR: 'it returns false'. Refute it at one input. -/
def textPartsWrong : ChangeSpec := { name := "textParts", fn := fun _ => fun
  | [d1, d2, d3] => { results := [.lit (.bool false)], args := [d1, d2, d3] }
  | _ => none }
def TextPartsWrongFalsely : Prop := textPartsRow.holds Tryz.pinned (OpenSpec.ofChange textPartsWrong)

/-- 'tympanlaw02.TextWords': WHATEVER THE INPUT: true; the input reads as it did. -/
def textWordsSpec : ChangeSpec := { name := "textWords", fn := fun _ => fun
  | [d1, d2, d3] => { results := [.lit (.bool true)], args := [d1, d2, d3] }
  | _ => none }
def textWordsRow : OpenClaim := { program := "ytccdnieoaejgdaagreatdoor", sum := "e2149652239581c406b25707dc903ae6d6f651496cd5731ff745e73b0f831d90", func := "tympan/tympanlaw02.TextWords", spec := "textWords", inPlace := ["internal/bytealg.CountString", "internal/bytealg.IndexByteString", "internal/bytealg.IndexString"], unfollowed := true, recurses := true, named := ["unicode/utf8.first", "unicode/utf8.acceptRanges", "internal/bytealg.MaxLen"], apart := false, laid := [("unicode/utf8.acceptRanges", laid_unicode_utf8_acceptRanges), ("unicode/utf8.first", laid_unicode_utf8_first)] }
def TextWordsSaid : Prop := textWordsRow.holds Tryz.pinned (OpenSpec.ofChange textWordsSpec)

/-- ITS FALSE NEIGHBOUR: 'it returns false'. Refute it at one input. -/
def textWordsWrong : ChangeSpec := { name := "textWords", fn := fun _ => fun
  | [d1, d2, d3] => { results := [.lit (.bool false)], args := [d1, d2, d3] }
  | _ => none }
def TextWordsWrongFalsely : Prop := textWordsRow.holds Tryz.pinned (OpenSpec.ofChange textWordsWrong)

/-- 'tympanlaw02.TextBack': WHATEVER THE INPUT: true; the input reads as it did. -/
def textBackSpec : ChangeSpec := { name := "textBack", fn := fun _ => fun
  | [d1, d2, d3] => { results := [.lit (.bool true)], args := [d1, d2, d3] }
  | _ => none }
def textBackRow : OpenClaim := { program := "ytccdnieoaejgdaagreatdoor", sum := "e2149652239581c406b25707dc903ae6d6f651496cd5731ff745e73b0f831d90", func := "tympan/tympanlaw02.TextBack", spec := "textBack", inPlace := ["internal/bytealg.CountString", "internal/bytealg.IndexByteString", "internal/bytealg.IndexString"], unfollowed := true, recurses := true, named := ["unicode/utf8.first", "unicode/utf8.acceptRanges", "internal/bytealg.MaxLen"], apart := false, laid := [("unicode/utf8.acceptRanges", laid_unicode_utf8_acceptRanges), ("unicode/utf8.first", laid_unicode_utf8_first)] }
def TextBackSaid : Prop := textBackRow.holds Tryz.pinned (OpenSpec.ofChange textBackSpec)

/-- ITS FALSE NEIGHBOUR: 'it returns false'. Refute it at one input. -/
def textBackWrong : ChangeSpec := { name := "textBack", fn := fun _ => fun
  | [d1, d2, d3] => { results := [.lit (.bool false)], args := [d1, d2, d3] }
  | _ => none }
def TextBackWrongFalsely : Prop := textBackRow.holds Tryz.pinned (OpenSpec.ofChange textBackWrong)

/-- 'tympanlaw02.TextNeeds': WHATEVER THE INPUT: true; the input reads as it did. -/
def textNeedsSpec : ChangeSpec := { name := "textNeeds", fn := fun _ => fun
  | [d1, d2, d3] => { results := [.lit (.bool true)], args := [d1, d2, d3] }
  | _ => none }
def textNeedsRow : OpenClaim := { program := "ytccdnieoaejgdaagreatdoor", sum := "e2149652239581c406b25707dc903ae6d6f651496cd5731ff745e73b0f831d90", func := "tympan/tympanlaw02.TextNeeds", spec := "textNeeds", inPlace := ["internal/bytealg.CountString", "internal/bytealg.IndexByteString", "internal/bytealg.IndexString"], unfollowed := true, recurses := true, named := ["unicode/utf8.first", "unicode/utf8.acceptRanges", "internal/bytealg.MaxLen"], apart := false, laid := [("unicode/utf8.acceptRanges", laid_unicode_utf8_acceptRanges), ("unicode/utf8.first", laid_unicode_utf8_first)] }
def TextNeedsSaid : Prop := textNeedsRow.holds Tryz.pinned (OpenSpec.ofChange textNeedsSpec)

/-- ITS FALSE NEIGHBOUR: 'it returns false'. Refute it at one input. -/
def textNeedsWrong : ChangeSpec := { name := "textNeeds", fn := fun _ => fun
  | [d1, d2, d3] => { results := [.lit (.bool false)], args := [d1, d2, d3] }
  | _ => none }
def TextNeedsWrongFalsely : Prop := textNeedsRow.holds Tryz.pinned (OpenSpec.ofChange textNeedsWrong)

/-- 'tympanlaw02.TextPrints': WHATEVER THE INPUT: true; the input reads as it did. -/
def textPrintsSpec : ChangeSpec := { name := "textPrints", fn := fun _ => fun
  | [d1, d2, d3] => { results := [.lit (.bool true)], args := [d1, d2, d3] }
  | _ => none }
def textPrintsRow : OpenClaim := { program := "ytccdnieoaejgdaagreatdoor", sum := "e2149652239581c406b25707dc903ae6d6f651496cd5731ff745e73b0f831d90", func := "tympan/tympanlaw02.TextPrints", spec := "textPrints", inPlace := ["internal/bytealg.CountString", "internal/bytealg.IndexByteString", "internal/bytealg.IndexString", "internal/abi.NoEscape"], unfollowed := true, recurses := true, named := ["unicode/utf8.first", "unicode/utf8.acceptRanges", "internal/bytealg.MaxLen"], apart := false, laid := [("unicode/utf8.acceptRanges", laid_unicode_utf8_acceptRanges), ("unicode/utf8.first", laid_unicode_utf8_first)] }
def TextPrintsSaid : Prop := textPrintsRow.holds Tryz.pinned (OpenSpec.ofChange textPrintsSpec)

/-- ITS FALSE NEIGHBOUR: 'it returns false'. Refute it at one input. -/
def textPrintsWrong : ChangeSpec := { name := "textPrints", fn := fun _ => fun
  | [d1, d2, d3] => { results := [.lit (.bool false)], args := [d1, d2, d3] }
  | _ => none }
def TextPrintsWrongFalsely : Prop := textPrintsRow.holds Tryz.pinned (OpenSpec.ofChange textPrintsWrong)

/-- 'tympantop.TopHyphensBack': WHATEVER THE INPUT: true; the input reads as it did. -/
def topHyphensBackSpec : ChangeSpec := { name := "topHyphensBack", fn := fun _ => fun
  | [d1, d2, d3] => { results := [.lit (.bool true)], args := [d1, d2, d3] }
  | _ => none }
def topHyphensBackRow : OpenClaim := { program := "ytccdnieoaejgdaagreatdoor", sum := "e2149652239581c406b25707dc903ae6d6f651496cd5731ff745e73b0f831d90", func := "tympan/tympantop.TopHyphensBack", spec := "topHyphensBack", inPlace := ["internal/bytealg.CountString", "internal/bytealg.IndexByteString", "internal/bytealg.IndexString"], unfollowed := true, recurses := true, named := ["unicode/utf8.first", "unicode/utf8.acceptRanges", "internal/bytealg.MaxLen"], apart := false, laid := [("unicode/utf8.acceptRanges", laid_unicode_utf8_acceptRanges), ("unicode/utf8.first", laid_unicode_utf8_first)] }
def TopHyphensBackSaid : Prop := topHyphensBackRow.holds Tryz.pinned (OpenSpec.ofChange topHyphensBackSpec)

/-- ITS FALSE NEIGHBOUR: 'it returns false'. Refute it at one input. -/
def topHyphensBackWrong : ChangeSpec := { name := "topHyphensBack", fn := fun _ => fun
  | [d1, d2, d3] => { results := [.lit (.bool false)], args := [d1, d2, d3] }
  | _ => none }
def TopHyphensBackWrongFalsely : Prop := topHyphensBackRow.holds Tryz.pinned (OpenSpec.ofChange topHyphensBackWrong)

/- THE SECOND FORM. 'bulk': how many values and letters a reading holds, each counted each time it is reached (what is shared counts as often as it is met; a slice's spare places count too). A statement '..UptoSaid' is the law's where the arguments, and the package variables that the reading takes, are together of bulk at most 1048576: NARROWER than '..Said'. Prove '..Said' where nothing that the law and all that it calls make is longer than what came in: it says more and counts as full. Else prove '..UptoSaid'. A law counts once. -/
mutual
def uptoBulk {H : Type} : DataW H → Nat
  | .lit (.string bytes) => bytes.length + 1
  | .lit _ => 1
  | .nil => 1
  | .ptr d => uptoBulk d + 1
  | .slice elems spare => uptoBulkAll elems + uptoBulkAll spare + 1
  | .agg parts => uptoBulkAll parts + 1
  | .iface _ d => uptoBulk d + 1
  | .map entries => uptoBulkEntries entries + 1
  | .held _ => 1
def uptoBulkAll {H : Type} : List (DataW H) → Nat
  | [] => 0
  | d :: r => uptoBulk d + uptoBulkAll r
def uptoBulkEntries {H : Type} : List (Lit × DataW H) → Nat
  | [] => 0
  | x :: r => uptoBulkEntry x + uptoBulkEntries r
def uptoBulkEntry {H : Type} : Lit × DataW H → Nat
  | (.string bytes, d) => bytes.length + uptoBulk d + 1
  | (_, d) => uptoBulk d + 1
 end
def uptoSmall : (H : Type) → List (DataW H) → Bool := fun _ ds => decide (uptoBulkAll ds ≤ 1048576)
def OpenSpec.upto (s : _root_.Go.ChangeSpec) : _root_.Go.OpenSpec := { _root_.Go.OpenSpec.ofChange s with cond := some uptoSmall }

/-- 'tympanlaw02.TextHyphens', WHERE WHAT IT READS IS OF BULK AT MOST 1048576: true; the input reads as it did. -/
def textHyphensUptoRow : OpenClaim := { program := "ytccdnieoaejgdaagreatdoor", sum := "e2149652239581c406b25707dc903ae6d6f651496cd5731ff745e73b0f831d90", func := "tympan/tympanlaw02.TextHyphens", spec := "textHyphens", inPlace := ["internal/bytealg.CountString", "internal/bytealg.IndexByteString", "internal/bytealg.IndexString"], unfollowed := true, recurses := true, named := ["unicode/utf8.first", "unicode/utf8.acceptRanges", "internal/bytealg.MaxLen"], apart := false, laid := [("unicode/utf8.acceptRanges", laid_unicode_utf8_acceptRanges), ("unicode/utf8.first", laid_unicode_utf8_first)], narrowed := true }
def TextHyphensUptoSaid : Prop := textHyphensUptoRow.holds Tryz.pinned (OpenSpec.upto textHyphensSpec)

/-- 'tympanlaw02.TextSorts', WHERE WHAT IT READS IS OF BULK AT MOST 1048576: true; the input reads as it did. -/
def textSortsUptoRow : OpenClaim := { program := "ytccdnieoaejgdaagreatdoor", sum := "e2149652239581c406b25707dc903ae6d6f651496cd5731ff745e73b0f831d90", func := "tympan/tympanlaw02.TextSorts", spec := "textSorts", inPlace := ["internal/bytealg.CountString", "internal/bytealg.IndexByteString", "internal/bytealg.IndexString"], unfollowed := true, recurses := true, named := ["unicode/utf8.first", "unicode/utf8.acceptRanges", "internal/bytealg.MaxLen"], apart := false, laid := [("unicode/utf8.acceptRanges", laid_unicode_utf8_acceptRanges), ("unicode/utf8.first", laid_unicode_utf8_first)], narrowed := true }
def TextSortsUptoSaid : Prop := textSortsUptoRow.holds Tryz.pinned (OpenSpec.upto textSortsSpec)

/-- 'tympanlaw02.TextExceptions', WHERE WHAT IT READS IS OF BULK AT MOST 1048576: true; the input reads as it did. -/
def textExceptionsUptoRow : OpenClaim := { program := "ytccdnieoaejgdaagreatdoor", sum := "e2149652239581c406b25707dc903ae6d6f651496cd5731ff745e73b0f831d90", func := "tympan/tympanlaw02.TextExceptions", spec := "textExceptions", inPlace := ["internal/bytealg.CountString", "internal/bytealg.IndexByteString", "internal/bytealg.IndexString"], unfollowed := true, recurses := true, named := ["unicode/utf8.first", "unicode/utf8.acceptRanges", "internal/bytealg.MaxLen"], apart := false, laid := [("unicode/utf8.acceptRanges", laid_unicode_utf8_acceptRanges), ("unicode/utf8.first", laid_unicode_utf8_first)], narrowed := true }
def TextExceptionsUptoSaid : Prop := textExceptionsUptoRow.holds Tryz.pinned (OpenSpec.upto textExceptionsSpec)

/-- 'tympanlaw02.TextLevels', WHERE WHAT IT READS IS OF BULK AT MOST 1048576: true; the input reads as it did. -/
def textLevelsUptoRow : OpenClaim := { program := "ytccdnieoaejgdaagreatdoor", sum := "e2149652239581c406b25707dc903ae6d6f651496cd5731ff745e73b0f831d90", func := "tympan/tympanlaw02.TextLevels", spec := "textLevels", inPlace := ["internal/bytealg.CountString", "internal/bytealg.IndexByteString", "internal/bytealg.IndexString"], unfollowed := true, recurses := true, named := ["unicode/utf8.first", "unicode/utf8.acceptRanges", "internal/bytealg.MaxLen"], apart := false, laid := [("unicode/utf8.acceptRanges", laid_unicode_utf8_acceptRanges), ("unicode/utf8.first", laid_unicode_utf8_first)], narrowed := true }
def TextLevelsUptoSaid : Prop := textLevelsUptoRow.holds Tryz.pinned (OpenSpec.upto textLevelsSpec)

/-- 'tympanlaw02.TextParts', WHERE WHAT IT READS IS OF BULK AT MOST 1048576: true; the input reads as it did. -/
def textPartsUptoRow : OpenClaim := { program := "ytccdnieoaejgdaagreatdoor", sum := "e2149652239581c406b25707dc903ae6d6f651496cd5731ff745e73b0f831d90", func := "tympan/tympanlaw02.TextParts", spec := "textParts", inPlace := ["internal/bytealg.CountString", "internal/bytealg.IndexByteString", "internal/bytealg.IndexString"], unfollowed := true, recurses := true, named := ["unicode/utf8.first", "unicode/utf8.acceptRanges", "internal/bytealg.MaxLen"], apart := false, laid := [("unicode/utf8.acceptRanges", laid_unicode_utf8_acceptRanges), ("unicode/utf8.first", laid_unicode_utf8_first)], narrowed := true }
def TextPartsUptoSaid : Prop := textPartsUptoRow.holds Tryz.pinned (OpenSpec.upto textPartsSpec)

/-- 'tympanlaw02.TextWords', WHERE WHAT IT READS IS OF BULK AT MOST 1048576: true; the input reads as it did. -/
def textWordsUptoRow : OpenClaim := { program := "ytccdnieoaejgdaagreatdoor", sum := "e2149652239581c406b25707dc903ae6d6f651496cd5731ff745e73b0f831d90", func := "tympan/tympanlaw02.TextWords", spec := "textWords", inPlace := ["internal/bytealg.CountString", "internal/bytealg.IndexByteString", "internal/bytealg.IndexString"], unfollowed := true, recurses := true, named := ["unicode/utf8.first", "unicode/utf8.acceptRanges", "internal/bytealg.MaxLen"], apart := false, laid := [("unicode/utf8.acceptRanges", laid_unicode_utf8_acceptRanges), ("unicode/utf8.first", laid_unicode_utf8_first)], narrowed := true }
def TextWordsUptoSaid : Prop := textWordsUptoRow.holds Tryz.pinned (OpenSpec.upto textWordsSpec)

/-- 'tympanlaw02.TextBack', WHERE WHAT IT READS IS OF BULK AT MOST 1048576: true; the input reads as it did. -/
def textBackUptoRow : OpenClaim := { program := "ytccdnieoaejgdaagreatdoor", sum := "e2149652239581c406b25707dc903ae6d6f651496cd5731ff745e73b0f831d90", func := "tympan/tympanlaw02.TextBack", spec := "textBack", inPlace := ["internal/bytealg.CountString", "internal/bytealg.IndexByteString", "internal/bytealg.IndexString"], unfollowed := true, recurses := true, named := ["unicode/utf8.first", "unicode/utf8.acceptRanges", "internal/bytealg.MaxLen"], apart := false, laid := [("unicode/utf8.acceptRanges", laid_unicode_utf8_acceptRanges), ("unicode/utf8.first", laid_unicode_utf8_first)], narrowed := true }
def TextBackUptoSaid : Prop := textBackUptoRow.holds Tryz.pinned (OpenSpec.upto textBackSpec)

/-- 'tympanlaw02.TextNeeds', WHERE WHAT IT READS IS OF BULK AT MOST 1048576: true; the input reads as it did. -/
def textNeedsUptoRow : OpenClaim := { program := "ytccdnieoaejgdaagreatdoor", sum := "e2149652239581c406b25707dc903ae6d6f651496cd5731ff745e73b0f831d90", func := "tympan/tympanlaw02.TextNeeds", spec := "textNeeds", inPlace := ["internal/bytealg.CountString", "internal/bytealg.IndexByteString", "internal/bytealg.IndexString"], unfollowed := true, recurses := true, named := ["unicode/utf8.first", "unicode/utf8.acceptRanges", "internal/bytealg.MaxLen"], apart := false, laid := [("unicode/utf8.acceptRanges", laid_unicode_utf8_acceptRanges), ("unicode/utf8.first", laid_unicode_utf8_first)], narrowed := true }
def TextNeedsUptoSaid : Prop := textNeedsUptoRow.holds Tryz.pinned (OpenSpec.upto textNeedsSpec)

/-- 'tympanlaw02.TextPrints', WHERE WHAT IT READS IS OF BULK AT MOST 1048576: true; the input reads as it did. -/
def textPrintsUptoRow : OpenClaim := { program := "ytccdnieoaejgdaagreatdoor", sum := "e2149652239581c406b25707dc903ae6d6f651496cd5731ff745e73b0f831d90", func := "tympan/tympanlaw02.TextPrints", spec := "textPrints", inPlace := ["internal/bytealg.CountString", "internal/bytealg.IndexByteString", "internal/bytealg.IndexString", "internal/abi.NoEscape"], unfollowed := true, recurses := true, named := ["unicode/utf8.first", "unicode/utf8.acceptRanges", "internal/bytealg.MaxLen"], apart := false, laid := [("unicode/utf8.acceptRanges", laid_unicode_utf8_acceptRanges), ("unicode/utf8.first", laid_unicode_utf8_first)], narrowed := true }
def TextPrintsUptoSaid : Prop := textPrintsUptoRow.holds Tryz.pinned (OpenSpec.upto textPrintsSpec)

/-- 'tympantop.TopHyphensBack', WHERE WHAT IT READS IS OF BULK AT MOST 1048576: true; the input reads as it did. -/
def topHyphensBackUptoRow : OpenClaim := { program := "ytccdnieoaejgdaagreatdoor", sum := "e2149652239581c406b25707dc903ae6d6f651496cd5731ff745e73b0f831d90", func := "tympan/tympantop.TopHyphensBack", spec := "topHyphensBack", inPlace := ["internal/bytealg.CountString", "internal/bytealg.IndexByteString", "internal/bytealg.IndexString"], unfollowed := true, recurses := true, named := ["unicode/utf8.first", "unicode/utf8.acceptRanges", "internal/bytealg.MaxLen"], apart := false, laid := [("unicode/utf8.acceptRanges", laid_unicode_utf8_acceptRanges), ("unicode/utf8.first", laid_unicode_utf8_first)], narrowed := true }
def TopHyphensBackUptoSaid : Prop := topHyphensBackUptoRow.holds Tryz.pinned (OpenSpec.upto topHyphensBackSpec)

end Rows
end Go.Proofs.YtccdnieoaejgdaaGreatDoor
