/-
  DERIVED. GIVEN WITH THE SEED: THE CARDS: each row of YtccdnieoaejgdaaGreatDoorRows.lean that lists a variable, with what it lists TIED to the program's text (the seventh form; the later family's looks); each row that meets fmt, with fmt's text TOLD by the authors' own Lean function (tested against real Go, not proved from fmt's source: count such statements apart). THE CARD IS WHAT COUNTS. Prove the row's statement (the work); the ties are given (YtccdnieoaejgdaaGreatDoorTie.lean); close each card by the builder's one call (the guide's Derived/Test/ToyasCard.lean, 'card_holds'). Laid BY PROGRAM, IN A SANDBOX (cutbox-door.mjs). By AI agents, Wed Nov 11 2026. No macro, syntax, notation, axiom, sorry.
-/
import Derived.Test.YtccdnieoaejgdaaGreatDoorRows
import GoSem.ClaimSeven
namespace Go.Proofs.YtccdnieoaejgdaaGreatDoor
namespace Rows

/-- THE TIED CARD OF 'tympanlaw02.TextHyphens'. -/
def textHyphensCard : Claim7 := { stood := { row := textHyphensRow, standIns := [], harness := (true, "fcb4ae1cce38f7088c3f38697b5cb2fe83ef2f7338f21350520f7ab79c98461b"), looks := false }, kinds := [], alts := [], laidByText := true, laidKinds := [.data, .pinned], laidTests := true, laidLooks := .later }
def TextHyphensCardSaid : Prop := Claim7.holds Tryz.pinned (.plain (OpenSpec.ofChange textHyphensSpec)) textHyphensCard

/-- THE TIED CARD OF 'tympanlaw02.TextSorts'. -/
def textSortsCard : Claim7 := { stood := { row := textSortsRow, standIns := [], harness := (true, "fcb4ae1cce38f7088c3f38697b5cb2fe83ef2f7338f21350520f7ab79c98461b"), looks := false }, kinds := [], alts := [], laidByText := true, laidKinds := [.data, .pinned], laidTests := true, laidLooks := .later }
def TextSortsCardSaid : Prop := Claim7.holds Tryz.pinned (.plain (OpenSpec.ofChange textSortsSpec)) textSortsCard

/-- THE TIED CARD OF 'tympanlaw02.TextExceptions'. -/
def textExceptionsCard : Claim7 := { stood := { row := textExceptionsRow, standIns := [], harness := (true, "fcb4ae1cce38f7088c3f38697b5cb2fe83ef2f7338f21350520f7ab79c98461b"), looks := false }, kinds := [], alts := [], laidByText := true, laidKinds := [.data, .pinned], laidTests := true, laidLooks := .later }
def TextExceptionsCardSaid : Prop := Claim7.holds Tryz.pinned (.plain (OpenSpec.ofChange textExceptionsSpec)) textExceptionsCard

/-- THE TIED CARD OF 'tympanlaw02.TextLevels'. -/
def textLevelsCard : Claim7 := { stood := { row := textLevelsRow, standIns := [], harness := (true, "fcb4ae1cce38f7088c3f38697b5cb2fe83ef2f7338f21350520f7ab79c98461b"), looks := false }, kinds := [], alts := [], laidByText := true, laidKinds := [.data, .pinned], laidTests := true, laidLooks := .later }
def TextLevelsCardSaid : Prop := Claim7.holds Tryz.pinned (.plain (OpenSpec.ofChange textLevelsSpec)) textLevelsCard

/-- THE TIED CARD OF 'tympanlaw02.TextParts'. -/
def textPartsCard : Claim7 := { stood := { row := textPartsRow, standIns := [], harness := (true, "fcb4ae1cce38f7088c3f38697b5cb2fe83ef2f7338f21350520f7ab79c98461b"), looks := false }, kinds := [], alts := [], laidByText := true, laidKinds := [.data, .pinned], laidTests := true, laidLooks := .later }
def TextPartsCardSaid : Prop := Claim7.holds Tryz.pinned (.plain (OpenSpec.ofChange textPartsSpec)) textPartsCard

/-- THE TIED CARD OF 'tympanlaw02.TextWords'. -/
def textWordsCard : Claim7 := { stood := { row := textWordsRow, standIns := [], harness := (true, "fcb4ae1cce38f7088c3f38697b5cb2fe83ef2f7338f21350520f7ab79c98461b"), looks := false }, kinds := [], alts := [], laidByText := true, laidKinds := [.data, .pinned], laidTests := true, laidLooks := .later }
def TextWordsCardSaid : Prop := Claim7.holds Tryz.pinned (.plain (OpenSpec.ofChange textWordsSpec)) textWordsCard

/-- THE TIED CARD OF 'tympanlaw02.TextBack'. -/
def textBackCard : Claim7 := { stood := { row := textBackRow, standIns := [], harness := (true, "fcb4ae1cce38f7088c3f38697b5cb2fe83ef2f7338f21350520f7ab79c98461b"), looks := false }, kinds := [], alts := [], laidByText := true, laidKinds := [.data, .pinned], laidTests := true, laidLooks := .later }
def TextBackCardSaid : Prop := Claim7.holds Tryz.pinned (.plain (OpenSpec.ofChange textBackSpec)) textBackCard

/-- THE TIED CARD OF 'tympanlaw02.TextNeeds'. -/
def textNeedsCard : Claim7 := { stood := { row := textNeedsRow, standIns := [], harness := (true, "fcb4ae1cce38f7088c3f38697b5cb2fe83ef2f7338f21350520f7ab79c98461b"), looks := false }, kinds := [], alts := [], laidByText := true, laidKinds := [.data, .pinned], laidTests := true, laidLooks := .later }
def TextNeedsCardSaid : Prop := Claim7.holds Tryz.pinned (.plain (OpenSpec.ofChange textNeedsSpec)) textNeedsCard

/-- THE TIED CARD OF 'tympanlaw02.TextPrints'. -/
def textPrintsCard : Claim7 := { stood := { row := textPrintsRow, standIns := [], harness := (true, "fcb4ae1cce38f7088c3f38697b5cb2fe83ef2f7338f21350520f7ab79c98461b"), looks := false }, kinds := [], alts := [], laidByText := true, laidKinds := [.data, .pinned], laidTests := true, laidLooks := .later }
def TextPrintsCardSaid : Prop := Claim7.holds Tryz.pinned (.plain (OpenSpec.ofChange textPrintsSpec)) textPrintsCard

/-- THE TIED CARD OF 'tympantop.TopHyphensBack'. -/
def topHyphensBackCard : Claim7 := { stood := { row := topHyphensBackRow, standIns := [], harness := (true, "fcb4ae1cce38f7088c3f38697b5cb2fe83ef2f7338f21350520f7ab79c98461b"), looks := false }, kinds := [], alts := [], laidByText := true, laidKinds := [.data, .pinned], laidTests := true, laidLooks := .later }
def TopHyphensBackCardSaid : Prop := Claim7.holds Tryz.pinned (.plain (OpenSpec.ofChange topHyphensBackSpec)) topHyphensBackCard

/-- THE SECOND FORM's CARD OF 'tympanlaw02.TextHyphens'. -/
def textHyphensUptoCard : Claim7 := { stood := { row := textHyphensUptoRow, standIns := [], harness := (true, "fcb4ae1cce38f7088c3f38697b5cb2fe83ef2f7338f21350520f7ab79c98461b"), looks := false }, kinds := [], alts := [], laidByText := true, laidKinds := [.data, .pinned], laidTests := true, laidLooks := .later }
def TextHyphensUptoCardSaid : Prop := Claim7.holds Tryz.pinned (.plain (OpenSpec.upto textHyphensSpec)) textHyphensUptoCard

/-- THE SECOND FORM's CARD OF 'tympanlaw02.TextSorts'. -/
def textSortsUptoCard : Claim7 := { stood := { row := textSortsUptoRow, standIns := [], harness := (true, "fcb4ae1cce38f7088c3f38697b5cb2fe83ef2f7338f21350520f7ab79c98461b"), looks := false }, kinds := [], alts := [], laidByText := true, laidKinds := [.data, .pinned], laidTests := true, laidLooks := .later }
def TextSortsUptoCardSaid : Prop := Claim7.holds Tryz.pinned (.plain (OpenSpec.upto textSortsSpec)) textSortsUptoCard

/-- THE SECOND FORM's CARD OF 'tympanlaw02.TextExceptions'. -/
def textExceptionsUptoCard : Claim7 := { stood := { row := textExceptionsUptoRow, standIns := [], harness := (true, "fcb4ae1cce38f7088c3f38697b5cb2fe83ef2f7338f21350520f7ab79c98461b"), looks := false }, kinds := [], alts := [], laidByText := true, laidKinds := [.data, .pinned], laidTests := true, laidLooks := .later }
def TextExceptionsUptoCardSaid : Prop := Claim7.holds Tryz.pinned (.plain (OpenSpec.upto textExceptionsSpec)) textExceptionsUptoCard

/-- THE SECOND FORM's CARD OF 'tympanlaw02.TextLevels'. -/
def textLevelsUptoCard : Claim7 := { stood := { row := textLevelsUptoRow, standIns := [], harness := (true, "fcb4ae1cce38f7088c3f38697b5cb2fe83ef2f7338f21350520f7ab79c98461b"), looks := false }, kinds := [], alts := [], laidByText := true, laidKinds := [.data, .pinned], laidTests := true, laidLooks := .later }
def TextLevelsUptoCardSaid : Prop := Claim7.holds Tryz.pinned (.plain (OpenSpec.upto textLevelsSpec)) textLevelsUptoCard

/-- THE SECOND FORM's CARD OF 'tympanlaw02.TextParts'. -/
def textPartsUptoCard : Claim7 := { stood := { row := textPartsUptoRow, standIns := [], harness := (true, "fcb4ae1cce38f7088c3f38697b5cb2fe83ef2f7338f21350520f7ab79c98461b"), looks := false }, kinds := [], alts := [], laidByText := true, laidKinds := [.data, .pinned], laidTests := true, laidLooks := .later }
def TextPartsUptoCardSaid : Prop := Claim7.holds Tryz.pinned (.plain (OpenSpec.upto textPartsSpec)) textPartsUptoCard

/-- THE SECOND FORM's CARD OF 'tympanlaw02.TextWords'. -/
def textWordsUptoCard : Claim7 := { stood := { row := textWordsUptoRow, standIns := [], harness := (true, "fcb4ae1cce38f7088c3f38697b5cb2fe83ef2f7338f21350520f7ab79c98461b"), looks := false }, kinds := [], alts := [], laidByText := true, laidKinds := [.data, .pinned], laidTests := true, laidLooks := .later }
def TextWordsUptoCardSaid : Prop := Claim7.holds Tryz.pinned (.plain (OpenSpec.upto textWordsSpec)) textWordsUptoCard

/-- THE SECOND FORM's CARD OF 'tympanlaw02.TextBack'. -/
def textBackUptoCard : Claim7 := { stood := { row := textBackUptoRow, standIns := [], harness := (true, "fcb4ae1cce38f7088c3f38697b5cb2fe83ef2f7338f21350520f7ab79c98461b"), looks := false }, kinds := [], alts := [], laidByText := true, laidKinds := [.data, .pinned], laidTests := true, laidLooks := .later }
def TextBackUptoCardSaid : Prop := Claim7.holds Tryz.pinned (.plain (OpenSpec.upto textBackSpec)) textBackUptoCard

/-- THE SECOND FORM's CARD OF 'tympanlaw02.TextNeeds'. -/
def textNeedsUptoCard : Claim7 := { stood := { row := textNeedsUptoRow, standIns := [], harness := (true, "fcb4ae1cce38f7088c3f38697b5cb2fe83ef2f7338f21350520f7ab79c98461b"), looks := false }, kinds := [], alts := [], laidByText := true, laidKinds := [.data, .pinned], laidTests := true, laidLooks := .later }
def TextNeedsUptoCardSaid : Prop := Claim7.holds Tryz.pinned (.plain (OpenSpec.upto textNeedsSpec)) textNeedsUptoCard

/-- THE SECOND FORM's CARD OF 'tympanlaw02.TextPrints'. -/
def textPrintsUptoCard : Claim7 := { stood := { row := textPrintsUptoRow, standIns := [], harness := (true, "fcb4ae1cce38f7088c3f38697b5cb2fe83ef2f7338f21350520f7ab79c98461b"), looks := false }, kinds := [], alts := [], laidByText := true, laidKinds := [.data, .pinned], laidTests := true, laidLooks := .later }
def TextPrintsUptoCardSaid : Prop := Claim7.holds Tryz.pinned (.plain (OpenSpec.upto textPrintsSpec)) textPrintsUptoCard

/-- THE SECOND FORM's CARD OF 'tympantop.TopHyphensBack'. -/
def topHyphensBackUptoCard : Claim7 := { stood := { row := topHyphensBackUptoRow, standIns := [], harness := (true, "fcb4ae1cce38f7088c3f38697b5cb2fe83ef2f7338f21350520f7ab79c98461b"), looks := false }, kinds := [], alts := [], laidByText := true, laidKinds := [.data, .pinned], laidTests := true, laidLooks := .later }
def TopHyphensBackUptoCardSaid : Prop := Claim7.holds Tryz.pinned (.plain (OpenSpec.upto topHyphensBackSpec)) topHyphensBackUptoCard
end Rows
end Go.Proofs.YtccdnieoaejgdaaGreatDoor
