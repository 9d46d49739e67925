/-
  DERIVED. GIVEN WITH THE SEED: THE CARDS: each row of YtffafbllgdonlaaGreatDoorRows.lean that lists a variable, with what it lists TIED to the program's text (the seventh form; the later family's looks); each row that meets fmt, with fmt's text TOLD by the authors' own Lean function (tested against real Go, not proved from fmt's source: count such statements apart). THE CARD IS WHAT COUNTS. Prove the row's statement (the work); the ties are given (YtffafbllgdonlaaGreatDoorTie.lean); close each card by the builder's one call (the guide's Derived/Test/ToyasCard.lean, 'card_holds'). Laid BY PROGRAM, IN A SANDBOX (cutbox-door.mjs). By AI agents, Wed Nov 11 2026. No macro, syntax, notation, axiom, sorry.
-/
import Derived.Test.YtffafbllgdonlaaGreatDoorRows
import GoSem.ClaimSeven
namespace Go.Proofs.YtffafbllgdonlaaGreatDoor
namespace Rows

/-- THE TIED CARD OF 'tympanlaw05.PageLeaderChecks'. -/
def pageLeaderChecksCard : Claim7 := { stood := { row := pageLeaderChecksRow, standIns := [], harness := (true, "43d8a14f4ec6f781037750de9964dfb944083057f37a561b59749ea80aa40999"), looks := true }, kinds := [], alts := [], laidByText := true, laidKinds := [.data, .data, .data, .sentinel, .sentinel, .data], laidTests := true, laidLooks := .later }
def PageLeaderChecksCardSaid : Prop := Claim7.holds Tryz.pinned (.plain (OpenSpec.ofChange pageLeaderChecksSpec)) pageLeaderChecksCard

/-- THE TIED CARD OF 'tympanlaw05.PageReads'. -/
def pageReadsCard : Claim7 := { stood := { row := pageReadsRow, standIns := [], harness := (true, "43d8a14f4ec6f781037750de9964dfb944083057f37a561b59749ea80aa40999"), looks := true }, kinds := [], alts := [], laidByText := true, laidKinds := [.data, .data, .data, .data, .sentinel, .sentinel, .widerDeep, .data, .pinned], laidTests := true, laidLooks := .later }
def PageReadsCardSaid : Prop := Claim7.holds Tryz.pinned (.plain (OpenSpec.ofChange pageReadsSpec)) pageReadsCard

/-- THE TIED CARD OF 'tympanlaw05.PageGalleys'. -/
def pageGalleysCard : Claim7 := { stood := { row := pageGalleysRow, standIns := [], harness := (true, "43d8a14f4ec6f781037750de9964dfb944083057f37a561b59749ea80aa40999"), looks := true }, kinds := [], alts := [], laidByText := true, laidKinds := [.data, .data, .data, .data, .sentinel, .sentinel, .widerDeep, .data, .pinned], laidTests := true, laidLooks := .later }
def PageGalleysCardSaid : Prop := Claim7.holds Tryz.pinned (.plain (OpenSpec.ofChange pageGalleysSpec)) pageGalleysCard

/-- THE TIED CARD OF 'tympanlaw05.PageLeaders'. -/
def pageLeadersCard : Claim7 := { stood := { row := pageLeadersRow, standIns := [], harness := (true, "43d8a14f4ec6f781037750de9964dfb944083057f37a561b59749ea80aa40999"), looks := true }, kinds := [], alts := [], laidByText := true, laidKinds := [.data, .data, .data, .sentinel, .sentinel, .data], laidTests := true, laidLooks := .later }
def PageLeadersCardSaid : Prop := Claim7.holds Tryz.pinned (.plain (OpenSpec.ofChange pageLeadersSpec)) pageLeadersCard

/-- THE TIED CARD OF 'tympantop.TopTurnedSorts'. -/
def topTurnedSortsCard : Claim7 := { stood := { row := topTurnedSortsRow, standIns := [], harness := (true, "43d8a14f4ec6f781037750de9964dfb944083057f37a561b59749ea80aa40999"), looks := true }, kinds := [], alts := [], laidByText := true, laidKinds := [.data, .data, .data, .data], laidTests := true, laidLooks := .later }
def TopTurnedSortsCardSaid : Prop := Claim7.holds Tryz.pinned (.plain (OpenSpec.ofChange topTurnedSortsSpec)) topTurnedSortsCard

/-- THE SECOND FORM's CARD OF 'tympanlaw05.PageLeaderChecks'. -/
def pageLeaderChecksUptoCard : Claim7 := { stood := { row := pageLeaderChecksUptoRow, standIns := [], harness := (true, "43d8a14f4ec6f781037750de9964dfb944083057f37a561b59749ea80aa40999"), looks := true }, kinds := [], alts := [], laidByText := true, laidKinds := [.data, .data, .data, .sentinel, .sentinel, .data], laidTests := true, laidLooks := .later }
def PageLeaderChecksUptoCardSaid : Prop := Claim7.holds Tryz.pinned (.plain (OpenSpec.upto pageLeaderChecksSpec)) pageLeaderChecksUptoCard

/-- THE SECOND FORM's CARD OF 'tympanlaw05.PageReads'. -/
def pageReadsUptoCard : Claim7 := { stood := { row := pageReadsUptoRow, standIns := [], harness := (true, "43d8a14f4ec6f781037750de9964dfb944083057f37a561b59749ea80aa40999"), looks := true }, kinds := [], alts := [], laidByText := true, laidKinds := [.data, .data, .data, .data, .sentinel, .sentinel, .widerDeep, .data, .pinned], laidTests := true, laidLooks := .later }
def PageReadsUptoCardSaid : Prop := Claim7.holds Tryz.pinned (.plain (OpenSpec.upto pageReadsSpec)) pageReadsUptoCard

/-- THE SECOND FORM's CARD OF 'tympanlaw05.PageGalleys'. -/
def pageGalleysUptoCard : Claim7 := { stood := { row := pageGalleysUptoRow, standIns := [], harness := (true, "43d8a14f4ec6f781037750de9964dfb944083057f37a561b59749ea80aa40999"), looks := true }, kinds := [], alts := [], laidByText := true, laidKinds := [.data, .data, .data, .data, .sentinel, .sentinel, .widerDeep, .data, .pinned], laidTests := true, laidLooks := .later }
def PageGalleysUptoCardSaid : Prop := Claim7.holds Tryz.pinned (.plain (OpenSpec.upto pageGalleysSpec)) pageGalleysUptoCard

/-- THE SECOND FORM's CARD OF 'tympanlaw05.PageLeaders'. -/
def pageLeadersUptoCard : Claim7 := { stood := { row := pageLeadersUptoRow, standIns := [], harness := (true, "43d8a14f4ec6f781037750de9964dfb944083057f37a561b59749ea80aa40999"), looks := true }, kinds := [], alts := [], laidByText := true, laidKinds := [.data, .data, .data, .sentinel, .sentinel, .data], laidTests := true, laidLooks := .later }
def PageLeadersUptoCardSaid : Prop := Claim7.holds Tryz.pinned (.plain (OpenSpec.upto pageLeadersSpec)) pageLeadersUptoCard

/-- THE SECOND FORM's CARD OF 'tympantop.TopTurnedSorts'. -/
def topTurnedSortsUptoCard : Claim7 := { stood := { row := topTurnedSortsUptoRow, standIns := [], harness := (true, "43d8a14f4ec6f781037750de9964dfb944083057f37a561b59749ea80aa40999"), looks := true }, kinds := [], alts := [], laidByText := true, laidKinds := [.data, .data, .data, .data], laidTests := true, laidLooks := .later }
def TopTurnedSortsUptoCardSaid : Prop := Claim7.holds Tryz.pinned (.plain (OpenSpec.upto topTurnedSortsSpec)) topTurnedSortsUptoCard
end Rows
end Go.Proofs.YtffafbllgdonlaaGreatDoor
