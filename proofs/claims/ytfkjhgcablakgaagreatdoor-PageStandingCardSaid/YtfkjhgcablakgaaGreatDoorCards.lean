/-
  DERIVED. GIVEN WITH THE SEED: THE CARDS: each row of YtfkjhgcablakgaaGreatDoorRows.lean that lists a variable, with what it lists TIED to the program's text (the seventh form; the later family's looks); each row that meets fmt, with fmt's text TOLD by the authors' own Lean function (tested against real Go, not proved from fmt's source: count such statements apart). THE CARD IS WHAT COUNTS. Prove the row's statement (the work); the ties are given (YtfkjhgcablakgaaGreatDoorTie.lean); close each card by the builder's one call (the guide's Derived/Test/ToyasCard.lean, 'card_holds'). Laid BY PROGRAM, IN A SANDBOX (cutbox-door.mjs). By AI agents, Wed Nov 11 2026. No macro, syntax, notation, axiom, sorry.
-/
import Derived.Test.YtfkjhgcablakgaaGreatDoorRows
import GoSem.ClaimSeven
namespace Go.Proofs.YtfkjhgcablakgaaGreatDoor
namespace Rows

/-- THE TIED CARD OF 'tympanlaw05.PageLeaderChecks'. -/
def pageLeaderChecksCard : Claim7 := { stood := { row := pageLeaderChecksRow, standIns := [], harness := (true, "5262f0d7de53fed952b8c4ac98d5a062fb18404758dca814f2eb147b9fb11a3b"), looks := true }, kinds := [], alts := [], laidByText := true, laidKinds := [.data, .data, .data, .sentinel, .sentinel, .data], laidTests := true, laidLooks := .later }
def PageLeaderChecksCardSaid : Prop := Claim7.holds Tryz.pinned (.plain (OpenSpec.ofChange pageLeaderChecksSpec)) pageLeaderChecksCard

/-- THE TIED CARD OF 'tympanlaw05.PageStanding'. -/
def pageStandingCard : Claim7 := { stood := { row := pageStandingRow, standIns := [], harness := (true, "5262f0d7de53fed952b8c4ac98d5a062fb18404758dca814f2eb147b9fb11a3b"), looks := true }, kinds := [], alts := [], laidByText := true, laidKinds := [.data, .data, .data, .sentinel, .sentinel, .data], laidTests := true, laidLooks := .later }
def PageStandingCardSaid : Prop := Claim7.holds Tryz.pinned (.plain (OpenSpec.ofChange pageStandingSpec)) pageStandingCard

/-- THE TIED CARD OF 'tympanlaw05.PageFewer'. -/
def pageFewerCard : Claim7 := { stood := { row := pageFewerRow, standIns := [], harness := (true, "5262f0d7de53fed952b8c4ac98d5a062fb18404758dca814f2eb147b9fb11a3b"), looks := true }, kinds := [], alts := [], laidByText := true, laidKinds := [.data, .data, .data, .sentinel, .sentinel, .data], laidTests := true, laidLooks := .later }
def PageFewerCardSaid : Prop := Claim7.holds Tryz.pinned (.plain (OpenSpec.ofChange pageFewerSpec)) pageFewerCard

/-- THE TIED CARD OF 'tympanlaw05.PageStands'. -/
def pageStandsCard : Claim7 := { stood := { row := pageStandsRow, standIns := [], harness := (true, "5262f0d7de53fed952b8c4ac98d5a062fb18404758dca814f2eb147b9fb11a3b"), looks := true }, kinds := [], alts := [], laidByText := true, laidKinds := [.data, .data, .data, .sentinel, .sentinel, .data], laidTests := true, laidLooks := .later }
def PageStandsCardSaid : Prop := Claim7.holds Tryz.pinned (.plain (OpenSpec.ofChange pageStandsSpec)) pageStandsCard

/-- THE TIED CARD OF 'tympantop.TopTurnedSorts'. -/
def topTurnedSortsCard : Claim7 := { stood := { row := topTurnedSortsRow, standIns := [], harness := (true, "5262f0d7de53fed952b8c4ac98d5a062fb18404758dca814f2eb147b9fb11a3b"), looks := true }, kinds := [], alts := [], laidByText := true, laidKinds := [.data, .data, .data, .data], laidTests := true, laidLooks := .later }
def TopTurnedSortsCardSaid : Prop := Claim7.holds Tryz.pinned (.plain (OpenSpec.ofChange topTurnedSortsSpec)) topTurnedSortsCard

/-- THE SECOND FORM's CARD OF 'tympanlaw05.PageLeaderChecks'. -/
def pageLeaderChecksUptoCard : Claim7 := { stood := { row := pageLeaderChecksUptoRow, standIns := [], harness := (true, "5262f0d7de53fed952b8c4ac98d5a062fb18404758dca814f2eb147b9fb11a3b"), looks := true }, kinds := [], alts := [], laidByText := true, laidKinds := [.data, .data, .data, .sentinel, .sentinel, .data], laidTests := true, laidLooks := .later }
def PageLeaderChecksUptoCardSaid : Prop := Claim7.holds Tryz.pinned (.plain (OpenSpec.upto pageLeaderChecksSpec)) pageLeaderChecksUptoCard

/-- THE SECOND FORM's CARD OF 'tympanlaw05.PageStanding'. -/
def pageStandingUptoCard : Claim7 := { stood := { row := pageStandingUptoRow, standIns := [], harness := (true, "5262f0d7de53fed952b8c4ac98d5a062fb18404758dca814f2eb147b9fb11a3b"), looks := true }, kinds := [], alts := [], laidByText := true, laidKinds := [.data, .data, .data, .sentinel, .sentinel, .data], laidTests := true, laidLooks := .later }
def PageStandingUptoCardSaid : Prop := Claim7.holds Tryz.pinned (.plain (OpenSpec.upto pageStandingSpec)) pageStandingUptoCard

/-- THE SECOND FORM's CARD OF 'tympanlaw05.PageFewer'. -/
def pageFewerUptoCard : Claim7 := { stood := { row := pageFewerUptoRow, standIns := [], harness := (true, "5262f0d7de53fed952b8c4ac98d5a062fb18404758dca814f2eb147b9fb11a3b"), looks := true }, kinds := [], alts := [], laidByText := true, laidKinds := [.data, .data, .data, .sentinel, .sentinel, .data], laidTests := true, laidLooks := .later }
def PageFewerUptoCardSaid : Prop := Claim7.holds Tryz.pinned (.plain (OpenSpec.upto pageFewerSpec)) pageFewerUptoCard

/-- THE SECOND FORM's CARD OF 'tympanlaw05.PageStands'. -/
def pageStandsUptoCard : Claim7 := { stood := { row := pageStandsUptoRow, standIns := [], harness := (true, "5262f0d7de53fed952b8c4ac98d5a062fb18404758dca814f2eb147b9fb11a3b"), looks := true }, kinds := [], alts := [], laidByText := true, laidKinds := [.data, .data, .data, .sentinel, .sentinel, .data], laidTests := true, laidLooks := .later }
def PageStandsUptoCardSaid : Prop := Claim7.holds Tryz.pinned (.plain (OpenSpec.upto pageStandsSpec)) pageStandsUptoCard

/-- THE SECOND FORM's CARD OF 'tympantop.TopTurnedSorts'. -/
def topTurnedSortsUptoCard : Claim7 := { stood := { row := topTurnedSortsUptoRow, standIns := [], harness := (true, "5262f0d7de53fed952b8c4ac98d5a062fb18404758dca814f2eb147b9fb11a3b"), looks := true }, kinds := [], alts := [], laidByText := true, laidKinds := [.data, .data, .data, .data], laidTests := true, laidLooks := .later }
def TopTurnedSortsUptoCardSaid : Prop := Claim7.holds Tryz.pinned (.plain (OpenSpec.upto topTurnedSortsSpec)) topTurnedSortsUptoCard
end Rows
end Go.Proofs.YtfkjhgcablakgaaGreatDoor
