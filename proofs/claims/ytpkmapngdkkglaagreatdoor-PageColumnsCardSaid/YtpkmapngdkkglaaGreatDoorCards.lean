/-
  DERIVED. GIVEN WITH THE SEED: THE CARDS: each row of YtpkmapngdkkglaaGreatDoorRows.lean that lists a variable, with what it lists TIED to the program's text (the seventh form; the later family's looks); each row that meets fmt, with fmt's text TOLD by the authors' own Lean function (tested against real Go, not proved from fmt's source: count such statements apart). THE CARD IS WHAT COUNTS. Prove the row's statement (the work); the ties are given (YtpkmapngdkkglaaGreatDoorTie.lean); close each card by the builder's one call (the guide's Derived/Test/ToyasCard.lean, 'card_holds'). Laid BY PROGRAM, IN A SANDBOX (cutbox-door.mjs). By AI agents, Wed Nov 11 2026. No macro, syntax, notation, axiom, sorry.
-/
import Derived.Test.YtpkmapngdkkglaaGreatDoorRows
import GoSem.ClaimSeven
namespace Go.Proofs.YtpkmapngdkkglaaGreatDoor
namespace Rows

/-- THE TIED CARD OF 'tympanlaw05.PageCosts'. -/
def pageCostsCard : Claim7 := { stood := { row := pageCostsRow, standIns := [], harness := (true, "40a9be31170a8818741ef308fee4b9e561fe952987d8086e3d76f976ec31f3ee"), looks := true }, kinds := [], alts := [], laidByText := true, laidKinds := [.data, .data, .data, .sentinel, .sentinel, .data], laidTests := true, laidLooks := .later }
def PageCostsCardSaid : Prop := Claim7.holds Tryz.pinned (.plain (OpenSpec.ofChange pageCostsSpec)) pageCostsCard

/-- THE TIED CARD OF 'tympanlaw05.PageTurns'. -/
def pageTurnsCard : Claim7 := { stood := { row := pageTurnsRow, standIns := [], harness := (true, "40a9be31170a8818741ef308fee4b9e561fe952987d8086e3d76f976ec31f3ee"), looks := true }, kinds := [], alts := [], laidByText := true, laidKinds := [.data, .data, .data, .sentinel, .sentinel, .data], laidTests := true, laidLooks := .later }
def PageTurnsCardSaid : Prop := Claim7.holds Tryz.pinned (.plain (OpenSpec.ofChange pageTurnsSpec)) pageTurnsCard

/-- THE TIED CARD OF 'tympanlaw05.PageColumns'. -/
def pageColumnsCard : Claim7 := { stood := { row := pageColumnsRow, standIns := [], harness := (true, "40a9be31170a8818741ef308fee4b9e561fe952987d8086e3d76f976ec31f3ee"), looks := true }, kinds := [], alts := [], laidByText := true, laidKinds := [.data, .data, .data, .sentinel, .sentinel, .data], laidTests := true, laidLooks := .later }
def PageColumnsCardSaid : Prop := Claim7.holds Tryz.pinned (.plain (OpenSpec.ofChange pageColumnsSpec)) pageColumnsCard

/-- THE TIED CARD OF 'tympanlaw05.PageBests'. -/
def pageBestsCard : Claim7 := { stood := { row := pageBestsRow, standIns := [], harness := (true, "40a9be31170a8818741ef308fee4b9e561fe952987d8086e3d76f976ec31f3ee"), looks := true }, kinds := [], alts := [], laidByText := true, laidKinds := [.data, .data, .data, .sentinel, .sentinel, .data], laidTests := true, laidLooks := .later }
def PageBestsCardSaid : Prop := Claim7.holds Tryz.pinned (.plain (OpenSpec.ofChange pageBestsSpec)) pageBestsCard

/-- THE TIED CARD OF 'tympanlaw05.PageProofs'. -/
def pageProofsCard : Claim7 := { stood := { row := pageProofsRow, standIns := [], harness := (true, "40a9be31170a8818741ef308fee4b9e561fe952987d8086e3d76f976ec31f3ee"), looks := true }, kinds := [], alts := [], laidByText := true, laidKinds := [.data, .data, .data, .sentinel, .sentinel, .data], laidTests := true, laidLooks := .later }
def PageProofsCardSaid : Prop := Claim7.holds Tryz.pinned (.plain (OpenSpec.ofChange pageProofsSpec)) pageProofsCard

/-- THE TIED CARD OF 'tympanlaw05.PageLongest'. -/
def pageLongestCard : Claim7 := { stood := { row := pageLongestRow, standIns := [], harness := (true, "40a9be31170a8818741ef308fee4b9e561fe952987d8086e3d76f976ec31f3ee"), looks := true }, kinds := [], alts := [], laidByText := true, laidKinds := [.data, .data, .data, .sentinel, .sentinel, .data], laidTests := true, laidLooks := .later }
def PageLongestCardSaid : Prop := Claim7.holds Tryz.pinned (.plain (OpenSpec.ofChange pageLongestSpec)) pageLongestCard

/-- THE SECOND FORM's CARD OF 'tympanlaw05.PageCosts'. -/
def pageCostsUptoCard : Claim7 := { stood := { row := pageCostsUptoRow, standIns := [], harness := (true, "40a9be31170a8818741ef308fee4b9e561fe952987d8086e3d76f976ec31f3ee"), looks := true }, kinds := [], alts := [], laidByText := true, laidKinds := [.data, .data, .data, .sentinel, .sentinel, .data], laidTests := true, laidLooks := .later }
def PageCostsUptoCardSaid : Prop := Claim7.holds Tryz.pinned (.plain (OpenSpec.upto pageCostsSpec)) pageCostsUptoCard

/-- THE SECOND FORM's CARD OF 'tympanlaw05.PageTurns'. -/
def pageTurnsUptoCard : Claim7 := { stood := { row := pageTurnsUptoRow, standIns := [], harness := (true, "40a9be31170a8818741ef308fee4b9e561fe952987d8086e3d76f976ec31f3ee"), looks := true }, kinds := [], alts := [], laidByText := true, laidKinds := [.data, .data, .data, .sentinel, .sentinel, .data], laidTests := true, laidLooks := .later }
def PageTurnsUptoCardSaid : Prop := Claim7.holds Tryz.pinned (.plain (OpenSpec.upto pageTurnsSpec)) pageTurnsUptoCard

/-- THE SECOND FORM's CARD OF 'tympanlaw05.PageColumns'. -/
def pageColumnsUptoCard : Claim7 := { stood := { row := pageColumnsUptoRow, standIns := [], harness := (true, "40a9be31170a8818741ef308fee4b9e561fe952987d8086e3d76f976ec31f3ee"), looks := true }, kinds := [], alts := [], laidByText := true, laidKinds := [.data, .data, .data, .sentinel, .sentinel, .data], laidTests := true, laidLooks := .later }
def PageColumnsUptoCardSaid : Prop := Claim7.holds Tryz.pinned (.plain (OpenSpec.upto pageColumnsSpec)) pageColumnsUptoCard

/-- THE SECOND FORM's CARD OF 'tympanlaw05.PageBests'. -/
def pageBestsUptoCard : Claim7 := { stood := { row := pageBestsUptoRow, standIns := [], harness := (true, "40a9be31170a8818741ef308fee4b9e561fe952987d8086e3d76f976ec31f3ee"), looks := true }, kinds := [], alts := [], laidByText := true, laidKinds := [.data, .data, .data, .sentinel, .sentinel, .data], laidTests := true, laidLooks := .later }
def PageBestsUptoCardSaid : Prop := Claim7.holds Tryz.pinned (.plain (OpenSpec.upto pageBestsSpec)) pageBestsUptoCard

/-- THE SECOND FORM's CARD OF 'tympanlaw05.PageProofs'. -/
def pageProofsUptoCard : Claim7 := { stood := { row := pageProofsUptoRow, standIns := [], harness := (true, "40a9be31170a8818741ef308fee4b9e561fe952987d8086e3d76f976ec31f3ee"), looks := true }, kinds := [], alts := [], laidByText := true, laidKinds := [.data, .data, .data, .sentinel, .sentinel, .data], laidTests := true, laidLooks := .later }
def PageProofsUptoCardSaid : Prop := Claim7.holds Tryz.pinned (.plain (OpenSpec.upto pageProofsSpec)) pageProofsUptoCard

/-- THE SECOND FORM's CARD OF 'tympanlaw05.PageLongest'. -/
def pageLongestUptoCard : Claim7 := { stood := { row := pageLongestUptoRow, standIns := [], harness := (true, "40a9be31170a8818741ef308fee4b9e561fe952987d8086e3d76f976ec31f3ee"), looks := true }, kinds := [], alts := [], laidByText := true, laidKinds := [.data, .data, .data, .sentinel, .sentinel, .data], laidTests := true, laidLooks := .later }
def PageLongestUptoCardSaid : Prop := Claim7.holds Tryz.pinned (.plain (OpenSpec.upto pageLongestSpec)) pageLongestUptoCard
end Rows
end Go.Proofs.YtpkmapngdkkglaaGreatDoor
