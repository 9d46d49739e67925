/-
  DERIVED. GIVEN WITH THE SEED: THE CARDS: each row of YtfbdklminljecaaGreatDoorRows.lean that lists a variable, with what it lists TIED to the program's text (the seventh form; the later family's looks); each row that meets fmt, with fmt's text TOLD by the authors' own Lean function (tested against real Go, not proved from fmt's source: count such statements apart). THE CARD IS WHAT COUNTS. Prove the row's statement (the work); the ties are given (YtfbdklminljecaaGreatDoorTie.lean); close each card by the builder's one call (the guide's Derived/Test/ToyasCard.lean, 'card_holds'). Laid BY PROGRAM, IN A SANDBOX (cutbox-door.mjs). By AI agents, Wed Nov 11 2026. No macro, syntax, notation, axiom, sorry.
-/
import Derived.Test.YtfbdklminljecaaGreatDoorRows
import GoSem.ClaimSeven
namespace Go.Proofs.YtfbdklminljecaaGreatDoor
namespace Rows

/-- THE TIED CARD OF 'tympantop.TopTurnedSorts'. -/
def topTurnedSortsCard : Claim7 := { stood := { row := topTurnedSortsRow, standIns := [], harness := (true, "fc4c5c0a7a4a15ca7c12be4702443ac7ef9942b9c37dfbf0c47f949dca4292a3"), looks := false }, kinds := [], alts := [], laidByText := true, laidKinds := [.data, .data, .data, .data], laidTests := true, laidLooks := .later }
def TopTurnedSortsCardSaid : Prop := Claim7.holds Tryz.pinned (.plain (OpenSpec.ofChange topTurnedSortsSpec)) topTurnedSortsCard

/-- THE SECOND FORM's CARD OF 'tympantop.TopTurnedSorts'. -/
def topTurnedSortsUptoCard : Claim7 := { stood := { row := topTurnedSortsUptoRow, standIns := [], harness := (true, "fc4c5c0a7a4a15ca7c12be4702443ac7ef9942b9c37dfbf0c47f949dca4292a3"), looks := false }, kinds := [], alts := [], laidByText := true, laidKinds := [.data, .data, .data, .data], laidTests := true, laidLooks := .later }
def TopTurnedSortsUptoCardSaid : Prop := Claim7.holds Tryz.pinned (.plain (OpenSpec.upto topTurnedSortsSpec)) topTurnedSortsUptoCard
end Rows
end Go.Proofs.YtfbdklminljecaaGreatDoor
