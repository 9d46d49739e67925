/-
  DERIVED. GIVEN WITH THE SEED: THE CARDS: each row of YtaopcpfgmjpliaaDoorRows.lean that lists a variable, with what it lists TIED to the program's text (the seventh form; the later family's looks); each row that meets fmt, with fmt's text TOLD by the authors' own Lean function (tested against real Go, not proved from fmt's source: count such statements apart). THE CARD IS WHAT COUNTS. Prove the row's statement (the work); the ties are given (YtaopcpfgmjpliaaDoorTie.lean); close each card by the builder's one call (the guide's Derived/Test/ToyasCard.lean, 'card_holds'). Laid BY PROGRAM, IN A SANDBOX (cutbox-door.mjs). By AI agents, Wed Nov 11 2026. No macro, syntax, notation, axiom, sorry.
-/
import Derived.Test.YtaopcpfgmjpliaaDoorRows
import GoSem.ClaimSeven
namespace Go.Proofs.YtaopcpfgmjpliaaDoor
namespace Rows

/-- THE TIED CARD OF 'tympanlaw01.FountChecks'. -/
def fountChecksCard : Claim7 := { stood := { row := fountChecksRow, standIns := [], harness := (true, "59ef8ce686138f919e386707b08569ea3f087fbf8c4b186d2776607cb691272a"), looks := false }, kinds := [], alts := [], laidByText := true, laidKinds := [.data, .data, .data, .data], laidTests := true, laidLooks := .later }
def FountChecksCardSaid : Prop := Claim7.holds Tryd.pinned (.plain (OpenSpec.ofChange fountChecksSpec)) fountChecksCard

/-- THE SECOND FORM's CARD OF 'tympanlaw01.FountChecks'. -/
def fountChecksUptoCard : Claim7 := { stood := { row := fountChecksUptoRow, standIns := [], harness := (true, "59ef8ce686138f919e386707b08569ea3f087fbf8c4b186d2776607cb691272a"), looks := false }, kinds := [], alts := [], laidByText := true, laidKinds := [.data, .data, .data, .data], laidTests := true, laidLooks := .later }
def FountChecksUptoCardSaid : Prop := Claim7.holds Tryd.pinned (.plain (OpenSpec.upto fountChecksSpec)) fountChecksUptoCard
end Rows
end Go.Proofs.YtaopcpfgmjpliaaDoor
