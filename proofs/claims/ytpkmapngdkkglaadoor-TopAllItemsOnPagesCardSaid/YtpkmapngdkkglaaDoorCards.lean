/-
  DERIVED. GIVEN WITH THE SEED: THE CARDS: each row of YtpkmapngdkkglaaDoorRows.lean that lists a variable, with what it lists TIED to the program's text (the seventh form; the later family's looks); each row that meets fmt, with fmt's text TOLD by the authors' own Lean function (tested against real Go, not proved from fmt's source: count such statements apart). THE CARD IS WHAT COUNTS. Prove the row's statement (the work); the ties are given (YtpkmapngdkkglaaDoorTie.lean); close each card by the builder's one call (the guide's Derived/Test/ToyasCard.lean, 'card_holds'). Laid BY PROGRAM, IN A SANDBOX (cutbox-door.mjs). By AI agents, Wed Nov 11 2026. No macro, syntax, notation, axiom, sorry.
-/
import Derived.Test.YtpkmapngdkkglaaDoorRows
import GoSem.ClaimSeven
namespace Go.Proofs.YtpkmapngdkkglaaDoor
namespace Rows

/-- THE TIED CARD OF 'tympantop.TopAllItemsOnPages'. -/
def topAllItemsOnPagesCard : Claim7 := { stood := { row := topAllItemsOnPagesRow, standIns := [], harness := (true, "46acb8d23926b0609f1fea3f04ad8f923948aed406b0a4e8b8882b65d4d524b2"), looks := false }, kinds := [], alts := [], laidByText := true, laidKinds := [.data, .data, .data, .data], laidTests := true, laidLooks := .later }
def TopAllItemsOnPagesCardSaid : Prop := Claim7.holds Tryd.pinned (.plain (OpenSpec.ofChange topAllItemsOnPagesSpec)) topAllItemsOnPagesCard

/-- THE SECOND FORM's CARD OF 'tympantop.TopAllItemsOnPages'. -/
def topAllItemsOnPagesUptoCard : Claim7 := { stood := { row := topAllItemsOnPagesUptoRow, standIns := [], harness := (true, "46acb8d23926b0609f1fea3f04ad8f923948aed406b0a4e8b8882b65d4d524b2"), looks := false }, kinds := [], alts := [], laidByText := true, laidKinds := [.data, .data, .data, .data], laidTests := true, laidLooks := .later }
def TopAllItemsOnPagesUptoCardSaid : Prop := Claim7.holds Tryd.pinned (.plain (OpenSpec.upto topAllItemsOnPagesSpec)) topAllItemsOnPagesUptoCard
end Rows
end Go.Proofs.YtpkmapngdkkglaaDoor
