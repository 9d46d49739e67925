/-
  DERIVED. GIVEN WITH THE SEED: THE CARDS: each row of YtiailnblfonhjaaDoorRows.lean that lists a variable, with what it lists TIED to the program's text (the seventh form; the later family's looks); each row that meets fmt, with fmt's text TOLD by the authors' own Lean function (tested against real Go, not proved from fmt's source: count such statements apart). THE CARD IS WHAT COUNTS. Prove the row's statement (the work); the ties are given (YtiailnblfonhjaaDoorTie.lean); close each card by the builder's one call (the guide's Derived/Test/ToyasCard.lean, 'card_holds'). Laid BY PROGRAM, IN A SANDBOX (cutbox-door.mjs). By AI agents, Wed Nov 11 2026. No macro, syntax, notation, axiom, sorry.
-/
import Derived.Test.YtiailnblfonhjaaDoorRows
import GoSem.ClaimSeven
namespace Go.Proofs.YtiailnblfonhjaaDoor
namespace Rows

/-- THE TIED CARD OF 'tympanlaw01.FountShares'. -/
def fountSharesCard : Claim7 := { stood := { row := fountSharesRow, standIns := [], harness := (true, "378d6dc92e4c53759a9c405ce431937b71b9cc2b9c43a8226c3772369214e22c"), looks := false }, kinds := [], alts := [], laidByText := true, laidKinds := [.data, .data, .data, .data], laidTests := true, laidLooks := .later }
def FountSharesCardSaid : Prop := Claim7.holds Tryd.pinned (.plain (OpenSpec.ofChange fountSharesSpec)) fountSharesCard

/-- THE TIED CARD OF 'tympanlaw01.FountLists'. -/
def fountListsCard : Claim7 := { stood := { row := fountListsRow, standIns := [], harness := (true, "378d6dc92e4c53759a9c405ce431937b71b9cc2b9c43a8226c3772369214e22c"), looks := false }, kinds := [], alts := [], laidByText := true, laidKinds := [.data, .data, .data, .data], laidTests := true, laidLooks := .later }
def FountListsCardSaid : Prop := Claim7.holds Tryd.pinned (.plain (OpenSpec.ofChange fountListsSpec)) fountListsCard

/-- THE TIED CARD OF 'tympanlaw01.FountChecks'. -/
def fountChecksCard : Claim7 := { stood := { row := fountChecksRow, standIns := [], harness := (true, "378d6dc92e4c53759a9c405ce431937b71b9cc2b9c43a8226c3772369214e22c"), looks := false }, kinds := [], alts := [], laidByText := true, laidKinds := [.data, .data, .data, .data], laidTests := true, laidLooks := .later }
def FountChecksCardSaid : Prop := Claim7.holds Tryd.pinned (.plain (OpenSpec.ofChange fountChecksSpec)) fountChecksCard

/-- THE TIED CARD OF 'tympanlaw01.FountBills'. -/
def fountBillsCard : Claim7 := { stood := { row := fountBillsRow, standIns := [], harness := (true, "378d6dc92e4c53759a9c405ce431937b71b9cc2b9c43a8226c3772369214e22c"), looks := false }, kinds := [], alts := [], laidByText := true, laidKinds := [.data, .data, .data, .data], laidTests := true, laidLooks := .later }
def FountBillsCardSaid : Prop := Claim7.holds Tryd.pinned (.plain (OpenSpec.ofChange fountBillsSpec)) fountBillsCard

/-- THE TIED CARD OF 'tympanlaw01.FountTakes'. -/
def fountTakesCard : Claim7 := { stood := { row := fountTakesRow, standIns := [], harness := (true, "378d6dc92e4c53759a9c405ce431937b71b9cc2b9c43a8226c3772369214e22c"), looks := false }, kinds := [], alts := [], laidByText := true, laidKinds := [.data, .data, .data, .data], laidTests := true, laidLooks := .later }
def FountTakesCardSaid : Prop := Claim7.holds Tryd.pinned (.plain (OpenSpec.ofChange fountTakesSpec)) fountTakesCard

/-- THE TIED CARD OF 'tympanlaw01.FountCases'. -/
def fountCasesCard : Claim7 := { stood := { row := fountCasesRow, standIns := [], harness := (true, "378d6dc92e4c53759a9c405ce431937b71b9cc2b9c43a8226c3772369214e22c"), looks := false }, kinds := [], alts := [], laidByText := true, laidKinds := [.data, .data, .data, .data], laidTests := true, laidLooks := .later }
def FountCasesCardSaid : Prop := Claim7.holds Tryd.pinned (.plain (OpenSpec.ofChange fountCasesSpec)) fountCasesCard

/-- THE TIED CARD OF 'tympanlaw01.FountMetals'. -/
def fountMetalsCard : Claim7 := { stood := { row := fountMetalsRow, standIns := [], harness := (true, "378d6dc92e4c53759a9c405ce431937b71b9cc2b9c43a8226c3772369214e22c"), looks := false }, kinds := [], alts := [], laidByText := true, laidKinds := [.data, .data, .data, .data], laidTests := true, laidLooks := .later }
def FountMetalsCardSaid : Prop := Claim7.holds Tryd.pinned (.plain (OpenSpec.ofChange fountMetalsSpec)) fountMetalsCard

/-- THE TIED CARD OF 'tympanlaw01.FountAdds'. -/
def fountAddsCard : Claim7 := { stood := { row := fountAddsRow, standIns := [], harness := (true, "378d6dc92e4c53759a9c405ce431937b71b9cc2b9c43a8226c3772369214e22c"), looks := false }, kinds := [], alts := [], laidByText := true, laidKinds := [.data, .data, .data, .data], laidTests := true, laidLooks := .later }
def FountAddsCardSaid : Prop := Claim7.holds Tryd.pinned (.plain (OpenSpec.ofChange fountAddsSpec)) fountAddsCard

/-- THE TIED CARD OF 'tympanlaw01.FountFinds'. -/
def fountFindsCard : Claim7 := { stood := { row := fountFindsRow, standIns := [], harness := (true, "378d6dc92e4c53759a9c405ce431937b71b9cc2b9c43a8226c3772369214e22c"), looks := false }, kinds := [], alts := [], laidByText := true, laidKinds := [.data, .data, .data, .data], laidTests := true, laidLooks := .later }
def FountFindsCardSaid : Prop := Claim7.holds Tryd.pinned (.plain (OpenSpec.ofChange fountFindsSpec)) fountFindsCard

/-- THE TIED CARD OF 'tympanlaw01.FountKept'. -/
def fountKeptCard : Claim7 := { stood := { row := fountKeptRow, standIns := [], harness := (true, "378d6dc92e4c53759a9c405ce431937b71b9cc2b9c43a8226c3772369214e22c"), looks := false }, kinds := [], alts := [], laidByText := true, laidKinds := [.data, .data, .data, .data], laidTests := true, laidLooks := .later }
def FountKeptCardSaid : Prop := Claim7.holds Tryd.pinned (.plain (OpenSpec.ofChange fountKeptSpec)) fountKeptCard

/-- THE SECOND FORM's CARD OF 'tympanlaw01.FountShares'. -/
def fountSharesUptoCard : Claim7 := { stood := { row := fountSharesUptoRow, standIns := [], harness := (true, "378d6dc92e4c53759a9c405ce431937b71b9cc2b9c43a8226c3772369214e22c"), looks := false }, kinds := [], alts := [], laidByText := true, laidKinds := [.data, .data, .data, .data], laidTests := true, laidLooks := .later }
def FountSharesUptoCardSaid : Prop := Claim7.holds Tryd.pinned (.plain (OpenSpec.upto fountSharesSpec)) fountSharesUptoCard

/-- THE SECOND FORM's CARD OF 'tympanlaw01.FountLists'. -/
def fountListsUptoCard : Claim7 := { stood := { row := fountListsUptoRow, standIns := [], harness := (true, "378d6dc92e4c53759a9c405ce431937b71b9cc2b9c43a8226c3772369214e22c"), looks := false }, kinds := [], alts := [], laidByText := true, laidKinds := [.data, .data, .data, .data], laidTests := true, laidLooks := .later }
def FountListsUptoCardSaid : Prop := Claim7.holds Tryd.pinned (.plain (OpenSpec.upto fountListsSpec)) fountListsUptoCard

/-- THE SECOND FORM's CARD OF 'tympanlaw01.FountChecks'. -/
def fountChecksUptoCard : Claim7 := { stood := { row := fountChecksUptoRow, standIns := [], harness := (true, "378d6dc92e4c53759a9c405ce431937b71b9cc2b9c43a8226c3772369214e22c"), looks := false }, kinds := [], alts := [], laidByText := true, laidKinds := [.data, .data, .data, .data], laidTests := true, laidLooks := .later }
def FountChecksUptoCardSaid : Prop := Claim7.holds Tryd.pinned (.plain (OpenSpec.upto fountChecksSpec)) fountChecksUptoCard

/-- THE SECOND FORM's CARD OF 'tympanlaw01.FountBills'. -/
def fountBillsUptoCard : Claim7 := { stood := { row := fountBillsUptoRow, standIns := [], harness := (true, "378d6dc92e4c53759a9c405ce431937b71b9cc2b9c43a8226c3772369214e22c"), looks := false }, kinds := [], alts := [], laidByText := true, laidKinds := [.data, .data, .data, .data], laidTests := true, laidLooks := .later }
def FountBillsUptoCardSaid : Prop := Claim7.holds Tryd.pinned (.plain (OpenSpec.upto fountBillsSpec)) fountBillsUptoCard

/-- THE SECOND FORM's CARD OF 'tympanlaw01.FountTakes'. -/
def fountTakesUptoCard : Claim7 := { stood := { row := fountTakesUptoRow, standIns := [], harness := (true, "378d6dc92e4c53759a9c405ce431937b71b9cc2b9c43a8226c3772369214e22c"), looks := false }, kinds := [], alts := [], laidByText := true, laidKinds := [.data, .data, .data, .data], laidTests := true, laidLooks := .later }
def FountTakesUptoCardSaid : Prop := Claim7.holds Tryd.pinned (.plain (OpenSpec.upto fountTakesSpec)) fountTakesUptoCard

/-- THE SECOND FORM's CARD OF 'tympanlaw01.FountCases'. -/
def fountCasesUptoCard : Claim7 := { stood := { row := fountCasesUptoRow, standIns := [], harness := (true, "378d6dc92e4c53759a9c405ce431937b71b9cc2b9c43a8226c3772369214e22c"), looks := false }, kinds := [], alts := [], laidByText := true, laidKinds := [.data, .data, .data, .data], laidTests := true, laidLooks := .later }
def FountCasesUptoCardSaid : Prop := Claim7.holds Tryd.pinned (.plain (OpenSpec.upto fountCasesSpec)) fountCasesUptoCard

/-- THE SECOND FORM's CARD OF 'tympanlaw01.FountMetals'. -/
def fountMetalsUptoCard : Claim7 := { stood := { row := fountMetalsUptoRow, standIns := [], harness := (true, "378d6dc92e4c53759a9c405ce431937b71b9cc2b9c43a8226c3772369214e22c"), looks := false }, kinds := [], alts := [], laidByText := true, laidKinds := [.data, .data, .data, .data], laidTests := true, laidLooks := .later }
def FountMetalsUptoCardSaid : Prop := Claim7.holds Tryd.pinned (.plain (OpenSpec.upto fountMetalsSpec)) fountMetalsUptoCard

/-- THE SECOND FORM's CARD OF 'tympanlaw01.FountAdds'. -/
def fountAddsUptoCard : Claim7 := { stood := { row := fountAddsUptoRow, standIns := [], harness := (true, "378d6dc92e4c53759a9c405ce431937b71b9cc2b9c43a8226c3772369214e22c"), looks := false }, kinds := [], alts := [], laidByText := true, laidKinds := [.data, .data, .data, .data], laidTests := true, laidLooks := .later }
def FountAddsUptoCardSaid : Prop := Claim7.holds Tryd.pinned (.plain (OpenSpec.upto fountAddsSpec)) fountAddsUptoCard

/-- THE SECOND FORM's CARD OF 'tympanlaw01.FountFinds'. -/
def fountFindsUptoCard : Claim7 := { stood := { row := fountFindsUptoRow, standIns := [], harness := (true, "378d6dc92e4c53759a9c405ce431937b71b9cc2b9c43a8226c3772369214e22c"), looks := false }, kinds := [], alts := [], laidByText := true, laidKinds := [.data, .data, .data, .data], laidTests := true, laidLooks := .later }
def FountFindsUptoCardSaid : Prop := Claim7.holds Tryd.pinned (.plain (OpenSpec.upto fountFindsSpec)) fountFindsUptoCard

/-- THE SECOND FORM's CARD OF 'tympanlaw01.FountKept'. -/
def fountKeptUptoCard : Claim7 := { stood := { row := fountKeptUptoRow, standIns := [], harness := (true, "378d6dc92e4c53759a9c405ce431937b71b9cc2b9c43a8226c3772369214e22c"), looks := false }, kinds := [], alts := [], laidByText := true, laidKinds := [.data, .data, .data, .data], laidTests := true, laidLooks := .later }
def FountKeptUptoCardSaid : Prop := Claim7.holds Tryd.pinned (.plain (OpenSpec.upto fountKeptSpec)) fountKeptUptoCard
end Rows
end Go.Proofs.YtiailnblfonhjaaDoor
