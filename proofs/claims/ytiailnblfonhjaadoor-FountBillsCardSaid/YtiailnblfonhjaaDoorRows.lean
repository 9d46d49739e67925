/-
  NARROWER THAN 'FOR EVERY INPUT', by the rows' own cells (each row's printed sentence says how): FountShares: laid · FountLists: laid · FountChecks: laid · FountBills: laid · FountTakes: laid · FountCases: laid · FountMetals: laid · FountAdds: laid · FountFinds: laid · FountKept: laid.
  DERIVED. THE GIVEN ROWS OF THIS SEAT. 10 by the template 'for every input the law returns true; each argument reads behind the call as it read before'; 0 by the template 'total and deterministic' (their statements: YtiailnblfonhjaaDoorTotals.lean).
  GIVEN WITH THE SEED: the statements are not yours to turn. If you find one false, say at which input.
  Laid BY PROGRAM, IN A SANDBOX (cutbox-rows.mjs): the forced cells as the released guide's own fill.sh prints them over the translation cc7d69482948df5f… (all of the seat's roots in one cut). By AI agents, Wed Nov 11 2026. No macro, syntax, notation, axiom, sorry.
-/
import Derived.Test.YtiailnblfonhjaaDoorChecked
import GoSem.Claim
import GoSem.ClaimJoined
import GoSem.ClaimMapViews
import Derived.JoinedTies
import Derived.KernelRfl
namespace Go.Proofs.YtiailnblfonhjaaDoor
/- THE CELL 'sum', in the pinned program and in every row, IS THE sha256 OF THE DUMP (.gsa) THAT YtiailnblfonhjaaDoorProg.lean LOADS. Nothing in Lean hashes anything: it is a label: what it is worth is what the hold of that sum in a sandbox is worth. -/
noncomputable def Tryd.pinned : Pinned := { name := "ytiailnblfonhjaadoor", sum := "cc7d69482948df5f8c7cf5808a030cd9489b077b9c1f58b728a3be48b92616a7", checked := Tryd.checked }
namespace Rows
def none {H : Type} : Left H := { results := [], args := [] }

/- WHAT THE LISTED PACKAGE-LEVEL VARIABLES READ AS WHEN THE CALL BEGINS. Each datum BY PROGRAM (the guide's laid-datum.mjs) off the statement by which the dump's own 'gosem.cut.vars' lays the variable. In a bare row this is a premise. The card (YtiailnblfonhjaaDoorCards.lean) ties it to the program's text. -/
def laid_math_bits_deBruijn32tab {H : Type} : DataW H := .agg [.lit (.int .u8 0), .lit (.int .u8 1), .lit (.int .u8 28), .lit (.int .u8 2), .lit (.int .u8 29), .lit (.int .u8 14), .lit (.int .u8 24), .lit (.int .u8 3), .lit (.int .u8 30), .lit (.int .u8 22), .lit (.int .u8 20), .lit (.int .u8 15), .lit (.int .u8 25), .lit (.int .u8 17), .lit (.int .u8 4), .lit (.int .u8 8), .lit (.int .u8 31), .lit (.int .u8 27), .lit (.int .u8 13), .lit (.int .u8 23), .lit (.int .u8 21), .lit (.int .u8 19), .lit (.int .u8 16), .lit (.int .u8 7), .lit (.int .u8 26), .lit (.int .u8 12), .lit (.int .u8 18), .lit (.int .u8 6), .lit (.int .u8 11), .lit (.int .u8 5), .lit (.int .u8 10), .lit (.int .u8 9)]
def laid_math_bits_deBruijn64tab {H : Type} : DataW H := .agg [.lit (.int .u8 0), .lit (.int .u8 1), .lit (.int .u8 56), .lit (.int .u8 2), .lit (.int .u8 57), .lit (.int .u8 49), .lit (.int .u8 28), .lit (.int .u8 3), .lit (.int .u8 61), .lit (.int .u8 58), .lit (.int .u8 42), .lit (.int .u8 50), .lit (.int .u8 38), .lit (.int .u8 29), .lit (.int .u8 17), .lit (.int .u8 4), .lit (.int .u8 62), .lit (.int .u8 47), .lit (.int .u8 59), .lit (.int .u8 36), .lit (.int .u8 45), .lit (.int .u8 43), .lit (.int .u8 51), .lit (.int .u8 22), .lit (.int .u8 53), .lit (.int .u8 39), .lit (.int .u8 33), .lit (.int .u8 30), .lit (.int .u8 24), .lit (.int .u8 18), .lit (.int .u8 12), .lit (.int .u8 5), .lit (.int .u8 63), .lit (.int .u8 55), .lit (.int .u8 48), .lit (.int .u8 27), .lit (.int .u8 60), .lit (.int .u8 41), .lit (.int .u8 37), .lit (.int .u8 16), .lit (.int .u8 46), .lit (.int .u8 35), .lit (.int .u8 44), .lit (.int .u8 21), .lit (.int .u8 52), .lit (.int .u8 32), .lit (.int .u8 23), .lit (.int .u8 11), .lit (.int .u8 54), .lit (.int .u8 26), .lit (.int .u8 40), .lit (.int .u8 15), .lit (.int .u8 34), .lit (.int .u8 20), .lit (.int .u8 31), .lit (.int .u8 10), .lit (.int .u8 25), .lit (.int .u8 14), .lit (.int .u8 19), .lit (.int .u8 9), .lit (.int .u8 13), .lit (.int .u8 8), .lit (.int .u8 7), .lit (.int .u8 6)]
def laid_internal_strconv_uint64pow10 {H : Type} : DataW H := .agg [.lit (.int .u64 1), .lit (.int .u64 10), .lit (.int .u64 100), .lit (.int .u64 1000), .lit (.int .u64 10000), .lit (.int .u64 100000), .lit (.int .u64 1000000), .lit (.int .u64 10000000), .lit (.int .u64 100000000), .lit (.int .u64 1000000000), .lit (.int .u64 10000000000), .lit (.int .u64 100000000000), .lit (.int .u64 1000000000000), .lit (.int .u64 10000000000000), .lit (.int .u64 100000000000000), .lit (.int .u64 1000000000000000), .lit (.int .u64 10000000000000000), .lit (.int .u64 100000000000000000), .lit (.int .u64 1000000000000000000), .lit (.int .u64 10000000000000000000)]
def laid_tympan_fount_kinds {H : Type} : DataW H := .agg [.lit (.string []), .lit (.string [108, 101, 116, 116, 101, 114]), .lit (.string [108, 105, 103, 97, 116, 117, 114, 101]), .lit (.string [115, 112, 97, 99, 101])]

/-- 'tympanlaw01.FountShares': WHATEVER THE INPUT: true; the input reads as it did. -/
def fountSharesSpec : ChangeSpec := { name := "fountShares", fn := fun _ => fun
  | [d1, d2, d3] => { results := [.lit (.bool true)], args := [d1, d2, d3] }
  | _ => none }
def fountSharesRow : OpenClaim := { program := "ytiailnblfonhjaadoor", sum := "cc7d69482948df5f8c7cf5808a030cd9489b077b9c1f58b728a3be48b92616a7", func := "tympan/tympanlaw01.FountShares", spec := "fountShares", inPlace := ["internal/abi.NoEscape", "internal/bytealg.MakeNoZero"], unfollowed := true, recurses := true, named := ["tympan/fount.kinds", "internal/strconv.uint64pow10", "math/bits.deBruijn32tab", "math/bits.deBruijn64tab"], apart := false, laid := [("math/bits.deBruijn32tab", laid_math_bits_deBruijn32tab), ("math/bits.deBruijn64tab", laid_math_bits_deBruijn64tab), ("internal/strconv.uint64pow10", laid_internal_strconv_uint64pow10), ("tympan/fount.kinds", laid_tympan_fount_kinds)] }
def FountSharesSaid : Prop := fountSharesRow.holds Tryd.pinned (OpenSpec.ofChange fountSharesSpec)

/-- ITS FALSE NEIGHBOUR: 'it returns false'. Refute it at one input. -/
def fountSharesWrong : ChangeSpec := { name := "fountShares", fn := fun _ => fun
  | [d1, d2, d3] => { results := [.lit (.bool false)], args := [d1, d2, d3] }
  | _ => none }
def FountSharesWrongFalsely : Prop := fountSharesRow.holds Tryd.pinned (OpenSpec.ofChange fountSharesWrong)

/-- 'tympanlaw01.FountLists': WHATEVER THE INPUT: true; the input reads as it did. -/
def fountListsSpec : ChangeSpec := { name := "fountLists", fn := fun _ => fun
  | [d1, d2] => { results := [.lit (.bool true)], args := [d1, d2] }
  | _ => none }
def fountListsRow : OpenClaim := { program := "ytiailnblfonhjaadoor", sum := "cc7d69482948df5f8c7cf5808a030cd9489b077b9c1f58b728a3be48b92616a7", func := "tympan/tympanlaw01.FountLists", spec := "fountLists", inPlace := ["internal/abi.NoEscape", "internal/bytealg.MakeNoZero"], unfollowed := true, recurses := true, named := ["tympan/fount.kinds", "internal/strconv.uint64pow10", "math/bits.deBruijn32tab", "math/bits.deBruijn64tab"], apart := false, laid := [("math/bits.deBruijn32tab", laid_math_bits_deBruijn32tab), ("math/bits.deBruijn64tab", laid_math_bits_deBruijn64tab), ("internal/strconv.uint64pow10", laid_internal_strconv_uint64pow10), ("tympan/fount.kinds", laid_tympan_fount_kinds)] }
def FountListsSaid : Prop := fountListsRow.holds Tryd.pinned (OpenSpec.ofChange fountListsSpec)

/-- ITS FALSE NEIGHBOUR: 'it returns false'. Refute it at one input. -/
def fountListsWrong : ChangeSpec := { name := "fountLists", fn := fun _ => fun
  | [d1, d2] => { results := [.lit (.bool false)], args := [d1, d2] }
  | _ => none }
def FountListsWrongFalsely : Prop := fountListsRow.holds Tryd.pinned (OpenSpec.ofChange fountListsWrong)

/-- 'tympanlaw01.FountChecks': WHATEVER THE INPUT: true; the input reads as it did. -/
def fountChecksSpec : ChangeSpec := { name := "fountChecks", fn := fun _ => fun
  | [d] => { results := [.lit (.bool true)], args := [d] }
  | _ => none }
def fountChecksRow : OpenClaim := { program := "ytiailnblfonhjaadoor", sum := "cc7d69482948df5f8c7cf5808a030cd9489b077b9c1f58b728a3be48b92616a7", func := "tympan/tympanlaw01.FountChecks", spec := "fountChecks", inPlace := ["internal/abi.NoEscape", "internal/bytealg.MakeNoZero"], unfollowed := true, recurses := true, named := ["tympan/fount.kinds", "internal/strconv.uint64pow10", "math/bits.deBruijn32tab", "math/bits.deBruijn64tab"], apart := false, laid := [("math/bits.deBruijn32tab", laid_math_bits_deBruijn32tab), ("math/bits.deBruijn64tab", laid_math_bits_deBruijn64tab), ("internal/strconv.uint64pow10", laid_internal_strconv_uint64pow10), ("tympan/fount.kinds", laid_tympan_fount_kinds)] }
def FountChecksSaid : Prop := fountChecksRow.holds Tryd.pinned (OpenSpec.ofChange fountChecksSpec)

/-- ITS FALSE NEIGHBOUR: 'it returns false'. Refute it at one input. -/
def fountChecksWrong : ChangeSpec := { name := "fountChecks", fn := fun _ => fun
  | [d] => { results := [.lit (.bool false)], args := [d] }
  | _ => none }
def FountChecksWrongFalsely : Prop := fountChecksRow.holds Tryd.pinned (OpenSpec.ofChange fountChecksWrong)

/-- 'tympanlaw01.FountBills': WHATEVER THE INPUT: true; the input reads as it did. -/
def fountBillsSpec : ChangeSpec := { name := "fountBills", fn := fun _ => fun
  | [d1, d2, d3] => { results := [.lit (.bool true)], args := [d1, d2, d3] }
  | _ => none }
def fountBillsRow : OpenClaim := { program := "ytiailnblfonhjaadoor", sum := "cc7d69482948df5f8c7cf5808a030cd9489b077b9c1f58b728a3be48b92616a7", func := "tympan/tympanlaw01.FountBills", spec := "fountBills", inPlace := ["internal/abi.NoEscape", "internal/bytealg.MakeNoZero"], unfollowed := true, recurses := true, named := ["tympan/fount.kinds", "internal/strconv.uint64pow10", "math/bits.deBruijn32tab", "math/bits.deBruijn64tab"], apart := false, laid := [("math/bits.deBruijn32tab", laid_math_bits_deBruijn32tab), ("math/bits.deBruijn64tab", laid_math_bits_deBruijn64tab), ("internal/strconv.uint64pow10", laid_internal_strconv_uint64pow10), ("tympan/fount.kinds", laid_tympan_fount_kinds)] }
def FountBillsSaid : Prop := fountBillsRow.holds Tryd.pinned (OpenSpec.ofChange fountBillsSpec)

/-- ITS FALSE NEIGHBOUR: 'it returns false'. Refute it at one input. -/
def fountBillsWrong : ChangeSpec := { name := "fountBills", fn := fun _ => fun
  | [d1, d2, d3] => { results := [.lit (.bool false)], args := [d1, d2, d3] }
  | _ => none }
def FountBillsWrongFalsely : Prop := fountBillsRow.holds Tryd.pinned (OpenSpec.ofChange fountBillsWrong)

/-- 'tympanlaw01.FountTakes': WHATEVER THE INPUT: true; the input reads as it did. -/
def fountTakesSpec : ChangeSpec := { name := "fountTakes", fn := fun _ => fun
  | [d1, d2, d3] => { results := [.lit (.bool true)], args := [d1, d2, d3] }
  | _ => none }
def fountTakesRow : OpenClaim := { program := "ytiailnblfonhjaadoor", sum := "cc7d69482948df5f8c7cf5808a030cd9489b077b9c1f58b728a3be48b92616a7", func := "tympan/tympanlaw01.FountTakes", spec := "fountTakes", inPlace := ["internal/abi.NoEscape", "internal/bytealg.MakeNoZero"], unfollowed := true, recurses := true, named := ["tympan/fount.kinds", "internal/strconv.uint64pow10", "math/bits.deBruijn32tab", "math/bits.deBruijn64tab"], apart := false, laid := [("math/bits.deBruijn32tab", laid_math_bits_deBruijn32tab), ("math/bits.deBruijn64tab", laid_math_bits_deBruijn64tab), ("internal/strconv.uint64pow10", laid_internal_strconv_uint64pow10), ("tympan/fount.kinds", laid_tympan_fount_kinds)] }
def FountTakesSaid : Prop := fountTakesRow.holds Tryd.pinned (OpenSpec.ofChange fountTakesSpec)

/-- ITS FALSE NEIGHBOUR: 'it returns false'. Refute it at one input. -/
def fountTakesWrong : ChangeSpec := { name := "fountTakes", fn := fun _ => fun
  | [d1, d2, d3] => { results := [.lit (.bool false)], args := [d1, d2, d3] }
  | _ => none }
def FountTakesWrongFalsely : Prop := fountTakesRow.holds Tryd.pinned (OpenSpec.ofChange fountTakesWrong)

/-- 'tympanlaw01.FountCases': WHATEVER THE INPUT: true; the input reads as it did. -/
def fountCasesSpec : ChangeSpec := { name := "fountCases", fn := fun _ => fun
  | [d1, d2, d3] => { results := [.lit (.bool true)], args := [d1, d2, d3] }
  | _ => none }
def fountCasesRow : OpenClaim := { program := "ytiailnblfonhjaadoor", sum := "cc7d69482948df5f8c7cf5808a030cd9489b077b9c1f58b728a3be48b92616a7", func := "tympan/tympanlaw01.FountCases", spec := "fountCases", inPlace := ["internal/abi.NoEscape", "internal/bytealg.MakeNoZero"], unfollowed := true, recurses := true, named := ["tympan/fount.kinds", "internal/strconv.uint64pow10", "math/bits.deBruijn32tab", "math/bits.deBruijn64tab"], apart := false, laid := [("math/bits.deBruijn32tab", laid_math_bits_deBruijn32tab), ("math/bits.deBruijn64tab", laid_math_bits_deBruijn64tab), ("internal/strconv.uint64pow10", laid_internal_strconv_uint64pow10), ("tympan/fount.kinds", laid_tympan_fount_kinds)] }
def FountCasesSaid : Prop := fountCasesRow.holds Tryd.pinned (OpenSpec.ofChange fountCasesSpec)

/-- ITS FALSE NEIGHBOUR: 'it returns false'. Refute it at one input. -/
def fountCasesWrong : ChangeSpec := { name := "fountCases", fn := fun _ => fun
  | [d1, d2, d3] => { results := [.lit (.bool false)], args := [d1, d2, d3] }
  | _ => none }
def FountCasesWrongFalsely : Prop := fountCasesRow.holds Tryd.pinned (OpenSpec.ofChange fountCasesWrong)

/-- 'tympanlaw01.FountMetals': WHATEVER THE INPUT: true; the input reads as it did. -/
def fountMetalsSpec : ChangeSpec := { name := "fountMetals", fn := fun _ => fun
  | [d1, d2, d3] => { results := [.lit (.bool true)], args := [d1, d2, d3] }
  | _ => none }
def fountMetalsRow : OpenClaim := { program := "ytiailnblfonhjaadoor", sum := "cc7d69482948df5f8c7cf5808a030cd9489b077b9c1f58b728a3be48b92616a7", func := "tympan/tympanlaw01.FountMetals", spec := "fountMetals", inPlace := ["internal/abi.NoEscape", "internal/bytealg.MakeNoZero"], unfollowed := true, recurses := true, named := ["tympan/fount.kinds", "internal/strconv.uint64pow10", "math/bits.deBruijn32tab", "math/bits.deBruijn64tab"], apart := false, laid := [("math/bits.deBruijn32tab", laid_math_bits_deBruijn32tab), ("math/bits.deBruijn64tab", laid_math_bits_deBruijn64tab), ("internal/strconv.uint64pow10", laid_internal_strconv_uint64pow10), ("tympan/fount.kinds", laid_tympan_fount_kinds)] }
def FountMetalsSaid : Prop := fountMetalsRow.holds Tryd.pinned (OpenSpec.ofChange fountMetalsSpec)

/-- ITS FALSE NEIGHBOUR: 'it returns false'. Refute it at one input. -/
def fountMetalsWrong : ChangeSpec := { name := "fountMetals", fn := fun _ => fun
  | [d1, d2, d3] => { results := [.lit (.bool false)], args := [d1, d2, d3] }
  | _ => none }
def FountMetalsWrongFalsely : Prop := fountMetalsRow.holds Tryd.pinned (OpenSpec.ofChange fountMetalsWrong)

/-- 'tympanlaw01.FountAdds': WHATEVER THE INPUT: true; the input reads as it did. -/
def fountAddsSpec : ChangeSpec := { name := "fountAdds", fn := fun _ => fun
  | [d1, d2, d3] => { results := [.lit (.bool true)], args := [d1, d2, d3] }
  | _ => none }
def fountAddsRow : OpenClaim := { program := "ytiailnblfonhjaadoor", sum := "cc7d69482948df5f8c7cf5808a030cd9489b077b9c1f58b728a3be48b92616a7", func := "tympan/tympanlaw01.FountAdds", spec := "fountAdds", inPlace := ["internal/abi.NoEscape", "internal/bytealg.MakeNoZero"], unfollowed := true, recurses := true, named := ["tympan/fount.kinds", "internal/strconv.uint64pow10", "math/bits.deBruijn32tab", "math/bits.deBruijn64tab"], apart := false, laid := [("math/bits.deBruijn32tab", laid_math_bits_deBruijn32tab), ("math/bits.deBruijn64tab", laid_math_bits_deBruijn64tab), ("internal/strconv.uint64pow10", laid_internal_strconv_uint64pow10), ("tympan/fount.kinds", laid_tympan_fount_kinds)] }
def FountAddsSaid : Prop := fountAddsRow.holds Tryd.pinned (OpenSpec.ofChange fountAddsSpec)

/-- ITS FALSE NEIGHBOUR: 'it returns false'. Refute it at one input. -/
def fountAddsWrong : ChangeSpec := { name := "fountAdds", fn := fun _ => fun
  | [d1, d2, d3] => { results := [.lit (.bool false)], args := [d1, d2, d3] }
  | _ => none }
def FountAddsWrongFalsely : Prop := fountAddsRow.holds Tryd.pinned (OpenSpec.ofChange fountAddsWrong)

/-- 'tympanlaw01.FountFinds': WHATEVER THE INPUT: true; the input reads as it did. -/
def fountFindsSpec : ChangeSpec := { name := "fountFinds", fn := fun _ => fun
  | [d1, d2, d3] => { results := [.lit (.bool true)], args := [d1, d2, d3] }
  | _ => none }
def fountFindsRow : OpenClaim := { program := "ytiailnblfonhjaadoor", sum := "cc7d69482948df5f8c7cf5808a030cd9489b077b9c1f58b728a3be48b92616a7", func := "tympan/tympanlaw01.FountFinds", spec := "fountFinds", inPlace := ["internal/abi.NoEscape", "internal/bytealg.MakeNoZero"], unfollowed := true, recurses := true, named := ["tympan/fount.kinds", "internal/strconv.uint64pow10", "math/bits.deBruijn32tab", "math/bits.deBruijn64tab"], apart := false, laid := [("math/bits.deBruijn32tab", laid_math_bits_deBruijn32tab), ("math/bits.deBruijn64tab", laid_math_bits_deBruijn64tab), ("internal/strconv.uint64pow10", laid_internal_strconv_uint64pow10), ("tympan/fount.kinds", laid_tympan_fount_kinds)] }
def FountFindsSaid : Prop := fountFindsRow.holds Tryd.pinned (OpenSpec.ofChange fountFindsSpec)

/-- ITS FALSE NEIGHBOUR: 'it returns false'. Refute it at one input. -/
def fountFindsWrong : ChangeSpec := { name := "fountFinds", fn := fun _ => fun
  | [d1, d2, d3] => { results := [.lit (.bool false)], args := [d1, d2, d3] }
  | _ => none }
def FountFindsWrongFalsely : Prop := fountFindsRow.holds Tryd.pinned (OpenSpec.ofChange fountFindsWrong)

/-- 'tympanlaw01.FountKept': WHATEVER THE INPUT: true; the input reads as it did. -/
def fountKeptSpec : ChangeSpec := { name := "fountKept", fn := fun _ => fun
  | [d1, d2, d3] => { results := [.lit (.bool true)], args := [d1, d2, d3] }
  | _ => none }
def fountKeptRow : OpenClaim := { program := "ytiailnblfonhjaadoor", sum := "cc7d69482948df5f8c7cf5808a030cd9489b077b9c1f58b728a3be48b92616a7", func := "tympan/tympanlaw01.FountKept", spec := "fountKept", inPlace := ["internal/abi.NoEscape", "internal/bytealg.MakeNoZero"], unfollowed := true, recurses := true, named := ["tympan/fount.kinds", "internal/strconv.uint64pow10", "math/bits.deBruijn32tab", "math/bits.deBruijn64tab"], apart := false, laid := [("math/bits.deBruijn32tab", laid_math_bits_deBruijn32tab), ("math/bits.deBruijn64tab", laid_math_bits_deBruijn64tab), ("internal/strconv.uint64pow10", laid_internal_strconv_uint64pow10), ("tympan/fount.kinds", laid_tympan_fount_kinds)] }
def FountKeptSaid : Prop := fountKeptRow.holds Tryd.pinned (OpenSpec.ofChange fountKeptSpec)

/-- ITS FALSE NEIGHBOUR: 'it returns false'. Refute it at one input. -/
def fountKeptWrong : ChangeSpec := { name := "fountKept", fn := fun _ => fun
  | [d1, d2, d3] => { results := [.lit (.bool false)], args := [d1, d2, d3] }
  | _ => none }
def FountKeptWrongFalsely : Prop := fountKeptRow.holds Tryd.pinned (OpenSpec.ofChange fountKeptWrong)

/- THE SECOND FORM. 'bulk': how many values and letters a reading holds, each counted each time it is reached (what is shared counts as often as it is met; a slice's spare places count too). A statement '..UptoSaid' is the law's where the arguments, and the package variables that the reading takes, are together of bulk at most 1048576: NARROWER than '..Said'. Prove '..Said' where nothing that the law and all that it calls make is longer than what came in: it says more and counts as full. Else prove '..UptoSaid'. A law counts once. -/
mutual
def uptoBulk {H : Type} : DataW H → Nat
  | .lit (.string bytes) => bytes.length + 1
  | .lit _ => 1
  | .nil => 1
  | .ptr d => uptoBulk d + 1
  | .slice elems spare => uptoBulkAll elems + uptoBulkAll spare + 1
  | .agg parts => uptoBulkAll parts + 1
  | .iface _ d => uptoBulk d + 1
  | .map entries => uptoBulkEntries entries + 1
  | .held _ => 1
def uptoBulkAll {H : Type} : List (DataW H) → Nat
  | [] => 0
  | d :: r => uptoBulk d + uptoBulkAll r
def uptoBulkEntries {H : Type} : List (Lit × DataW H) → Nat
  | [] => 0
  | x :: r => uptoBulkEntry x + uptoBulkEntries r
def uptoBulkEntry {H : Type} : Lit × DataW H → Nat
  | (.string bytes, d) => bytes.length + uptoBulk d + 1
  | (_, d) => uptoBulk d + 1
 end
def uptoSmall : (H : Type) → List (DataW H) → Bool := fun _ ds => decide (uptoBulkAll ds ≤ 1048576)
def OpenSpec.upto (s : _root_.Go.ChangeSpec) : _root_.Go.OpenSpec := { _root_.Go.OpenSpec.ofChange s with cond := some uptoSmall }

/-- 'tympanlaw01.FountShares', WHERE WHAT IT READS IS OF BULK AT MOST 1048576: true; the input reads as it did. -/
def fountSharesUptoRow : OpenClaim := { program := "ytiailnblfonhjaadoor", sum := "cc7d69482948df5f8c7cf5808a030cd9489b077b9c1f58b728a3be48b92616a7", func := "tympan/tympanlaw01.FountShares", spec := "fountShares", inPlace := ["internal/abi.NoEscape", "internal/bytealg.MakeNoZero"], unfollowed := true, recurses := true, named := ["tympan/fount.kinds", "internal/strconv.uint64pow10", "math/bits.deBruijn32tab", "math/bits.deBruijn64tab"], apart := false, laid := [("math/bits.deBruijn32tab", laid_math_bits_deBruijn32tab), ("math/bits.deBruijn64tab", laid_math_bits_deBruijn64tab), ("internal/strconv.uint64pow10", laid_internal_strconv_uint64pow10), ("tympan/fount.kinds", laid_tympan_fount_kinds)], narrowed := true }
def FountSharesUptoSaid : Prop := fountSharesUptoRow.holds Tryd.pinned (OpenSpec.upto fountSharesSpec)

/-- 'tympanlaw01.FountLists', WHERE WHAT IT READS IS OF BULK AT MOST 1048576: true; the input reads as it did. -/
def fountListsUptoRow : OpenClaim := { program := "ytiailnblfonhjaadoor", sum := "cc7d69482948df5f8c7cf5808a030cd9489b077b9c1f58b728a3be48b92616a7", func := "tympan/tympanlaw01.FountLists", spec := "fountLists", inPlace := ["internal/abi.NoEscape", "internal/bytealg.MakeNoZero"], unfollowed := true, recurses := true, named := ["tympan/fount.kinds", "internal/strconv.uint64pow10", "math/bits.deBruijn32tab", "math/bits.deBruijn64tab"], apart := false, laid := [("math/bits.deBruijn32tab", laid_math_bits_deBruijn32tab), ("math/bits.deBruijn64tab", laid_math_bits_deBruijn64tab), ("internal/strconv.uint64pow10", laid_internal_strconv_uint64pow10), ("tympan/fount.kinds", laid_tympan_fount_kinds)], narrowed := true }
def FountListsUptoSaid : Prop := fountListsUptoRow.holds Tryd.pinned (OpenSpec.upto fountListsSpec)

/-- 'tympanlaw01.FountChecks', WHERE WHAT IT READS IS OF BULK AT MOST 1048576: true; the input reads as it did. -/
def fountChecksUptoRow : OpenClaim := { program := "ytiailnblfonhjaadoor", sum := "cc7d69482948df5f8c7cf5808a030cd9489b077b9c1f58b728a3be48b92616a7", func := "tympan/tympanlaw01.FountChecks", spec := "fountChecks", inPlace := ["internal/abi.NoEscape", "internal/bytealg.MakeNoZero"], unfollowed := true, recurses := true, named := ["tympan/fount.kinds", "internal/strconv.uint64pow10", "math/bits.deBruijn32tab", "math/bits.deBruijn64tab"], apart := false, laid := [("math/bits.deBruijn32tab", laid_math_bits_deBruijn32tab), ("math/bits.deBruijn64tab", laid_math_bits_deBruijn64tab), ("internal/strconv.uint64pow10", laid_internal_strconv_uint64pow10), ("tympan/fount.kinds", laid_tympan_fount_kinds)], narrowed := true }
def FountChecksUptoSaid : Prop := fountChecksUptoRow.holds Tryd.pinned (OpenSpec.upto fountChecksSpec)

/-- 'tympanlaw01.FountBills', WHERE WHAT IT READS IS OF BULK AT MOST 1048576: true; the input reads as it did. -/
def fountBillsUptoRow : OpenClaim := { program := "ytiailnblfonhjaadoor", sum := "cc7d69482948df5f8c7cf5808a030cd9489b077b9c1f58b728a3be48b92616a7", func := "tympan/tympanlaw01.FountBills", spec := "fountBills", inPlace := ["internal/abi.NoEscape", "internal/bytealg.MakeNoZero"], unfollowed := true, recurses := true, named := ["tympan/fount.kinds", "internal/strconv.uint64pow10", "math/bits.deBruijn32tab", "math/bits.deBruijn64tab"], apart := false, laid := [("math/bits.deBruijn32tab", laid_math_bits_deBruijn32tab), ("math/bits.deBruijn64tab", laid_math_bits_deBruijn64tab), ("internal/strconv.uint64pow10", laid_internal_strconv_uint64pow10), ("tympan/fount.kinds", laid_tympan_fount_kinds)], narrowed := true }
def FountBillsUptoSaid : Prop := fountBillsUptoRow.holds Tryd.pinned (OpenSpec.upto fountBillsSpec)

/-- 'tympanlaw01.FountTakes', WHERE WHAT IT READS IS OF BULK AT MOST 1048576: true; the input reads as it did. -/
def fountTakesUptoRow : OpenClaim := { program := "ytiailnblfonhjaadoor", sum := "cc7d69482948df5f8c7cf5808a030cd9489b077b9c1f58b728a3be48b92616a7", func := "tympan/tympanlaw01.FountTakes", spec := "fountTakes", inPlace := ["internal/abi.NoEscape", "internal/bytealg.MakeNoZero"], unfollowed := true, recurses := true, named := ["tympan/fount.kinds", "internal/strconv.uint64pow10", "math/bits.deBruijn32tab", "math/bits.deBruijn64tab"], apart := false, laid := [("math/bits.deBruijn32tab", laid_math_bits_deBruijn32tab), ("math/bits.deBruijn64tab", laid_math_bits_deBruijn64tab), ("internal/strconv.uint64pow10", laid_internal_strconv_uint64pow10), ("tympan/fount.kinds", laid_tympan_fount_kinds)], narrowed := true }
def FountTakesUptoSaid : Prop := fountTakesUptoRow.holds Tryd.pinned (OpenSpec.upto fountTakesSpec)

/-- 'tympanlaw01.FountCases', WHERE WHAT IT READS IS OF BULK AT MOST 1048576: true; the input reads as it did. -/
def fountCasesUptoRow : OpenClaim := { program := "ytiailnblfonhjaadoor", sum := "cc7d69482948df5f8c7cf5808a030cd9489b077b9c1f58b728a3be48b92616a7", func := "tympan/tympanlaw01.FountCases", spec := "fountCases", inPlace := ["internal/abi.NoEscape", "internal/bytealg.MakeNoZero"], unfollowed := true, recurses := true, named := ["tympan/fount.kinds", "internal/strconv.uint64pow10", "math/bits.deBruijn32tab", "math/bits.deBruijn64tab"], apart := false, laid := [("math/bits.deBruijn32tab", laid_math_bits_deBruijn32tab), ("math/bits.deBruijn64tab", laid_math_bits_deBruijn64tab), ("internal/strconv.uint64pow10", laid_internal_strconv_uint64pow10), ("tympan/fount.kinds", laid_tympan_fount_kinds)], narrowed := true }
def FountCasesUptoSaid : Prop := fountCasesUptoRow.holds Tryd.pinned (OpenSpec.upto fountCasesSpec)

/-- 'tympanlaw01.FountMetals', WHERE WHAT IT READS IS OF BULK AT MOST 1048576: true; the input reads as it did. -/
def fountMetalsUptoRow : OpenClaim := { program := "ytiailnblfonhjaadoor", sum := "cc7d69482948df5f8c7cf5808a030cd9489b077b9c1f58b728a3be48b92616a7", func := "tympan/tympanlaw01.FountMetals", spec := "fountMetals", inPlace := ["internal/abi.NoEscape", "internal/bytealg.MakeNoZero"], unfollowed := true, recurses := true, named := ["tympan/fount.kinds", "internal/strconv.uint64pow10", "math/bits.deBruijn32tab", "math/bits.deBruijn64tab"], apart := false, laid := [("math/bits.deBruijn32tab", laid_math_bits_deBruijn32tab), ("math/bits.deBruijn64tab", laid_math_bits_deBruijn64tab), ("internal/strconv.uint64pow10", laid_internal_strconv_uint64pow10), ("tympan/fount.kinds", laid_tympan_fount_kinds)], narrowed := true }
def FountMetalsUptoSaid : Prop := fountMetalsUptoRow.holds Tryd.pinned (OpenSpec.upto fountMetalsSpec)

/-- 'tympanlaw01.FountAdds', WHERE WHAT IT READS IS OF BULK AT MOST 1048576: true; the input reads as it did. -/
def fountAddsUptoRow : OpenClaim := { program := "ytiailnblfonhjaadoor", sum := "cc7d69482948df5f8c7cf5808a030cd9489b077b9c1f58b728a3be48b92616a7", func := "tympan/tympanlaw01.FountAdds", spec := "fountAdds", inPlace := ["internal/abi.NoEscape", "internal/bytealg.MakeNoZero"], unfollowed := true, recurses := true, named := ["tympan/fount.kinds", "internal/strconv.uint64pow10", "math/bits.deBruijn32tab", "math/bits.deBruijn64tab"], apart := false, laid := [("math/bits.deBruijn32tab", laid_math_bits_deBruijn32tab), ("math/bits.deBruijn64tab", laid_math_bits_deBruijn64tab), ("internal/strconv.uint64pow10", laid_internal_strconv_uint64pow10), ("tympan/fount.kinds", laid_tympan_fount_kinds)], narrowed := true }
def FountAddsUptoSaid : Prop := fountAddsUptoRow.holds Tryd.pinned (OpenSpec.upto fountAddsSpec)

/-- 'tympanlaw01.FountFinds', WHERE WHAT IT READS IS OF BULK AT MOST 1048576: true; the input reads as it did. -/
def fountFindsUptoRow : OpenClaim := { program := "ytiailnblfonhjaadoor", sum := "cc7d69482948df5f8c7cf5808a030cd9489b077b9c1f58b728a3be48b92616a7", func := "tympan/tympanlaw01.FountFinds", spec := "fountFinds", inPlace := ["internal/abi.NoEscape", "internal/bytealg.MakeNoZero"], unfollowed := true, recurses := true, named := ["tympan/fount.kinds", "internal/strconv.uint64pow10", "math/bits.deBruijn32tab", "math/bits.deBruijn64tab"], apart := false, laid := [("math/bits.deBruijn32tab", laid_math_bits_deBruijn32tab), ("math/bits.deBruijn64tab", laid_math_bits_deBruijn64tab), ("internal/strconv.uint64pow10", laid_internal_strconv_uint64pow10), ("tympan/fount.kinds", laid_tympan_fount_kinds)], narrowed := true }
def FountFindsUptoSaid : Prop := fountFindsUptoRow.holds Tryd.pinned (OpenSpec.upto fountFindsSpec)

/-- 'tympanlaw01.FountKept', WHERE WHAT IT READS IS OF BULK AT MOST 1048576: true; the input reads as it did. -/
def fountKeptUptoRow : OpenClaim := { program := "ytiailnblfonhjaadoor", sum := "cc7d69482948df5f8c7cf5808a030cd9489b077b9c1f58b728a3be48b92616a7", func := "tympan/tympanlaw01.FountKept", spec := "fountKept", inPlace := ["internal/abi.NoEscape", "internal/bytealg.MakeNoZero"], unfollowed := true, recurses := true, named := ["tympan/fount.kinds", "internal/strconv.uint64pow10", "math/bits.deBruijn32tab", "math/bits.deBruijn64tab"], apart := false, laid := [("math/bits.deBruijn32tab", laid_math_bits_deBruijn32tab), ("math/bits.deBruijn64tab", laid_math_bits_deBruijn64tab), ("internal/strconv.uint64pow10", laid_internal_strconv_uint64pow10), ("tympan/fount.kinds", laid_tympan_fount_kinds)], narrowed := true }
def FountKeptUptoSaid : Prop := fountKeptUptoRow.holds Tryd.pinned (OpenSpec.upto fountKeptSpec)

end Rows
end Go.Proofs.YtiailnblfonhjaaDoor
