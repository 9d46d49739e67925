/-
  No cell of these rows narrows 'for every input' (looked for: loops, veiled, ifaces, maps, wideKeys, modest, calm, conditions, laid).
  DERIVED. THE GIVEN ROWS OF THIS SEAT. 2 by the template 'for every input the law returns true; each argument reads behind the call as it read before'; 0 by the template 'total and deterministic' (their statements: YtphkffndhifdkaaTotals.lean).
  GIVEN WITH THE SEED: the statements are not yours to turn. If you find one false, say at which input.
  Laid BY PROGRAM, IN A SANDBOX (cutbox-rows.mjs): the forced cells as the released guide's own fill.sh prints them over the translation a616c328b3c64504… (all of the seat's roots in one cut). By AI agents, Wed Nov 11 2026. No macro, syntax, notation, axiom, sorry.
-/
import Derived.Test.YtphkffndhifdkaaChecked
import GoSem.Claim
import GoSem.ClaimJoined
import GoSem.ClaimMapViews
import Derived.JoinedTies
import Derived.KernelRfl
namespace Go.Proofs.Ytphkffndhifdkaa
/- THE CELL 'sum', in the pinned program and in every row, IS THE sha256 OF THE DUMP (.gsa) THAT YtphkffndhifdkaaProg.lean LOADS. Nothing in Lean hashes anything: it is a label: what it is worth is what the hold of that sum in a sandbox is worth. -/
noncomputable def Try.pinned : Pinned := { name := "ytphkffndhifdkaa", sum := "a616c328b3c64504815729a5aa6f4f566078a63819ce81e3d54814926657f469", checked := Try.checked }
namespace Rows
def none {H : Type} : Left H := { results := [], args := [] }

/-- 'tympantop.TopPartedAndJoined': WHATEVER THE INPUT: true; the input reads as it did. -/
def topPartedAndJoinedSpec : ChangeSpec := { name := "topPartedAndJoined", fn := fun _ => fun
  | [d1, d2, d3] => { results := [.lit (.bool true)], args := [d1, d2, d3] }
  | _ => none }
def topPartedAndJoinedRow : OpenClaim := { program := "ytphkffndhifdkaa", sum := "a616c328b3c64504815729a5aa6f4f566078a63819ce81e3d54814926657f469", func := "tympan/tympantop.TopPartedAndJoined", spec := "topPartedAndJoined", unfollowed := true, recurses := true, apart := false }
def TopPartedAndJoinedSaid : Prop := topPartedAndJoinedRow.holds Try.pinned (OpenSpec.ofChange topPartedAndJoinedSpec)

/-- ITS FALSE NEIGHBOUR: 'it returns false'. Refute it at one input. -/
def topPartedAndJoinedWrong : ChangeSpec := { name := "topPartedAndJoined", fn := fun _ => fun
  | [d1, d2, d3] => { results := [.lit (.bool false)], args := [d1, d2, d3] }
  | _ => none }
def TopPartedAndJoinedWrongFalsely : Prop := topPartedAndJoinedRow.holds Try.pinned (OpenSpec.ofChange topPartedAndJoinedWrong)

/-- 'tympantop.TopBillsCast': WHATEVER THE INPUT: true; the input reads as it did. -/
def topBillsCastSpec : ChangeSpec := { name := "topBillsCast", fn := fun _ => fun
  | [d1, d2, d3] => { results := [.lit (.bool true)], args := [d1, d2, d3] }
  | _ => none }
def topBillsCastRow : OpenClaim := { program := "ytphkffndhifdkaa", sum := "a616c328b3c64504815729a5aa6f4f566078a63819ce81e3d54814926657f469", func := "tympan/tympantop.TopBillsCast", spec := "topBillsCast", unfollowed := true, recurses := true, apart := false }
def TopBillsCastSaid : Prop := topBillsCastRow.holds Try.pinned (OpenSpec.ofChange topBillsCastSpec)

/-- ITS FALSE NEIGHBOUR: 'it returns false'. Refute it at one input. -/
def topBillsCastWrong : ChangeSpec := { name := "topBillsCast", fn := fun _ => fun
  | [d1, d2, d3] => { results := [.lit (.bool false)], args := [d1, d2, d3] }
  | _ => none }
def TopBillsCastWrongFalsely : Prop := topBillsCastRow.holds Try.pinned (OpenSpec.ofChange topBillsCastWrong)

/- THE SECOND FORM. 'bulk': how many values and letters a reading holds, each counted each time it is reached (what is shared counts as often as it is met; a slice's spare places count too). A statement '..UptoSaid' is the law's where the arguments, and the package variables that the reading takes, are together of bulk at most 1048576: NARROWER than '..Said'. Prove '..Said' where nothing that the law and all that it calls make is longer than what came in: it says more and counts as full. Else prove '..UptoSaid'. A law counts once. -/
mutual
def uptoBulk {H : Type} : DataW H → Nat
  | .lit (.string bytes) => bytes.length + 1
  | .lit _ => 1
  | .nil => 1
  | .ptr d => uptoBulk d + 1
  | .slice elems spare => uptoBulkAll elems + uptoBulkAll spare + 1
  | .agg parts => uptoBulkAll parts + 1
  | .iface _ d => uptoBulk d + 1
  | .map entries => uptoBulkEntries entries + 1
  | .held _ => 1
def uptoBulkAll {H : Type} : List (DataW H) → Nat
  | [] => 0
  | d :: r => uptoBulk d + uptoBulkAll r
def uptoBulkEntries {H : Type} : List (Lit × DataW H) → Nat
  | [] => 0
  | x :: r => uptoBulkEntry x + uptoBulkEntries r
def uptoBulkEntry {H : Type} : Lit × DataW H → Nat
  | (.string bytes, d) => bytes.length + uptoBulk d + 1
  | (_, d) => uptoBulk d + 1
 end
def uptoSmall : (H : Type) → List (DataW H) → Bool := fun _ ds => decide (uptoBulkAll ds ≤ 1048576)
def OpenSpec.upto (s : _root_.Go.ChangeSpec) : _root_.Go.OpenSpec := { _root_.Go.OpenSpec.ofChange s with cond := some uptoSmall }

/-- 'tympantop.TopPartedAndJoined', WHERE WHAT IT READS IS OF BULK AT MOST 1048576: true; the input reads as it did. -/
def topPartedAndJoinedUptoRow : OpenClaim := { program := "ytphkffndhifdkaa", sum := "a616c328b3c64504815729a5aa6f4f566078a63819ce81e3d54814926657f469", func := "tympan/tympantop.TopPartedAndJoined", spec := "topPartedAndJoined", unfollowed := true, recurses := true, apart := false, narrowed := true }
def TopPartedAndJoinedUptoSaid : Prop := topPartedAndJoinedUptoRow.holds Try.pinned (OpenSpec.upto topPartedAndJoinedSpec)

/-- 'tympantop.TopBillsCast', WHERE WHAT IT READS IS OF BULK AT MOST 1048576: true; the input reads as it did. -/
def topBillsCastUptoRow : OpenClaim := { program := "ytphkffndhifdkaa", sum := "a616c328b3c64504815729a5aa6f4f566078a63819ce81e3d54814926657f469", func := "tympan/tympantop.TopBillsCast", spec := "topBillsCast", unfollowed := true, recurses := true, apart := false, narrowed := true }
def TopBillsCastUptoSaid : Prop := topBillsCastUptoRow.holds Try.pinned (OpenSpec.upto topBillsCastSpec)

end Rows
end Go.Proofs.Ytphkffndhifdkaa
