/-
  PageProofs: the walk, in the frame's form.
-/
import Derived.Test.YtpkmapngdkkglaaGreatDoorProofs
import Derived.Test.YtpkmapngdkkglaaGreatDoorOpen5
namespace Go.Proofs.YtpkmapngdkkglaaGreatDoor.pageproofs
open Go.RowKit
theorem walk (g : GT) (a : GA) (r : QT) (X : Option Addr) (cx : Nat) (xs : List Int) (Z : Option Addr) (cz : Nat) (zs : List Int) (w : World) (hg : GR w a g) (_hq : r.ok) (hx : RI w X xs.length xs) (_hxc : xs.length ≤ cx ∧ cx ≤ maxLen) (hz : RI w Z zs.length zs) (_hzc : zs.length ≤ cz ∧ cz ≤ maxLen) (hT : Tab5 w) : Calls Tryz.prog 7 #[g.val a, r.val, .agg #[.slice X xs.length cx, .slice Z zs.length cz]] w (Ret (.bool true) w) := proofs.walk g a r X cx xs Z cz zs w hg hx hz hT
end Go.Proofs.YtpkmapngdkkglaaGreatDoor.pageproofs
