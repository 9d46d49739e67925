/-
  PageLongest: the walk, in the frame's form.
-/
import Derived.Test.YtpkmapngdkkglaaGreatDoorLongest
import Derived.Test.YtpkmapngdkkglaaGreatDoorOpen5
namespace Go.Proofs.YtpkmapngdkkglaaGreatDoor.pagelongest
open Go.RowKit
theorem walk (g : GT) (a : GA) (r : QT) (X : Option Addr) (cx : Nat) (xs : List Int) (w : World) (hg : GR w a g) (_hq : r.ok) (hx : RI w X xs.length xs) (_hz : ∀ z ∈ xs, I64 z) (hT : Tab5 w) : Calls Tryz.prog 8 #[g.val a, r.val, .slice X xs.length cx] w (Ret (.bool true) w) := longest.walk g a r X cx xs w hg hx hT
end Go.Proofs.YtpkmapngdkkglaaGreatDoor.pagelongest
