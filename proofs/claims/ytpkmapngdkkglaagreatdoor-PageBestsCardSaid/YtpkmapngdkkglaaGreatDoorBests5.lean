/-
  PageBests: the walk, in the frame's form.
-/
import Derived.Test.YtpkmapngdkkglaaGreatDoorBests
import Derived.Test.YtpkmapngdkkglaaGreatDoorOpen5
namespace Go.Proofs.YtpkmapngdkkglaaGreatDoor.pagebests
open Go.RowKit
theorem walk (g : GT) (a : GA) (r : QT) (w : World) (hg : GR w a g) (_hq : r.ok) (hT : Tab5 w) : Calls Tryz.prog 6 #[g.val a, r.val] w (Ret (.bool true) w) := bests.walk g a r w hg hT
end Go.Proofs.YtpkmapngdkkglaaGreatDoor.pagebests
