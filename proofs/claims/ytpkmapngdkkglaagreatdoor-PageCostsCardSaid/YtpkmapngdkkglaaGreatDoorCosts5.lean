/-
  PageCosts: the walk, in the frame's form.
-/
import Derived.Test.YtpkmapngdkkglaaGreatDoorCosts
import Derived.Test.YtpkmapngdkkglaaGreatDoorOpen5
namespace Go.Proofs.YtpkmapngdkkglaaGreatDoor.pagecosts
open Go.RowKit
theorem walk (g : GT) (a : GA) (r : QT) (x y : Int) (w : World) (hg : GR w a g) (_hq : r.ok) (_hx : I64 x) (_hy : I64 y) (hT : Tab5 w) : Calls Tryz.prog 3 #[g.val a, r.val, .agg #[.int .i64 x, .int .i64 y]] w (Ret (.bool true) w) := costs.walk g a r x y w hg hT
end Go.Proofs.YtpkmapngdkkglaaGreatDoor.pagecosts
