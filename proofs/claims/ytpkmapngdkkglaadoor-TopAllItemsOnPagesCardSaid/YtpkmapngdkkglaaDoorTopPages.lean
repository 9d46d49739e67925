/-
  TopAllItemsOnPages: the walk, in the frame's form.
-/
import Derived.Test.YtpkmapngdkkglaaDoorPgTop
import Derived.Test.YtpkmapngdkkglaaDoorOpen5
namespace Go.Proofs.YtpkmapngdkkglaaDoor.toppages
open Go.RowKit
theorem walk (g : GT) (a : GA) (r : QT) (w : World) (hg : GR w a g) (_hq : r.ok) (hT : FigT w) : Calls Tryd.prog 3 #[g.val a, r.val] w (Ret (.bool true) w) := top_any g a r w hg hT
end Go.Proofs.YtpkmapngdkkglaaDoor.toppages
