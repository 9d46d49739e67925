/-
  PageColumns: the walk, in the frame's form.
-/
import Derived.Test.YtpkmapngdkkglaaGreatDoorCols
import Derived.Test.YtpkmapngdkkglaaGreatDoorOpen5
import Derived.Test.YtpkmapngdkkglaaGreatDoorOpenCol
namespace Go.Proofs.YtpkmapngdkkglaaGreatDoor.pagecolumns
open Go.RowKit
theorem walk (f : FT) (A : Option Addr) (c : Nat) (B : Option Addr) (d : Nat) (xs : List S3) (w : World) (hf : FR w A c f) (h : R3 w B xs.length xs) (hT : Tab5 w) : Calls Tryz.prog 5 #[f.val A c, .slice B xs.length d] w (Ret (.bool true) w) := columns.walk f A c B d xs w hf h hT
end Go.Proofs.YtpkmapngdkkglaaGreatDoor.pagecolumns
