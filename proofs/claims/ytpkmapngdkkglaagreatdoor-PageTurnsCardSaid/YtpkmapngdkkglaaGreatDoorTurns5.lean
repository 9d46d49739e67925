/-
  PageTurns: the walk, in the frame's form.
-/
import Derived.Test.YtpkmapngdkkglaaGreatDoorTurns
import Derived.Test.YtpkmapngdkkglaaGreatDoorOpen5
import Derived.Test.YtpkmapngdkkglaaGreatDoorOpenLn
namespace Go.Proofs.YtpkmapngdkkglaaGreatDoor.pageturns
open Go.RowKit
theorem walk (f : FT) (A : Option Addr) (c : Nat) (X : Option Addr) (cx : Nat) (cs : List Int) (B : Option Addr) (d : Nat) (ls : List LN) (w : World) (hf : FR w A c f) (hx : RI w X cs.length cs) (_hz : ∀ z ∈ cs, I64 z) (h : RLN w B ls.length ls) (_hd : ls.length ≤ d ∧ d ≤ maxLen) (hT : Tab5 w) : Calls Tryz.prog 4 #[f.val A c, .slice X cs.length cx, .slice B ls.length d] w (Ret (.bool true) w) := turns.walk f A c X cx cs B d ls w hf hx h hT
end Go.Proofs.YtpkmapngdkkglaaGreatDoor.pageturns
