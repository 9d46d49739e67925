/-
  Walks: functions that only the fount's own laws reach (CheckCase, most).
-/
import Derived.Test.YtaopcpfgmjpliaaDoorOpen
namespace Go.Proofs.YtaopcpfgmjpliaaDoor
open Go.RowKit
end Go.Proofs.YtaopcpfgmjpliaaDoor
