/-
  Small helpers of the laws about standing pages.
-/
import Derived.Test.YtfkjhgcablakgaaGreatDoorPSt
import Derived.Test.YtfkjhgcablakgaaGreatDoorStOwn
import Derived.Test.YtfkjhgcablakgaaGreatDoorAwake5
import Derived.Test.YtfkjhgcablakgaaGreatDoorCopy
import Derived.Test.YtfkjhgcablakgaaGreatDoorGE
namespace Go.Proofs.YtfkjhgcablakgaaGreatDoor
open Go.RowKit
theorem sFew_yes (s : ST) (w : World) (hs : SR w s) (h : FewS s) : Calls Tryz.prog 18 #[s.val] w (Ret (.bool true) w) := (sFew_any s w hs).mono fun _ _ ⟨h1, hx⟩ => ⟨by
  rcases h1 with ⟨_, h2⟩ | ⟨h2, _⟩
  · exact h2
  · exact absurd h h2, hx⟩
theorem sFew_no (s : ST) (w : World) (hs : SR w s) (h : ¬ FewS s) : Calls Tryz.prog 18 #[s.val] w (Ret (.bool false) w) := (sFew_any s w hs).mono fun _ _ ⟨h1, hx⟩ => ⟨by
  rcases h1 with ⟨h2, _⟩ | ⟨_, h2⟩
  · exact absurd h2 h
  · exact h2, hx⟩
theorem st_len {s t : ST} (h : t.zs = s.zs) : t.ns.length = s.ns.length := by rw [← t.zlen, ← s.zlen, h]
theorem psN_same {f : FT} {s t : ST} {set : List Int} (h1 : t.cs = s.cs) (h2 : t.zs = s.zs) : psN f t set = psN f s set := by unfold psN; rw [h1, h2, st_len h2]
theorem psE_same {f : FT} {s t : ST} {set : List Int} (h1 : t.cs = s.cs) (h2 : t.zs = s.zs) : psE f t set = psE f s set := by unfold psE; rw [h1, h2, st_len h2]
end Go.Proofs.YtfkjhgcablakgaaGreatDoor
