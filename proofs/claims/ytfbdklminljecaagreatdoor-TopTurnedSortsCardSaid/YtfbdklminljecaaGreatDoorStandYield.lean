/-
  Plain law: what the iterator of sets still has to yield, for its walk.
-/
import Derived.Test.YtfbdklminljecaaGreatDoorStandAll
namespace Go.Proofs.YtfbdklminljecaaGreatDoor
open Go.RowKit

/-- All sets that begin with set and have r more numbers, from n on. -/
def yieldsOf (N r n : Nat) (set : List Int) : List (List Int) := (comb N r (N - n)).map (set ++ ·)
theorem yields_zero (N n : Nat) (set : List Int) : yieldsOf N 0 n set = [set] := by
  unfold yieldsOf; rw [comb]; simp
theorem yields_none {N r n : Nat} (set : List Int) (h : N ≤ n) : yieldsOf N (r + 1) n set = [] := by
  unfold yieldsOf; rw [Nat.sub_eq_zero_of_le h, comb]; rfl
theorem yields_step {N r n : Nat} (set : List Int) (h : n < N) : yieldsOf N (r + 1) n set = yieldsOf N r (n + 1) (set ++ [(n : Int)]) ++ yieldsOf N (r + 1) (n + 1) set := by
  unfold yieldsOf
  obtain ⟨m, hm⟩ : ∃ m, N - n = m + 1 := ⟨N - n - 1, by omega⟩
  have hm2 : N - (n + 1) = m := by omega
  rw [hm, hm2, comb, List.map_append, List.map_map]
  congr 1
  refine List.map_congr_left fun l _ => ?_
  have hn : ((N : Int) - (m + 1)) = (n : Int) := by omega
  simp [hn]
theorem yields_all (N r : Nat) : yieldsOf N r 0 [] = comb N r N := by
  unfold yieldsOf; simp
/-- Where the first that is taken lies. -/
theorem find_app {P : List Int → Bool} (a b : List (List Int)) : (a ++ b).find? P = match a.find? P with | some l => some l | none => b.find? P := by
  rw [List.find?_append]
  cases a.find? P <;> rfl
end Go.Proofs.YtfbdklminljecaaGreatDoor
