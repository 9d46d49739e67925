/-
  Plain law: a stand without an error.
-/
import Derived.Test.YtfbdklminljecaaGreatDoorGB
import Derived.Test.YtfbdklminljecaaGreatDoorStandYield
namespace Go.Proofs.YtfbdklminljecaaGreatDoor
open Go.RowKit

/-- The error of a stand of a fount. -/
def standE (f : FT) (cs : List Int) (ns : List (List Int)) : Int := if caseErr f cs ≠ 0 then caseErr f cs else if 12 < ns.length then 8 else firstE (fun i => caseErr f (ns.getD i [])) ns.length
/-- The counts of a right case. -/
theorem caseErr_counts {f : FT} {zs : List Int} (h : caseErr f zs = 0) : zs.length = f.sorts.length ∧ ∀ k, k < zs.length → 0 ≤ zs.getD k 0 ∧ zs.getD k 0 ≤ 1000000 := by
  unfold caseErr at h
  split at h
  · rename_i h1; exact absurd h h1
  · unfold countsErr at h
    split at h
    · cases h
    · rename_i h2
      split at h
      · cases h
      · rename_i h3
        refine ⟨by omega, fun k hk => badCount_false.1 ?_⟩
        cases hb : badCount (zs.getD k 0) with
        | false => rfl
        | true => exact absurd ((idxOf_isSome badCount zs zs.length).2 ⟨k, hk, hb⟩) h3
theorem standE_zero {f : FT} {cs : List Int} {ns : List (List Int)} (h : standE f cs ns = 0) : caseErr f cs = 0 ∧ ns.length ≤ 12 ∧ ∀ i, i < ns.length → caseErr f (ns.getD i []) = 0 := by
  unfold standE at h
  split at h
  · rename_i h1; exact absurd h h1
  · rename_i h1
    split at h
    · cases h
    · exact ⟨by simpa using h1, by omega, firstE_zero h⟩
/-- What a right stand needs is not negative, nor too much. -/
theorem stand_need {f : FT} {cs : List Int} {ns : List (List Int)} (h : standE f cs ns = 0) (n : Int) (k : Nat) : 0 ≤ needAt ns n k ∧ needAt ns n k ≤ 1000000 := by
  obtain ⟨_, _, h3⟩ := standE_zero h
  unfold needAt
  rcases Nat.lt_or_ge n.toNat ns.length with h1 | h1
  · have h4 := (caseErr_counts (h3 _ h1)).2 k
    rcases Nat.lt_or_ge k (ns.getD n.toNat []).length with h2 | h2
    · exact h4 h2
    · rw [List.getD_eq_getElem?_getD, List.getElem?_eq_none h2]; simp
  · rw [List.getD_eq_getElem?_getD (l := ns), List.getElem?_eq_none h1]; simp
theorem stand_case {f : FT} {cs : List Int} {ns : List (List Int)} (h : standE f cs ns = 0) : ∀ k, k < cs.length → 0 ≤ cs.getD k 0 := fun k hk => ((caseErr_counts (standE_zero h).1).2 k hk).1
end Go.Proofs.YtfbdklminljecaaGreatDoor
