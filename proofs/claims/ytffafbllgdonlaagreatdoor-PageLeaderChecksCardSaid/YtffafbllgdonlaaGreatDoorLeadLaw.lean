/-
  Plain law: the middle of a line with leaders (PageLeaderChecks).
-/
import Derived.Test.YtffafbllgdonlaaGreatDoorGF
namespace Go.Proofs.YtffafbllgdonlaaGreatDoor
open Go.RowKit

/-- So many leaders, one behind the other. -/
def dotsTo (dots : List Int) (k : Nat) : List Int := (List.replicate k dots).flatten
theorem dotsTo_len (dots : List Int) : ∀ k, (dotsTo dots k).length = k * dots.length
  | 0 => by simp [dotsTo]
  | k + 1 => by
    have ih := dotsTo_len dots k
    unfold dotsTo at ih ⊢
    rw [List.replicate_succ, List.flatten_cons, List.length_append, ih, Nat.add_mul]; omega
theorem dotsTo_at (dots : List Int) : ∀ k i, i < k * dots.length → (dotsTo dots k).getD i 0 = dots.getD (i % dots.length) 0
  | 0, i, h => absurd h (by omega)
  | k + 1, i, h => by
    have ih := dotsTo_at dots k
    unfold dotsTo at ih ⊢
    rw [List.replicate_succ, List.flatten_cons]
    rcases Nat.lt_or_ge i dots.length with h1 | h1
    · rw [List.getD_eq_getElem?_getD, List.getElem?_append_left h1, Nat.mod_eq_of_lt h1, ← List.getD_eq_getElem?_getD]
    · rw [List.getD_eq_getElem?_getD, List.getElem?_append_right h1, ← List.getD_eq_getElem?_getD, ih (i - dots.length) (by rw [Nat.add_mul] at h; omega), ← Nat.mod_eq_sub_mod h1]
theorem eq_of_at : ∀ {l m : List Int}, l.length = m.length → (∀ i, i < l.length → l.getD i 0 = m.getD i 0) → l = m
  | [], [], _, _ => rfl
  | a :: l, b :: m, h, k => by
    have h0 : a = b := by simpa using k 0 (by simp)
    rw [h0, eq_of_at (l := l) (m := m) (by simpa using h) fun i hi => by simpa using k (i + 1) (by rw [List.length_cons]; omega)]
/-- Whether a middle has just k leaders behind its spaces, cell by cell. -/
def midB (sp : Int → Bool) (dots mid : List Int) (k : Nat) : Bool := (List.range mid.length).all fun i => if i < mid.length - k * dots.length then sp (mid.getD i 0) else decide (mid.getD i 0 = dots.getD ((i - (mid.length - k * dots.length)) % dots.length) 0)
/-- The program's two tests are the reference's. -/
theorem mid_same (sp : Int → Bool) {dots mid : List Int} {k : Nat} (hk : k * dots.length ≤ mid.length) :
    midB sp dots mid k = (decide (mid.drop (mid.length - k * dots.length) = dotsTo dots k) && (mid.take (mid.length - k * dots.length)).all sp) := by
  have hd : (mid.drop (mid.length - k * dots.length)).length = (dotsTo dots k).length := by rw [List.length_drop, dotsTo_len]; omega
  have hat : ∀ j, (mid.drop (mid.length - k * dots.length)).getD j 0 = mid.getD (mid.length - k * dots.length + j) 0 := fun j => by
    rw [List.getD_eq_getElem?_getD, List.getElem?_drop, List.getD_eq_getElem?_getD]
  rw [Bool.eq_iff_iff, Bool.and_eq_true, decide_eq_true_eq, midB, List.all_eq_true, List.all_eq_true]
  constructor
  · intro h
    refine ⟨eq_of_at hd fun i hi => ?_, fun x hx => ?_⟩
    · rw [List.length_drop] at hi
      rw [hat, dotsTo_at dots k i (by omega)]
      have h1 := h (mid.length - k * dots.length + i) (List.mem_range.2 (by omega))
      rw [if_neg (by omega)] at h1
      have h2 := of_decide_eq_true h1
      rw [h2, show mid.length - k * dots.length + i - (mid.length - k * dots.length) = i by omega]
    · obtain ⟨i, hi, rfl⟩ := List.mem_iff_getElem.1 hx
      rw [List.length_take] at hi
      have h1 := h i (List.mem_range.2 (by omega))
      rw [if_pos (by omega), List.getD_eq_getElem?_getD, List.getElem?_eq_getElem (by omega)] at h1
      rw [List.getElem_take]; exact h1
  · rintro ⟨h1, h2⟩ i hi
    have hi' := List.mem_range.1 hi
    split
    · rename_i h3
      refine h2 _ (List.mem_iff_getElem.2 ⟨i, by rw [List.length_take]; omega, ?_⟩)
      rw [List.getElem_take, List.getD_eq_getElem?_getD, List.getElem?_eq_getElem hi']; rfl
    · rename_i h3
      refine decide_eq_true ?_
      have h4 := hat (i - (mid.length - k * dots.length))
      rw [h1, dotsTo_at dots k _ (by omega), show mid.length - k * dots.length + (i - (mid.length - k * dots.length)) = i by omega] at h4
      exact h4.symm
/-- The greatest number, at most k, that a test takes. -/
def downTo (P : Nat → Bool) : Nat → Option Nat
  | 0 => if P 0 then some 0 else none
  | k + 1 => if P (k + 1) then some (k + 1) else downTo P k
theorem downTo_congr {P Q : Nat → Bool} : ∀ k, (∀ j, j ≤ k → P j = Q j) → downTo P k = downTo Q k
  | 0, h => by rw [downTo, downTo, h 0 (Nat.le_refl _)]
  | k + 1, h => by rw [downTo, downTo, h (k + 1) (Nat.le_refl _), downTo_congr k fun j hj => h j (by omega)]
theorem downTo_same (sp : Int → Bool) {dots mid : List Int} : downTo (midB sp dots mid) (mid.length / dots.length) = downTo (fun k => decide (mid.drop (mid.length - k * dots.length) = dotsTo dots k) && (mid.take (mid.length - k * dots.length)).all sp) (mid.length / dots.length) :=
  downTo_congr _ fun _ hj => mid_same sp (Nat.le_trans (Nat.mul_le_mul_right _ hj) (Nat.div_mul_le_self _ _))
end Go.Proofs.YtffafbllgdonlaaGreatDoor
