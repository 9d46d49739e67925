/-
  Plain law: how often a need can be taken: the least quotient, and the first sort that has it.
-/
import Derived.Test.YtaopcpfgmjpliaaDoorTimes
namespace Go.Proofs.YtaopcpfgmjpliaaDoor
open Go.RowKit

/-- What timesTo finds among the first n sorts. -/
def TimesAt (cs ns : List Int) (n : Nat) (t : Int) (s : Nat) : Prop :=
  s < n ∧ 0 < ns.getD s 0 ∧ t = cs.getD s 0 / ns.getD s 0 ∧ 0 ≤ t ∧ ∀ j, j < n → 0 < ns.getD j 0 → t ≤ cs.getD j 0 / ns.getD j 0 ∧ (j < s → t < cs.getD j 0 / ns.getD j 0)
theorem timesTo_spec (cs ns : List Int) : ∀ n, (∀ j, j < n → 0 ≤ cs.getD j 0) →
    (timesTo cs ns n = (-1, 0) ∧ ∀ j, j < n → ns.getD j 0 ≤ 0) ∨ TimesAt cs ns n (timesTo cs ns n).1 (timesTo cs ns n).2
  | 0, _ => .inl ⟨rfl, fun j hj => by omega⟩
  | n + 1, hc => by
    have ih := timesTo_spec cs ns n (fun j hj => hc j (by omega))
    have hn := hc n (by omega)
    rw [timesTo]
    generalize timesTo cs ns n = p at *
    obtain ⟨t, s⟩ := p
    simp only at ih ⊢
    by_cases hp : 0 < ns.getD n 0
    · have hq : 0 ≤ cs.getD n 0 / ns.getD n 0 := Int.ediv_nonneg hn (by omega)
      rcases ih with ⟨h1, h2⟩ | ⟨h1, h2, h3, h4, h5⟩
      · obtain ⟨rfl, rfl⟩ := Prod.mk.inj h1
        rw [if_pos ⟨hp, .inl (by decide)⟩]
        refine .inr ⟨by omega, hp, rfl, hq, fun j hj hj0 => ?_⟩
        rcases Nat.lt_or_ge j n with h | h
        · have := h2 j h; omega
        · obtain rfl : j = n := by omega
          exact ⟨Int.le_refl _, fun h => absurd h (by omega)⟩
      · by_cases hlt : cs.getD n 0 / ns.getD n 0 < t
        · rw [if_pos ⟨hp, .inr hlt⟩]
          refine .inr ⟨by omega, hp, rfl, hq, fun j hj hj0 => ?_⟩
          simp only
          rcases Nat.lt_or_ge j n with h | h
          · have := (h5 j h hj0).1; omega
          · obtain rfl : j = n := by omega
            exact ⟨Int.le_refl _, fun h => absurd h (by omega)⟩
        · rw [if_neg (by rintro ⟨_, h | h⟩ <;> omega)]
          refine .inr ⟨by omega, h2, h3, h4, fun j hj hj0 => ?_⟩
          rcases Nat.lt_or_ge j n with h | h
          · exact h5 j h hj0
          · obtain rfl : j = n := by omega
            exact ⟨by omega, fun h => absurd h (by omega)⟩
    · rw [if_neg (fun h => hp h.1)]
      rcases ih with ⟨h1, h2⟩ | ⟨h1, h2, h3, h4, h5⟩
      · refine .inl ⟨h1, fun j hj => ?_⟩
        rcases Nat.lt_or_ge j n with h | h
        · exact h2 j h
        · obtain rfl : j = n := by omega
          omega
      · refine .inr ⟨by omega, h2, h3, h4, fun j hj hj0 => ?_⟩
        rcases Nat.lt_or_ge j n with h | h
        · exact h5 j h hj0
        · obtain rfl : j = n := by omega
          omega
theorem mul_div_le {n x y : Int} (hn : 0 ≤ n) (hy : 0 < y) : n * (x / y) ≤ n * x / y := by
  refine Int.le_ediv_of_mul_le hy ?_
  rw [Int.mul_assoc]
  exact Int.mul_le_mul_of_nonneg_left (Int.ediv_mul_le x (by omega)) hn
/-- n times a case suffices n times as often, at least. -/
theorem times_mul {bl cl ns : List Int} {n : Int} {m : Nat} (hn : 0 ≤ n) (hb : ∀ j, j < m → 0 ≤ bl.getD j 0) (hc : ∀ j, j < m → cl.getD j 0 = n * bl.getD j 0) (hex : ∃ j, j < m ∧ 0 < ns.getD j 0) :
    TimesAt bl ns m (timesTo bl ns m).1 (timesTo bl ns m).2 ∧ TimesAt cl ns m (timesTo cl ns m).1 (timesTo cl ns m).2 ∧ n * (timesTo bl ns m).1 ≤ (timesTo cl ns m).1 := by
  obtain ⟨j, hj, hj0⟩ := hex
  have hc0 : ∀ j, j < m → 0 ≤ cl.getD j 0 := fun j hj => by rw [hc j hj]; exact Int.mul_nonneg hn (hb j hj)
  rcases timesTo_spec bl ns m hb with ⟨_, h⟩ | h1
  · have := h j hj; omega
  rcases timesTo_spec cl ns m hc0 with ⟨_, h⟩ | h2
  · have := h j hj; omega
  refine ⟨h1, h2, ?_⟩
  obtain ⟨a1, a2, a3, a4, a5⟩ := h2
  obtain ⟨b1, b2, b3, b4, b5⟩ := h1
  have k1 := (b5 _ a1 a2).1
  rw [a3, hc _ a1]
  exact Int.le_trans (Int.mul_le_mul_of_nonneg_left k1 hn) (mul_div_le hn a2)
end Go.Proofs.YtaopcpfgmjpliaaDoor
