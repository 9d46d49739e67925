/-
  Plain law: the least set that excludes itself, by the program's search and by the reference's.
-/
import Derived.Test.YtfbdklminljecaaGreatDoorStandRef
namespace Go.Proofs.YtfbdklminljecaaGreatDoor
open Go.RowKit

/-- The reference's least of the sets with the numbers 1 to k; []: none. -/
def leastR (N : Nat) (Q : List Int → Bool) : Nat → List Int
  | 0 => []
  | k + 1 => if Q (memTo (k + 1) N) && (decide ((leastR N Q k).length = 0) || decide ((memTo (k + 1) N).length < (leastR N Q k).length) || decide ((memTo (k + 1) N).length = (leastR N Q k).length) && before (memTo (k + 1) N) (leastR N Q k)) then memTo (k + 1) N else leastR N Q k
def LeastUpto (N : Nat) (Q : List Int → Bool) (K : Nat) (b : List Int) : Prop :=
  (b = [] ∧ ∀ k, 1 ≤ k → k ≤ K → Q (memTo k N) = false) ∨
  (b ≠ [] ∧ Rise 0 N b ∧ Q b = true ∧ ∀ k, 1 ≤ k → k ≤ K → Q (memTo k N) = true → b.length < (memTo k N).length ∨ (memTo k N).length = b.length ∧ before (memTo k N) b = false)
theorem before_self (x : List Int) : before x x = false := by
  cases hb : before x x with
  | false => rfl
  | true => rw [before_asymm hb] at hb; cases hb
theorem leastR_upto {N : Nat} {Q : List Int → Bool} (h0 : Q [] = false) : ∀ K, LeastUpto N Q K (leastR N Q K)
  | 0 => .inl ⟨rfl, fun k h1 h2 => absurd h1 (by omega)⟩
  | K + 1 => by
    have ih := leastR_upto (N := N) h0 K
    rw [leastR]
    generalize leastR N Q K = b at *
    have hr := memTo_rise (K + 1) N
    split
    · rename_i hc
      rw [Bool.and_eq_true, Bool.or_eq_true, Bool.or_eq_true, Bool.and_eq_true, decide_eq_true_eq, decide_eq_true_eq, decide_eq_true_eq] at hc
      have hne : memTo (K + 1) N ≠ [] := fun e => by have := hc.1; rw [e, h0] at this; cases this
      refine .inr ⟨hne, hr, hc.1, fun k hk1 hk hp => ?_⟩
      rcases Nat.lt_or_ge K k with h4 | h4
      · obtain rfl : k = K + 1 := by omega
        exact .inr ⟨rfl, before_self _⟩
      · rcases ih with ⟨_, hn⟩ | ⟨hb, _, _, h3⟩
        · rw [hn k hk1 h4] at hp; cases hp
        · have h5 := h3 k hk1 h4 hp
          rcases hc.2 with (h6 | h6) | ⟨h6, h7⟩
          · exact absurd (List.eq_nil_of_length_eq_zero h6) hb
          · exact .inl (by omega)
          · rcases h5 with h5 | ⟨h5, h8⟩
            · exact .inl (by omega)
            · refine .inr ⟨by omega, ?_⟩
              cases hx : before (memTo k N) (memTo (K + 1) N) with
              | false => rfl
              | true => rw [before_trans hx h7] at h8; cases h8
    · rename_i hc
      rw [Bool.and_eq_true, Bool.or_eq_true, Bool.or_eq_true, Bool.and_eq_true, decide_eq_true_eq, decide_eq_true_eq, decide_eq_true_eq] at hc
      rcases ih with ⟨hb, hn⟩ | ⟨hb, h1, h2, h3⟩
      · refine .inl ⟨hb, fun k hk1 hk => ?_⟩
        rcases Nat.lt_or_ge K k with h4 | h4
        · obtain rfl : k = K + 1 := by omega
          cases hq : Q (memTo (K + 1) N) with
          | false => rfl
          | true => exact absurd ⟨hq, .inl (.inl (by rw [hb]; rfl))⟩ hc
        · exact hn k hk1 h4
      · refine .inr ⟨hb, h1, h2, fun k hk1 hk hp => ?_⟩
        rcases Nat.lt_or_ge K k with h4 | h4
        · obtain rfl : k = K + 1 := by omega
          rcases Nat.lt_trichotomy (memTo (K + 1) N).length b.length with h5 | h5 | h5
          · exact absurd ⟨hp, .inl (.inr h5)⟩ hc
          · refine .inr ⟨h5, ?_⟩
            cases hx : before (memTo (K + 1) N) b with
            | false => rfl
            | true => exact absurd ⟨hp, .inr ⟨h5, hx⟩⟩ hc
          · exact .inl h5
        · exact h3 k hk1 h4 hp
theorem memTo_zero : ∀ n : Nat, memTo 0 n = []
  | 0 => rfl
  | n + 1 => by rw [memTo, memTo_zero n, Nat.zero_div, if_neg (by omega)]; rfl
/-- What the reference answers is the best, or there is none. -/
theorem leastR_is {N : Nat} {Q : List Int → Bool} (h0 : Q [] = false) : (leastR N Q (2 ^ N - 1) = [] ∧ ∀ x, Rise 0 N x → Q x = false) ∨ (leastR N Q (2 ^ N - 1) ≠ [] ∧ BestX N Q (leastR N Q (2 ^ N - 1))) := by
  have hnum : ∀ x, Rise 0 N x → Q x = true → ∃ k, 1 ≤ k ∧ k ≤ 2 ^ N - 1 ∧ memTo k N = x := fun x hx hp => by
    obtain ⟨k, hk, rfl⟩ := memTo_all N x hx
    refine ⟨k, ?_, by omega, rfl⟩
    rcases Nat.eq_zero_or_pos k with h1 | h1
    · subst h1; rw [memTo_zero, h0] at hp; cases hp
    · exact h1
  rcases leastR_upto (N := N) h0 (2 ^ N - 1) with ⟨h1, h2⟩ | ⟨h1, h2, h3, h4⟩
  · refine .inl ⟨h1, fun x hx => ?_⟩
    cases hq : Q x with
    | false => rfl
    | true =>
      obtain ⟨k, hk1, hk2, rfl⟩ := hnum x hx hq
      rw [h2 k hk1 hk2] at hq; cases hq
  · refine .inr ⟨h1, h2, h3, fun x hx hp => ?_⟩
    obtain ⟨k, hk1, hk2, rfl⟩ := hnum x hx hp
    exact h4 k hk1 hk2 hp
/-- A search among what lacks finds what excludes itself. -/
theorem least_same {N : Nat} {P Q : List Int → Bool} (h0 : P [] = false) (hQP : ∀ x, Rise 0 N x → Q x = true → P x = true) (hPQ : ∀ x, Rise 0 N x → P x = true → (∀ y, Rise 0 N y → P y = true → x.length ≤ y.length) → Q x = true) (hQ0 : Q [] = false) :
    (least N P (N + 1) 0 = none ∧ leastR N Q (2 ^ N - 1) = [] ∧ ∀ x, Rise 0 N x → P x = false) ∨ (∃ l, least N P (N + 1) 0 = some l ∧ leastR N Q (2 ^ N - 1) = l ∧ l ≠ [] ∧ Rise 0 N l ∧ P l = true) := by
  cases hl : least N P (N + 1) 0 with
  | none =>
    have hn : ∀ x, Rise 0 N x → P x = false := fun x hx => least_none (N + 1) 0 hl x hx (Nat.zero_le _) (by have := rise_len hx (by omega); omega)
    refine .inl ⟨rfl, ?_, hn⟩
    rcases leastR_is (N := N) hQ0 with ⟨h1, _⟩ | ⟨_, h2, h3, _⟩
    · exact h1
    · have := hQP _ h2 h3
      rw [hn _ h2] at this; cases this
  | some l =>
    have hb := least_some (N + 1) 0 (fun x _ _ => Nat.zero_le _) l hl
    have hq : Q l = true := hPQ l hb.1 hb.2.1 fun y hy hp => by rcases hb.2.2 y hy hp with h1 | ⟨h1, _⟩ <;> omega
    have hne : l ≠ [] := fun e => by have := hb.2.1; rw [e, h0] at this; cases this
    refine .inr ⟨l, rfl, ?_, hne, hb.1, hb.2.1⟩
    rcases leastR_is (N := N) hQ0 with ⟨_, h2⟩ | ⟨_, h2⟩
    · rw [h2 l hb.1] at hq; cases hq
    · exact bestX_one h2 ⟨hb.1, hq, fun x hx hp => hb.2.2 x hx (hQP x hx hp)⟩
end Go.Proofs.YtfbdklminljecaaGreatDoor
