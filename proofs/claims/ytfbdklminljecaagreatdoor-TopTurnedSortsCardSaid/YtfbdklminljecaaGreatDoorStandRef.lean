/-
  Plain law: the reference's search over all numbers finds the same sets.
-/
import Derived.Test.YtfbdklminljecaaGreatDoorStandBest
namespace Go.Proofs.YtfbdklminljecaaGreatDoor
open Go.RowKit

theorem before_trans : ∀ {a b c : List Int}, before a b = true → before b c = true → before a c = true
  | [], [], _, h, _ => by cases h
  | [], _ :: _, [], _, h => by cases h
  | [], _ :: _, _ :: _, _, _ => rfl
  | _ :: _, [], _, h, _ => by cases h
  | _ :: _, _ :: _, [], _, h => by cases h
  | x :: a, y :: b, z :: c, h1, h2 => by
    rw [before] at h1 h2 ⊢
    by_cases hxy : x = y
    · rw [if_pos hxy] at h1
      by_cases hyz : y = z
      · rw [if_pos hyz] at h2
        rw [if_pos (hxy.trans hyz)]; exact before_trans h1 h2
      · rw [if_neg hyz] at h2
        rw [if_neg (by rw [hxy]; exact hyz), hxy]; exact h2
    · rw [if_neg hxy] at h1
      have h3 := of_decide_eq_true h1
      by_cases hyz : y = z
      · rw [if_neg (by rw [← hyz]; exact hxy), ← hyz]; exact h1
      · rw [if_neg hyz] at h2
        have h4 := of_decide_eq_true h2
        rw [if_neg (by omega)]
        exact decide_eq_true (by omega)
/-- The program's search of the least. -/
def least (N : Nat) (P : List Int → Bool) : Nat → Nat → Option (List Int)
  | 0, _ => none
  | r + 1, c => match (comb N c N).find? P with | some l => some l | none => least N P r (c + 1)
theorem least_some {N : Nat} {P : List Int → Bool} : ∀ r c, (∀ x, Rise 0 N x → P x = true → c ≤ x.length) → ∀ l, least N P r c = some l → BestX N P l
  | 0, _, _, _, h => by cases h
  | r + 1, c, h, l, hl => by
    rw [least] at hl
    cases hf : (comb N c N).find? P with
    | none =>
      rw [hf] at hl
      refine least_some r (c + 1) (fun x hx hp => ?_) l hl
      have h1 := h x hx hp
      rcases Nat.lt_or_ge c x.length with h2 | h2
      · exact h2
      · have h3 := List.find?_eq_none.1 hf x ((comb_mem N c N x).2 ⟨by omega, by rw [Int.sub_self]; exact hx⟩)
        exact absurd hp h3
    | some m =>
      rw [hf] at hl
      obtain rfl : m = l := by simpa using hl
      obtain ⟨h1, h2, h3⟩ := find_first (comb_rising N c N) hf
      obtain ⟨h4, h5⟩ := (comb_mem N c N m).1 h1
      rw [Int.sub_self] at h5
      refine ⟨h5, h2, fun x hx hp => ?_⟩
      have h6 := h x hx hp
      rcases Nat.lt_or_ge c x.length with h7 | h7
      · exact .inl (by omega)
      · refine .inr ⟨by omega, ?_⟩
        rcases h3 x ((comb_mem N c N x).2 ⟨by omega, by rw [Int.sub_self]; exact hx⟩) hp with h8 | h8
        · subst h8
          cases hb : before x x with
          | false => rfl
          | true => rw [before_asymm hb] at hb; cases hb
        · exact before_asymm h8
theorem least_none {N : Nat} {P : List Int → Bool} : ∀ r c, least N P r c = none → ∀ x, Rise 0 N x → c ≤ x.length → x.length < c + r → P x = false
  | 0, c, _, x, _, h1, h2 => by omega
  | r + 1, c, hl, x, hx, h1, h2 => by
    rw [least] at hl
    cases hf : (comb N c N).find? P with
    | some m => rw [hf] at hl; cases hl
    | none =>
      rw [hf] at hl
      rcases Nat.lt_or_ge c x.length with h3 | h3
      · exact least_none r (c + 1) hl x hx h3 (by omega)
      · have h4 := List.find?_eq_none.1 hf x ((comb_mem N c N x).2 ⟨by omega, by rw [Int.sub_self]; exact hx⟩)
        simpa using h4
/-- The set with a number: its first i numbers asked. -/
def memTo (k : Nat) : Nat → List Int
  | 0 => []
  | i + 1 => memTo k i ++ (if k / 2 ^ i % 2 = 1 then [(i : Int)] else [])
theorem memTo_rise (k : Nat) : ∀ n : Nat, Rise 0 n (memTo k n)
  | 0 => ⟨List.Pairwise.nil, fun x hx => by cases hx⟩
  | n + 1 => by
    obtain ⟨h1, h2⟩ := memTo_rise k n
    rw [memTo]
    split
    · refine ⟨List.pairwise_append.2 ⟨h1, List.pairwise_singleton _ _, fun a ha b hb => ?_⟩, fun x hx => ?_⟩
      · rw [List.mem_singleton.1 hb]; exact (h2 a ha).2
      · rcases List.mem_append.1 hx with h3 | h3
        · have := h2 x h3; omega
        · rw [List.mem_singleton.1 h3]; omega
    · rw [List.append_nil]
      exact ⟨h1, fun x hx => by have := h2 x hx; omega⟩
theorem memTo_high (k n : Nat) : ∀ i, i ≤ n → memTo (k + 2 ^ n) i = memTo k i
  | 0, _ => rfl
  | i + 1, h => by
    have hb : (k + 2 ^ n) / 2 ^ i % 2 = k / 2 ^ i % 2 := by
      obtain ⟨d, rfl⟩ : ∃ d, n = i + (d + 1) := ⟨n - i - 1, by omega⟩
      rw [Nat.pow_add, Nat.add_mul_div_left _ _ (Nat.two_pow_pos i), Nat.pow_succ]
      omega
    rw [memTo, memTo, memTo_high k n i (by omega), hb]
/-- Each set has a number. -/
theorem memTo_all : ∀ (n : Nat) (x : List Int), Rise 0 n x → ∃ k, k < 2 ^ n ∧ memTo k n = x
  | 0, x, h => by
    refine ⟨0, by simp, ?_⟩
    cases x with
    | nil => rfl
    | cons a x => have := h.2 a (List.mem_cons_self ..); omega
  | n + 1, x, ⟨h1, h2⟩ => by
    by_cases hx : ∃ y, x = y ++ [(n : Int)]
    · obtain ⟨y, rfl⟩ := hx
      rw [List.pairwise_append] at h1
      obtain ⟨k, hk, rfl⟩ := memTo_all n y ⟨h1.1, fun z hz => ⟨(h2 z (List.mem_append_left _ hz)).1, h1.2.2 z hz _ (List.mem_singleton.2 rfl)⟩⟩
      refine ⟨k + 2 ^ n, by rw [Nat.pow_succ]; omega, ?_⟩
      rw [memTo, memTo_high k n n (Nat.le_refl _), if_pos]
      rw [Nat.add_div_right _ (Nat.two_pow_pos n), Nat.div_eq_of_lt hk]
    · have hlow : ∀ z ∈ x, z < (n : Int) := fun z hz => by
        have h3 := h2 z hz
        rcases List.eq_nil_or_concat x with h4 | ⟨y, b, h4⟩
        · subst h4; cases hz
        · rw [List.concat_eq_append] at h4
          subst h4
          rw [List.pairwise_append] at h1
          have hb := h2 b (List.mem_append_right _ (List.mem_singleton.2 rfl))
          have hbn : b ≠ (n : Int) := fun e => hx ⟨y, by rw [e]⟩
          rcases List.mem_append.1 hz with h5 | h5
          · have := h1.2.2 z h5 b (List.mem_singleton.2 rfl); omega
          · rw [List.mem_singleton.1 h5]; omega
      obtain ⟨k, hk, hm⟩ := memTo_all n x ⟨h1, fun z hz => ⟨(h2 z hz).1, hlow z hz⟩⟩
      refine ⟨k, by rw [Nat.pow_succ]; omega, ?_⟩
      rw [memTo, hm, Nat.div_eq_of_lt hk, if_neg (by omega), List.append_nil]
/-- The reference's greatest of the sets ahead of a number. -/
def mostR (N : Nat) (P : List Int → Bool) : Nat → List Int
  | 0 => []
  | k + 1 => if P (memTo k N) && (decide ((mostR N P k).length < (memTo k N).length) || decide ((memTo k N).length = (mostR N P k).length) && before (memTo k N) (mostR N P k)) then memTo k N else mostR N P k
theorem mostR_best {N : Nat} {P : List Int → Bool} (h0 : P [] = true) : ∀ K, Rise 0 N (mostR N P K) ∧ P (mostR N P K) = true ∧ ∀ k, k < K → P (memTo k N) = true → (memTo k N).length < (mostR N P K).length ∨ (memTo k N).length = (mostR N P K).length ∧ before (memTo k N) (mostR N P K) = false
  | 0 => ⟨⟨List.Pairwise.nil, fun x hx => by cases hx⟩, h0, fun k hk => absurd hk (by omega)⟩
  | K + 1 => by
    obtain ⟨h1, h2, h3⟩ := mostR_best h0 K
    rw [mostR]
    generalize mostR N P K = b at *
    have hr := memTo_rise K N
    split
    · rename_i hc
      rw [Bool.and_eq_true, Bool.or_eq_true, Bool.and_eq_true, decide_eq_true_eq, decide_eq_true_eq] at hc
      refine ⟨hr, hc.1, fun k hk hp => ?_⟩
      rcases Nat.lt_or_ge k K with h4 | h4
      · have h5 := h3 k h4 hp
        rcases hc.2 with h6 | ⟨h6, h7⟩
        · exact .inl (by omega)
        · rcases h5 with h5 | ⟨h5, h8⟩
          · exact .inl (by omega)
          · refine .inr ⟨by omega, ?_⟩
            cases hb : before (memTo k N) (memTo K N) with
            | false => rfl
            | true => rw [before_trans hb h7] at h8; cases h8
      · obtain rfl : k = K := by omega
        refine .inr ⟨rfl, ?_⟩
        cases hb : before (memTo k N) (memTo k N) with
        | false => rfl
        | true => rw [before_asymm hb] at hb; cases hb
    · rename_i hc
      refine ⟨h1, h2, fun k hk hp => ?_⟩
      rcases Nat.lt_or_ge k K with h4 | h4
      · exact h3 k h4 hp
      · obtain rfl : k = K := by omega
        rw [Bool.and_eq_true, Bool.or_eq_true, Bool.and_eq_true, decide_eq_true_eq, decide_eq_true_eq] at hc
        rcases Nat.lt_trichotomy (memTo k N).length b.length with h5 | h5 | h5
        · exact .inl h5
        · refine .inr ⟨h5, ?_⟩
          cases hb : before (memTo k N) b with
          | false => rfl
          | true => exact absurd ⟨hp, .inr ⟨h5, hb⟩⟩ hc
        · exact absurd ⟨hp, .inl h5⟩ hc
theorem mostR_is {N : Nat} {P : List Int → Bool} (h0 : P [] = true) : BestM N P (mostR N P (2 ^ N)) := by
  obtain ⟨h1, h2, h3⟩ := mostR_best (N := N) h0 (2 ^ N)
  refine ⟨h1, h2, fun x hx hp => ?_⟩
  obtain ⟨k, hk, rfl⟩ := memTo_all N x hx
  exact h3 k hk hp
/-- Both find the same greatest set. -/
theorem most_same {N : Nat} {P : List Int → Bool} (h0 : P [] = true) : most N P N = mostR N P (2 ^ N) :=
  bestM_one (most_best h0 N fun x hx _ => by have := rise_len hx (by omega); omega) (mostR_is h0)
end Go.Proofs.YtfbdklminljecaaGreatDoor
