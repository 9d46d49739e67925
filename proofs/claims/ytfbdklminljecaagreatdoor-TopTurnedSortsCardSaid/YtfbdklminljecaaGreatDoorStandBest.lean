/-
  Plain law: the best of all sets of pages (PageStanding).
-/
import Derived.Test.YtfbdklminljecaaGreatDoorStandLaw
namespace Go.Proofs.YtfbdklminljecaaGreatDoor
open Go.RowKit

/-- One list comes before another. -/
def before : List Int → List Int → Bool
  | [], [] => false
  | [], _ :: _ => true
  | _ :: _, [] => false
  | a :: l, b :: m => if a = b then before l m else decide (a < b)
theorem before_total : ∀ {l m : List Int}, l.length = m.length → before l m = false → before m l = false → l = m
  | [], [], _, _, _ => rfl
  | a :: l, b :: m, h, h1, h2 => by
    rw [before] at h1 h2
    by_cases hab : a = b
    · rw [if_pos hab] at h1
      rw [if_pos hab.symm] at h2
      rw [hab, before_total (by simpa using h) h1 h2]
    · rw [if_neg hab] at h1
      rw [if_neg (fun e => hab e.symm)] at h2
      have h3 := of_decide_eq_false h1
      have h4 := of_decide_eq_false h2
      exact absurd (show a = b by omega) hab
theorem before_asymm : ∀ {l m : List Int}, before l m = true → before m l = false
  | [], [], _ => rfl
  | [], _ :: _, _ => rfl
  | _ :: _, [], h => by cases h
  | a :: l, b :: m, h => by
    rw [before] at h ⊢
    by_cases hab : a = b
    · rw [if_pos hab] at h
      rw [if_pos hab.symm]; exact before_asymm h
    · rw [if_neg hab] at h
      rw [if_neg (fun e => hab e.symm)]
      have h3 := of_decide_eq_true h
      exact decide_eq_false (by omega)
/-- Rising numbers from lo, below hi. -/
def Rise (lo hi : Int) (l : List Int) : Prop := l.Pairwise (· < ·) ∧ ∀ x ∈ l, lo ≤ x ∧ x < hi
/-- All sets of r of the last m of N numbers, in their order. -/
def comb (N : Nat) : Nat → Nat → List (List Int)
  | 0, _ => [[]]
  | _ + 1, 0 => []
  | r + 1, m + 1 => (comb N r m).map (fun l => ((N : Int) - (m + 1)) :: l) ++ comb N (r + 1) m
theorem comb_mem (N : Nat) : ∀ (r m : Nat) (x : List Int), x ∈ comb N r m ↔ x.length = r ∧ Rise ((N : Int) - m) N x
  | 0, m, x => by
    rw [comb, List.mem_singleton]
    refine ⟨fun h => by subst h; exact ⟨rfl, List.Pairwise.nil, fun x hx => by cases hx⟩, fun h => List.eq_nil_of_length_eq_zero h.1⟩
  | r + 1, 0, x => by
    rw [comb]
    refine ⟨fun h => (by cases h), fun h => ?_⟩
    obtain ⟨h1, _, h2⟩ := h
    cases x with
    | nil => cases h1
    | cons a x => have := h2 a (List.mem_cons_self ..); omega
  | r + 1, m + 1, x => by
    rw [comb, List.mem_append, comb_mem N (r + 1) m x, List.mem_map]
    constructor
    · rintro (⟨y, hy, rfl⟩ | ⟨h1, h2, h3⟩)
      · obtain ⟨h1, h2, h3⟩ := (comb_mem N r m y).1 hy
        refine ⟨by simp [h1], List.pairwise_cons.2 ⟨fun z hz => by have := h3 z hz; omega, h2⟩, fun z hz => ?_⟩
        rcases List.mem_cons.1 hz with h4 | h4
        · subst h4; omega
        · have := h3 z h4; omega
      · exact ⟨h1, h2, fun z hz => by have := h3 z hz; omega⟩
    · rintro ⟨h1, h2, h3⟩
      cases x with
      | nil => cases h1
      | cons a x =>
        rw [List.pairwise_cons] at h2
        have ha := h3 a (List.mem_cons_self ..)
        by_cases hm : a = (N : Int) - (m + 1)
        · refine .inl ⟨x, (comb_mem N r m x).2 ⟨by simpa using h1, h2.2, fun z hz => ?_⟩, by rw [hm]⟩
          have := h2.1 z hz; have := h3 z (List.mem_cons_of_mem _ hz); omega
        · refine .inr ⟨h1, List.pairwise_cons.2 h2, fun z hz => ?_⟩
          rcases List.mem_cons.1 hz with h4 | h4
          · subst h4; omega
          · have := h2.1 z h4; have := h3 z (List.mem_cons_of_mem _ h4); omega
theorem comb_rising (N : Nat) : ∀ r m : Nat, (comb N r m).Pairwise (fun a b => before a b = true)
  | 0, _ => by rw [comb]; exact List.pairwise_singleton _ _
  | _ + 1, 0 => List.Pairwise.nil
  | r + 1, m + 1 => by
    rw [comb, List.pairwise_append]
    refine ⟨List.pairwise_map.2 ((comb_rising N r m).imp fun h => by rw [before, if_pos rfl]; exact h), comb_rising N (r + 1) m, fun a ha b hb => ?_⟩
    obtain ⟨y, _, rfl⟩ := List.mem_map.1 ha
    obtain ⟨h1, _, h3⟩ := (comb_mem N (r + 1) m b).1 hb
    cases b with
    | nil => cases h1
    | cons z b =>
      have := h3 z (List.mem_cons_self ..)
      rw [before, if_neg (by omega)]
      exact decide_eq_true (by omega)
/-- What is found first comes first. -/
theorem find_first {P : List Int → Bool} : ∀ {L : List (List Int)}, L.Pairwise (fun a b => before a b = true) → ∀ {l : List Int}, L.find? P = some l → l ∈ L ∧ P l = true ∧ ∀ x ∈ L, P x = true → x = l ∨ before l x = true
  | [], _, _, h => by cases h
  | a :: L, hp, l, h => by
    rw [List.pairwise_cons] at hp
    rw [List.find?_cons] at h
    cases ha : P a with
    | true =>
      rw [ha] at h
      obtain rfl : a = l := by simpa using h
      exact ⟨List.mem_cons_self .., ha, fun x hx _ => by
        rcases List.mem_cons.1 hx with h1 | h1
        · exact .inl h1
        · exact .inr (hp.1 x h1)⟩
    | false =>
      rw [ha] at h
      obtain ⟨h1, h2, h3⟩ := find_first hp.2 h
      refine ⟨List.mem_cons_of_mem _ h1, h2, fun x hx hx2 => ?_⟩
      rcases List.mem_cons.1 hx with h4 | h4
      · subst h4; rw [ha] at hx2; cases hx2
      · exact h3 x h4 hx2
/-- The best set: all better ones fail. -/
def BestM (N : Nat) (P : List Int → Bool) (l : List Int) : Prop := Rise 0 N l ∧ P l = true ∧ ∀ x, Rise 0 N x → P x = true → x.length < l.length ∨ x.length = l.length ∧ before x l = false
def BestX (N : Nat) (P : List Int → Bool) (l : List Int) : Prop := Rise 0 N l ∧ P l = true ∧ ∀ x, Rise 0 N x → P x = true → l.length < x.length ∨ x.length = l.length ∧ before x l = false
theorem bestM_one {N : Nat} {P : List Int → Bool} {l m : List Int} (h : BestM N P l) (k : BestM N P m) : l = m := by
  have h1 := h.2.2 m k.1 k.2.1
  have h2 := k.2.2 l h.1 h.2.1
  rcases h1 with h1 | ⟨h1, h3⟩
  · rcases h2 with h2 | ⟨h2, _⟩ <;> omega
  · rcases h2 with h2 | ⟨h2, h4⟩
    · omega
    · exact before_total h2 h4 h3
theorem bestX_one {N : Nat} {P : List Int → Bool} {l m : List Int} (h : BestX N P l) (k : BestX N P m) : l = m := by
  have h1 := h.2.2 m k.1 k.2.1
  have h2 := k.2.2 l h.1 h.2.1
  rcases h1 with h1 | ⟨h1, h3⟩
  · rcases h2 with h2 | ⟨h2, _⟩ <;> omega
  · rcases h2 with h2 | ⟨h2, h4⟩
    · omega
    · exact before_total h2 h4 h3
/-- The program's search of the greatest. -/
def most (N : Nat) (P : List Int → Bool) : Nat → List Int
  | 0 => []
  | r + 1 => match (comb N (r + 1) N).find? P with | some l => l | none => most N P r
theorem rise_len : ∀ {l : List Int} {lo hi : Int}, Rise lo hi l → lo ≤ hi → (l.length : Int) ≤ hi - lo
  | [], _, _, _, h => by simp; omega
  | a :: l, lo, hi, ⟨h1, h2⟩, h => by
    rw [List.pairwise_cons] at h1
    have ha := h2 a (List.mem_cons_self ..)
    have := rise_len (l := l) (lo := a + 1) (hi := hi) ⟨h1.2, fun x hx => by have := h1.1 x hx; have := h2 x (List.mem_cons_of_mem _ hx); omega⟩ (by omega)
    rw [List.length_cons]; omega
theorem most_best {N : Nat} {P : List Int → Bool} (h0 : P [] = true) : ∀ r, (∀ x, Rise 0 N x → P x = true → x.length ≤ r) → BestM N P (most N P r)
  | 0, h => ⟨⟨List.Pairwise.nil, fun x hx => by cases hx⟩, h0, fun x hx hp => .inr (by
      have h1 : x = [] := List.eq_nil_of_length_eq_zero (by have := h x hx hp; omega)
      subst h1; exact ⟨rfl, rfl⟩)⟩
  | r + 1, h => by
    rw [most]
    cases hf : (comb N (r + 1) N).find? P with
    | none =>
      refine most_best h0 r fun x hx hp => ?_
      have h1 := h x hx hp
      rcases Nat.lt_or_ge r x.length with h2 | h2
      · have h3 := List.find?_eq_none.1 hf x ((comb_mem N (r + 1) N x).2 ⟨by omega, by rw [Int.sub_self]; exact hx⟩)
        exact absurd hp h3
      · exact h2
    | some l =>
      obtain ⟨h1, h2, h3⟩ := find_first (comb_rising N (r + 1) N) hf
      obtain ⟨h4, h5⟩ := (comb_mem N (r + 1) N l).1 h1
      rw [Int.sub_self] at h5
      refine ⟨h5, h2, fun x hx hp => ?_⟩
      have h6 := h x hx hp
      rcases Nat.lt_or_ge x.length (r + 1) with h7 | h7
      · exact .inl (by simp only; omega)
      · refine .inr ⟨by simp only; omega, ?_⟩
        rcases h3 x ((comb_mem N (r + 1) N x).2 ⟨by omega, by rw [Int.sub_self]; exact hx⟩) hp with h8 | h8
        · subst h8
          cases hb : before x x with
          | false => rfl
          | true => rw [before_asymm hb] at hb; cases hb
        · exact before_asymm h8
end Go.Proofs.YtfbdklminljecaaGreatDoor
