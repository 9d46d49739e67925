/-
  Plain law: PageStanding and PageFewer in plain words.
-/
import Derived.Test.YtfbdklminljecaaGreatDoorStandLeast
namespace Go.Proofs.YtfbdklminljecaaGreatDoor
open Go.RowKit

def stB (cs : List Int) (ns : List (List Int)) (l : List Int) : Bool := decide (shortE cs ns l = 0)
def laB (cs : List Int) (ns : List (List Int)) (l : List Int) : Bool := decide (shortE cs ns l ≠ 0)
def exB (cs : List Int) (ns : List (List Int)) (l : List Int) : Bool := laB cs ns l && decide (exclE cs ns l = 0)
/-- The error of a set of n pages. -/
def setE (n : Nat) (set : List Int) : Int :=
  if firstE (fun i => if 0 ≤ set.getD i 0 ∧ set.getD i 0 < n then 0 else 6) set.length ≠ 0 then 6 else firstE (fun i => if 0 < i ∧ set.getD i 0 ≤ set.getD (i - 1) 0 then 9 else 0) set.length
theorem rising_of : ∀ {l : List Int}, (∀ i, 0 < i → i < l.length → l.getD (i - 1) 0 < l.getD i 0) → l.Pairwise (· < ·)
  | [], _ => List.Pairwise.nil
  | a :: l, h => by
    have ih : l.Pairwise (· < ·) := rising_of fun i h1 h2 => by
      have h9 := h (i + 1) (by omega) (by rw [List.length_cons]; omega)
      obtain ⟨j, rfl⟩ : ∃ j, i = j + 1 := ⟨i - 1, by omega⟩
      simpa using h9
    refine List.pairwise_cons.2 ⟨fun x hx => ?_, ih⟩
    cases l with
    | nil => cases hx
    | cons b l =>
      have h1 : a < b := by simpa using h 1 (by omega) (by simp)
      rcases List.mem_cons.1 hx with h2 | h2
      · rw [h2]; exact h1
      · have := (List.pairwise_cons.1 ih).1 x h2; omega
theorem setE_zero {n : Nat} {set : List Int} (h : setE n set = 0) : Rise 0 n set := by
  unfold setE at h
  split at h
  · cases h
  · rename_i h1
    have h2 := firstE_zero (n := set.length) (by simpa using h1)
    have h3 := firstE_zero h
    refine ⟨rising_of fun i hi hl => ?_, fun x hx => ?_⟩
    · have := h3 i hl
      split at this
      · cases this
      · omega
    · obtain ⟨i, hi, rfl⟩ := List.mem_iff_getElem.1 hx
      have := h2 i hi
      rw [List.getElem?_eq_getElem hi] at this
      split at this
      · rename_i h4; exact h4
      · cases this
theorem Rise.sub {lo hi : Int} {l1 l2 : List Int} (h : Rise lo hi l2) (hs : l1.Sublist l2) : Rise lo hi l1 := ⟨h.1.sublist hs, fun x hx => h.2 x (hs.mem hx)⟩
/-- As many as there are: all of them. -/
theorem rise_full : ∀ {x : List Int} {lo hi : Int}, Rise lo hi x → lo ≤ hi → hi - lo ≤ x.length → ∀ z, lo ≤ z → z < hi → z ∈ x
  | [], lo, hi, _, _, h, z, h1, h2 => by simp at h; omega
  | a :: x, lo, hi, ⟨h1, h2⟩, hle, h, z, hz1, hz2 => by
    rw [List.pairwise_cons] at h1
    have ha := h2 a (List.mem_cons_self ..)
    have hr : Rise (a + 1) hi x := ⟨h1.2, fun y hy => by have := h1.1 y hy; have := h2 y (List.mem_cons_of_mem _ hy); omega⟩
    have hl := rise_len hr (by omega)
    rw [List.length_cons] at h
    rcases Int.lt_or_le a z with h3 | h3
    · exact List.mem_cons_of_mem _ (rise_full hr (by omega) (by omega) z (by omega) hz2)
    · obtain rfl : z = a := by omega
      exact List.mem_cons_self ..
theorem range_rise (N : Nat) : Rise 0 N ((List.range N).map fun i : Nat => (i : Int)) := by
  refine ⟨List.pairwise_map.2 (List.pairwise_lt_range.imp fun h => by omega), fun x hx => ?_⟩
  obtain ⟨i, hi, rfl⟩ := List.mem_map.1 hx
  have := List.mem_range.1 hi
  omega
section
variable {cs : List Int} {ns : List (List Int)} (hc : ∀ k, k < cs.length → 0 ≤ cs.getD k 0)
include hc
theorem st_nil : shortE cs ns [] = 0 := shortE_zero.2 fun k hk => hc k hk
theorem most_is (N : Nat) : BestM N (stB cs ns) (most N (stB cs ns) N) := most_best (decide_eq_true (st_nil hc)) N fun x hx _ => by have := rise_len hx (by omega); omega
theorem most_ref (N : Nat) : most N (stB cs ns) N = mostR N (stB cs ns) (2 ^ N) := most_same (decide_eq_true (st_nil hc))
variable (hn : ∀ n k, 0 ≤ needAt ns n k)
include hn
/-- Both searches of what excludes itself agree; one of both sets tells whether all stand. -/
theorem standing (N : Nat) :
    (least N (laB cs ns) (N + 1) 0 = none ∧ leastR N (exB cs ns) (2 ^ N - 1) = [] ∧ (most N (stB cs ns) N).length = N) ∨
    (∃ l, least N (laB cs ns) (N + 1) 0 = some l ∧ leastR N (exB cs ns) (2 ^ N - 1) = l ∧ l ≠ [] ∧ Rise 0 N l ∧ shortE cs ns l ≠ 0 ∧ (most N (stB cs ns) N).length < N) := by
  have hm := most_is hc (ns := ns) N
  have hle := rise_len hm.1 (by omega)
  have h0 : laB cs ns [] = false := decide_eq_false (by rw [st_nil hc]; simp)
  have hs := least_same (N := N) (P := laB cs ns) (Q := exB cs ns) h0 (fun x _ hx => by unfold exB at hx; rw [Bool.and_eq_true] at hx; exact hx.1) (fun x hx hp hmin => by
    unfold exB
    rw [hp, Bool.true_and]
    refine decide_eq_true (firstE_none fun i hi => ?_)
    have hsub := erase_sub x i
    have hr := hx.sub hsub
    rw [if_neg]
    intro h
    have h1 := hmin _ hr (decide_eq_true h)
    rw [List.length_append, List.length_take, List.length_drop] at h1
    omega) (by unfold exB; rw [h0]; rfl)
  rcases hs with ⟨h1, h2, h3⟩ | ⟨l, h1, h2, h3, h4, h5⟩
  · refine .inl ⟨h1, h2, ?_⟩
    have hr := range_rise N
    have := h3 _ hr
    have hst : stB cs ns ((List.range N).map fun i : Nat => (i : Int)) = true := by
      unfold laB at this
      have := of_decide_eq_false this
      exact decide_eq_true (by simpa using this)
    rcases hm.2.2 _ hr hst with h4 | ⟨h4, _⟩ <;> simp at h4 <;> omega
  · refine .inr ⟨l, h1, h2, h3, h4, of_decide_eq_true h5, ?_⟩
    rcases Nat.lt_or_ge (most N (stB cs ns) N).length N with h6 | h6
    · exact h6
    · have hf := rise_full hm.1 (by omega) (by omega)
      have hsub := rising_sub h4.1 hm.1.1 fun x hx => hf x (h4.2 x hx).1 (h4.2 x hx).2
      exact absurd (stands_sub hsub hn (of_decide_eq_true hm.2.1)) (of_decide_eq_true h5)
/-- No set that stands is greater than the one that is found, and none has a set that excludes itself. -/
theorem fewer {N : Nat} {set : List Int} (hr : Rise 0 N set) (hs : shortE cs ns set = 0) : set.length ≤ (most N (stB cs ns) N).length ∧ ∀ l, Rise 0 N l → shortE cs ns l ≠ 0 → ¬ ∀ x ∈ l, x ∈ set := by
  refine ⟨?_, fun l hl hx h => hx (stands_sub (rising_sub hl.1 hr.1 h) hn hs)⟩
  rcases (most_is hc (ns := ns) N).2.2 set hr (decide_eq_true hs) with h | ⟨h, _⟩ <;> omega
end
end Go.Proofs.YtfbdklminljecaaGreatDoor
