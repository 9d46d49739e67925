/-
  Plain law: which sets of pages stand (PageStands, PageFewer, PageStanding).
-/
import Derived.Test.YtfbdklminljecaaGreatDoorGF
import Derived.Test.YtfbdklminljecaaGreatDoorGB
namespace Go.Proofs.YtfbdklminljecaaGreatDoor
open Go.RowKit

/-- What page n needs of sort k. -/
def needAt (ns : List (List Int)) (n : Int) (k : Nat) : Int := (ns.getD n.toNat []).getD k 0
/-- What the first i pages of a set need of sort k. -/
def useK (ns : List (List Int)) (set : List Int) (k : Nat) : Nat → Int := sumTo fun j => needAt ns (set.getD j 0) k
/-- One more than the first sort of which there is not enough; 0: the set stands. -/
def shortE (cs : List Int) (ns : List (List Int)) (set : List Int) : Int := firstE (fun k => if cs.getD k 0 < useK ns set k set.length then (k : Int) + 1 else 0) cs.length
theorem shortE_zero {cs : List Int} {ns : List (List Int)} {set : List Int} : shortE cs ns set = 0 ↔ ∀ k, k < cs.length → useK ns set k set.length ≤ cs.getD k 0 := by
  refine ⟨fun h k hk => ?_, fun h => firstE_none fun k hk => by rw [if_neg (by have := h k hk; omega)]⟩
  have := firstE_zero h k hk
  split at this
  · omega
  · omega
theorem shortE_hit {cs : List Int} {ns : List (List Int)} {set : List Int} {k : Nat} (h0 : ∀ j, j < k → useK ns set j set.length ≤ cs.getD j 0) (hk : k < cs.length) (hb : cs.getD k 0 < useK ns set k set.length) : shortE cs ns set = (k : Int) + 1 := by
  have := firstE_hit (g := fun k => if cs.getD k 0 < useK ns set k set.length then (k : Int) + 1 else 0) (k := k) (fun j hj => by rw [if_neg (by have := h0 j hj; omega)]) (by rw [if_pos hb]; omega) hk
  rw [if_pos hb] at this
  exact this
/-- Sums over a list. -/
def sumL (g : Int → Int) : List Int → Int
  | [] => 0
  | x :: xs => g x + sumL g xs
theorem sumTo_cons (g : Nat → Int) : ∀ n, sumTo g (n + 1) = g 0 + sumTo (fun i => g (i + 1)) n
  | 0 => by simp [sumTo]
  | n + 1 => by rw [sumTo, sumTo_cons g n, sumTo]; omega
theorem sumTo_sumL (g : Int → Int) : ∀ l : List Int, sumTo (fun j => g (l.getD j 0)) l.length = sumL g l
  | [] => rfl
  | x :: xs => by
    rw [List.length_cons, sumTo_cons, sumL, ← sumTo_sumL g xs]
    simp
theorem sumL_sub {g : Int → Int} {l1 l2 : List Int} (h : l1.Sublist l2) (hg : ∀ x ∈ l2, 0 ≤ g x) : sumL g l1 ≤ sumL g l2 := by
  induction h with
  | slnil => exact Int.le_refl _
  | cons a _ ih =>
    have h1 := ih fun x hx => hg x (List.mem_cons_of_mem _ hx)
    have h2 := hg a (List.mem_cons_self ..)
    rw [sumL]; omega
  | cons_cons a _ ih =>
    have h1 := ih fun x hx => hg x (List.mem_cons_of_mem _ hx)
    rw [sumL, sumL]; omega
theorem useK_sum (ns : List (List Int)) (set : List Int) (k : Nat) : useK ns set k set.length = sumL (fun n => needAt ns n k) set := sumTo_sumL (fun n => needAt ns n k) set
/-- A part of a set that stands, stands. -/
theorem stands_sub {cs : List Int} {ns : List (List Int)} {l1 l2 : List Int} (h : l1.Sublist l2) (hn : ∀ n k, 0 ≤ needAt ns n k) (hs : shortE cs ns l2 = 0) : shortE cs ns l1 = 0 := by
  rw [shortE_zero] at hs ⊢
  intro k hk
  have h1 := hs k hk
  rw [useK_sum] at h1 ⊢
  have := sumL_sub (g := fun n => needAt ns n k) h fun x _ => hn x k
  omega
/-- Rising lists: what is within is a part. -/
theorem rising_sub : ∀ {l1 l2 : List Int}, l1.Pairwise (· < ·) → l2.Pairwise (· < ·) → (∀ x ∈ l1, x ∈ l2) → l1.Sublist l2
  | [], _, _, _, _ => List.nil_sublist _
  | a :: l1, [], _, _, h => by have := h a (List.mem_cons_self ..); cases this
  | a :: l1, b :: l2, h1, h2, h => by
    rw [List.pairwise_cons] at h1 h2
    by_cases hab : a = b
    · subst hab
      refine List.Sublist.cons_cons _ (rising_sub h1.2 h2.2 fun x hx => ?_)
      rcases List.mem_cons.1 (h x (List.mem_cons_of_mem _ hx)) with h3 | h3
      · have := h1.1 x hx; omega
      · exact h3
    · have ha : a ∈ l2 := by
        rcases List.mem_cons.1 (h a (List.mem_cons_self ..)) with h3 | h3
        · exact absurd h3 hab
        · exact h3
      have hba := h2.1 a ha
      refine List.Sublist.cons _ (rising_sub (List.pairwise_cons.2 h1) h2.2 fun x hx => ?_)
      rcases List.mem_cons.1 (h x hx) with h3 | h3
      · rcases List.mem_cons.1 hx with h4 | h4
        · exact absurd (h4 ▸ h3) hab
        · have := h1.1 x h4; omega
      · exact h3
/-- A set without its page number i. -/
theorem erase_sub (l : List Int) (i : Nat) : (l.take i ++ l.drop (i + 1)).Sublist l := by
  rw [← List.eraseIdx_eq_take_drop_succ]
  exact List.eraseIdx_sublist l i
/-- The error of a set's proof. -/
def exclE (cs : List Int) (ns : List (List Int)) (set : List Int) : Int := firstE (fun i => if shortE cs ns (set.take i ++ set.drop (i + 1)) ≠ 0 then 1 else 0) set.length
end Go.Proofs.YtfbdklminljecaaGreatDoor
