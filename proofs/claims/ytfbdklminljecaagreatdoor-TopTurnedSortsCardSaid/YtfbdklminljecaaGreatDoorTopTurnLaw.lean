/-
  Plain law: turned sorts mark just what is lacking (TopTurnedSorts).
-/
import Derived.Test.YtfbdklminljecaaGreatDoorTurnsLaw
import Derived.Test.YtfbdklminljecaaGreatDoorStandAll
namespace Go.Proofs.YtfbdklminljecaaGreatDoor
open Go.RowKit

theorem cntI_cons (j z : Int) (l : List Int) : cntI j (z :: l) = cntI j l + if z = j then 1 else 0 := by
  unfold cntI
  rw [List.countP_cons]
  by_cases h : z = j
  · rw [if_pos h, if_pos (by simpa using h)]; omega
  · rw [if_neg h, if_neg (by simpa using h)]; omega
theorem cntI_app (j : Int) (a b : List Int) : cntI j (a ++ b) = cntI j a + cntI j b := by
  unfold cntI; rw [List.countP_append]; omega
theorem sumTo_unit {z : Int} (h : 0 ≤ z) : ∀ n : Nat, sumTo (fun j => if z = (j : Int) then 1 else 0) n = if z < n then 1 else 0
  | 0 => by rw [if_neg (by omega)]; rfl
  | n + 1 => by
    rw [sumTo, sumTo_unit h n]
    by_cases h1 : z < n
    · rw [if_pos h1, if_neg (by omega), if_pos (by omega)]; rfl
    · by_cases h2 : z = n
      · rw [if_neg h1, if_pos h2, if_pos (by omega)]; rfl
      · rw [if_neg h1, if_neg h2, if_neg (by omega)]; rfl
theorem sumTo_both (g h : Nat → Int) : ∀ n, sumTo (fun k => g k + h k) n = sumTo g n + sumTo h n
  | 0 => rfl
  | n + 1 => by rw [sumTo, sumTo_both g h n, sumTo, sumTo]; omega
theorem sumTo_like {g h : Nat → Int} : ∀ n, (∀ k, k < n → g k = h k) → sumTo g n = sumTo h n
  | 0, _ => rfl
  | n + 1, e => by rw [sumTo, sumTo, sumTo_like n fun k hk => e k (by omega), e n (by omega)]
/-- A list's items, counted by kinds. -/
theorem sumTo_cnt {n : Nat} : ∀ l : List Int, (∀ z ∈ l, 0 ≤ z ∧ z < n) → sumTo (fun j => cntI j l) n = l.length
  | [], _ => by
    rw [sumTo_like (h := fun _ => 0) n fun k _ => cntI_nil k]
    have h9 : ∀ m, sumTo (fun _ => (0 : Int)) m = 0 := fun m => by
      induction m with
      | zero => rfl
      | succ m ih => rw [sumTo, ih]; rfl
    exact h9 n
  | z :: l, h => by
    rw [sumTo_like (h := fun j : Nat => cntI j l + if z = (j : Int) then 1 else 0) n fun k _ => cntI_cons k z l, sumTo_both, sumTo_cnt l fun x hx => h x (List.mem_cons_of_mem _ hx)]
    have hz := h z (List.mem_cons_self ..)
    rw [sumTo_unit hz.1, if_pos hz.2, List.length_cons]; omega
section
variable {cs : List Int} {ls : List LN} (h0 : ∀ j, j < cs.length → 0 ≤ cs.getD j 0) (hz : ∀ i, i < ls.length → ∀ k, k < (lineZ ls i).length → 0 ≤ (lineZ ls i).getD k 0 ∧ (lineZ ls i).getD k 0 < cs.length)
include h0 hz
/-- None is turned just if the case suffices. -/
theorem turned_none : (trTo ls cs ls.length).2 = [] ↔ ∀ j, j < cs.length → cntI j (allZ ls ls.length) ≤ cs.getD j 0 := by
  have hI := trTo_inv h0 hz ls.length (Nat.le_refl _)
  constructor
  · intro h j hj
    have h1 := hI.lack j hj
    rw [h, List.map_nil, cntI_nil] at h1
    omega
  · intro h
    cases hp : (trTo ls cs ls.length).2 with
    | nil => rfl
    | cons q qs =>
      have h1 := hI.ix q (by rw [hp]; exact List.mem_cons_self ..)
      have h2 := hI.lack (prSort ls q).toNat (by omega)
      have h3 := h (prSort ls q).toNat (by omega)
      rw [hp, List.map_cons, cntI_cons, if_pos (by omega)] at h2
      have := (cntI_bd ((prSort ls q).toNat : Nat) (List.map (prSort ls) qs)).1
      omega
/-- As many are turned as lack. -/
theorem turned_sum : sumTo (fun j => (zipK lacksI cs (needTo cs.length (allZ ls ls.length) (allZ ls ls.length).length)).getD j 0) cs.length = (trTo ls cs ls.length).2.length := by
  have hI := trTo_inv h0 hz ls.length (Nat.le_refl _)
  rw [sumTo_like (h := fun j : Nat => cntI j ((trTo ls cs ls.length).2.map (prSort ls))) cs.length fun j hj => ?_, sumTo_cnt _ fun z hz' => ?_, List.length_map]
  · obtain ⟨q, hq, rfl⟩ := List.mem_map.1 hz'
    exact hI.ix q hq
  · rw [zipK_at _ _ _ _ hj, need_cnt hj _ (Nat.le_refl _) (fun i hi => allZ_ix hz ls.length (Nat.le_refl _) _ (getD_mem2 hi)), List.take_length, hI.lack j hj]
    unfold lacksI; rfl
end
/-- Some of the lines. -/
def pickLn (ls : List LN) (set : List Int) : List LN := set.map fun z => ls.getD z.toNat LN.zero
theorem pick_line {ls : List LN} {set : List Int} {j : Nat} (hj : j < set.length) : lineZ (pickLn ls set) j = lineZ ls (set.getD j 0).toNat := by
  unfold lineZ pickLn
  rw [List.getD_eq_getElem?_getD, List.getElem?_map, List.getElem?_eq_getElem hj, List.getD_eq_getElem?_getD (l := set), List.getElem?_eq_getElem hj]; rfl
theorem cnt_allZ (ls : List LN) (k : Int) : ∀ m, cntI k (allZ ls m) = sumTo (fun i => cntI k (lineZ ls i)) m
  | 0 => rfl
  | m + 1 => by rw [allZ, cntI_app, cnt_allZ ls k m, sumTo]
section
variable {cs : List Int} {ls : List LN} {ns : List (List Int)} (h0 : ∀ j, j < cs.length → 0 ≤ cs.getD j 0) (hz : ∀ i, i < ls.length → ∀ k, k < (lineZ ls i).length → 0 ≤ (lineZ ls i).getD k 0 ∧ (lineZ ls i).getD k 0 < cs.length)
  (hns : ∀ i, i < ls.length → ∀ k, k < cs.length → needAt ns (i : Nat) k = cntI k (lineZ ls i))
include h0 hz hns
/-- What stands has no turned sorts. -/
theorem stands_turned {set : List Int} (hr : Rise 0 ls.length set) : shortE cs ns set = 0 ↔ (trTo (pickLn ls set) cs (pickLn ls set).length).2 = [] := by
  have hpl : (pickLn ls set).length = set.length := by unfold pickLn; rw [List.length_map]
  have hix : ∀ j, j < set.length → 0 ≤ set.getD j 0 ∧ set.getD j 0 < ls.length := fun j hj => by
    rw [List.getD_eq_getElem?_getD, List.getElem?_eq_getElem hj]
    exact hr.2 _ (List.getElem_mem hj)
  rw [turned_none h0 (fun i hi k hk => ?_), shortE_zero]
  · refine ⟨fun h k hk => ?_, fun h k hk => ?_⟩
    · have h1 := h k hk
      rw [cnt_allZ, hpl, sumTo_like (h := fun j => needAt ns (set.getD j 0) k) _ fun j hj => ?_]
      · exact h1
      · have h2 := hix j hj
        rw [pick_line hj, ← hns _ (by omega) k hk, Int.toNat_of_nonneg h2.1]
    · have h1 := h k hk
      rw [cnt_allZ, hpl, sumTo_like (h := fun j => needAt ns (set.getD j 0) k) _ fun j hj => ?_] at h1
      · exact h1
      · have h2 := hix j hj
        rw [pick_line hj, ← hns _ (by omega) k hk, Int.toNat_of_nonneg h2.1]
  · rw [hpl] at hi
    have h2 := hix i hi
    rw [pick_line hi] at hk ⊢
    exact hz _ (by omega) k hk
/-- All stand just if none is turned. -/
theorem all_stand (hn : ∀ n k, 0 ≤ needAt ns n k) : (most ls.length (stB cs ns) ls.length).length = ls.length ↔ (trTo ls cs ls.length).2 = [] := by
  have hr := range_rise ls.length
  have hp : pickLn ls ((List.range ls.length).map fun i : Nat => (i : Int)) = ls := by
    unfold pickLn
    rw [List.map_map]
    refine List.ext_getElem (by simp) fun i h1 h2 => ?_
    rw [List.getElem_map, List.getElem_range]
    simp [h2]
  have hst := stands_turned h0 hz hns hr
  rw [hp] at hst
  rw [← hst]
  have hm := most_is h0 (ns := ns) ls.length
  constructor
  · intro h
    have hf := rise_full hm.1 (by omega) (by omega)
    exact stands_sub (rising_sub hr.1 hm.1.1 fun x hx => hf x (hr.2 x hx).1 (hr.2 x hx).2) hn (of_decide_eq_true hm.2.1)
  · intro h
    have hle := rise_len hm.1 (by omega)
    rcases hm.2.2 _ hr (decide_eq_true h) with h4 | ⟨h4, _⟩ <;> simp at h4 <;> omega
end
/-- With what lacks joined to the case none is turned. -/
theorem richer_none {cs ds : List Int} {ls : List LN} (h0 : ∀ j, j < cs.length → 0 ≤ cs.getD j 0) (hz : ∀ i, i < ls.length → ∀ k, k < (lineZ ls i).length → 0 ≤ (lineZ ls i).getD k 0 ∧ (lineZ ls i).getD k 0 < cs.length) (hl : ds.length = cs.length)
    (hd : ∀ j, j < cs.length → ds.getD j 0 = cs.getD j 0 + max 0 (cntI j (allZ ls ls.length) - cs.getD j 0)) : (trTo ls ds ls.length).2 = [] := by
  refine (turned_none (fun j hj => ?_) (fun i hi k hk => ?_)).2 fun j hj => ?_
  · have h1 := h0 j (by omega); have h2 := hd j (by omega); omega
  · have := hz i hi k hk; omega
  · have h2 := hd j (by omega); omega
end Go.Proofs.YtfbdklminljecaaGreatDoor
