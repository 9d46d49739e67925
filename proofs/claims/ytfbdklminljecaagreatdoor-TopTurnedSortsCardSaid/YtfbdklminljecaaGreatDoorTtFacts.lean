/-
  Plain facts of TopTurnedSorts: what the calls behind the first loop answer.
-/
import Derived.Test.YtfbdklminljecaaGreatDoorTtMem
import Derived.Test.YtfbdklminljecaaGreatDoorTopTurnLaw
import Derived.Test.YtfbdklminljecaaGreatDoorLnNeed
import Derived.Test.YtfbdklminljecaaGreatDoorGJ
import Derived.Test.YtfbdklminljecaaGreatDoorAddsLaw
import Derived.Test.YtfbdklminljecaaGreatDoorMostSt
namespace Go.Proofs.YtfbdklminljecaaGreatDoor
open Go.RowKit

theorem pick_next (ls : List LN) {set : List Int} {j : Nat} (hj : j < set.length) : pickLn ls (set.take (j + 1)) = pickLn ls (set.take j) ++ [ls.getD (set.getD j 0).toNat LN.zero] := by
  unfold pickLn
  rw [List.take_succ_eq_append_getElem hj, List.map_append, List.getD_eq_getElem?_getD (l := set), List.getElem?_eq_getElem hj]; rfl
theorem pick_at {ls : List LN} {set : List Int} {j : Nat} (hj : j < set.length) : (pickLn ls set).getD j LN.zero = ls.getD (set.getD j 0).toNat LN.zero := by
  unfold pickLn
  rw [List.getD_eq_getElem?_getD, List.getElem?_map, List.getElem?_eq_getElem hj, List.getD_eq_getElem?_getD (l := set), List.getElem?_eq_getElem hj]; rfl
theorem pick_len (ls : List LN) (set : List Int) : (pickLn ls set).length = set.length := by unfold pickLn; rw [List.length_map]
theorem sum_bd {g : Nat → Int} {n : Nat} {M : Int} (h : ∀ j, j < n → 0 ≤ g j ∧ g j ≤ M) : ∀ i : Nat, i ≤ n → 0 ≤ sumTo g i ∧ sumTo g i ≤ M * (i : Int)
  | 0, _ => by rw [sumTo]; simp
  | i + 1, hi => by
    have ih := sum_bd h i (by omega)
    have h1 := h i (by omega)
    rw [sumTo]
    have e : M * ((i + 1 : Nat) : Int) = M * (i : Int) + M := by rw [Int.natCast_add, Int.mul_add]; simp
    omega
theorem lack_bd {f : FT} {cs zs : List Int} (hl : zs.length ≤ 10000) (h0 : ∀ j, j < cs.length → 0 ≤ cs.getD j 0) (hcl : cs.length = f.sorts.length) : ∀ j, j < f.sorts.length → 0 ≤ (zipK lacksI cs (needTo f.sorts.length zs zs.length)).getD j 0 ∧ (zipK lacksI cs (needTo f.sorts.length zs zs.length)).getD j 0 ≤ 1000000 := fun j hj => by
  have h1 := (counts_zero (f := f) (adds.need_counts (f := f) hl)).2 j (by rw [needTo_len]; exact hj)
  have h2 := h0 j (by omega)
  rw [zipK_at _ _ _ _ (by omega)]
  unfold lacksI
  omega
section
variable {f : FT} {cs : List Int} {rows : List SI} (hck : (chk f).2 = 0) (hcc : caseErr f cs = 0) (hN : rows.length ≤ 4) (hg : ∀ i, i < rows.length → (rows.getD i SI.none_).zs.length ≤ 15 ∧ listErr f.sorts.length (rows.getD i SI.none_).zs = 0)
include hN hg
omit hN hg in
theorem tt_line {i : Nat} (hi : i < rows.length) : lineZ (lnK rows rows.length) i = (rows.getD i SI.none_).zs := by unfold lineZ; rw [lnK_at (Nat.le_refl _) hi]
include hck in
theorem tt_linesE : linesE f (lnK rows rows.length) = 0 := by
  unfold linesE
  rw [lnK_len (Nat.le_refl _), if_neg (by omega)]
  refine firstE_none fun k hk => ?_
  rw [lnK_at (Nat.le_refl _) hk]
  unfold listChk
  rw [if_neg (by simpa using hck)]
  exact (hg k hk).2
omit hN in
theorem tt_ix : ∀ i, i < (lnK rows rows.length).length → ∀ k, k < (lineZ (lnK rows rows.length) i).length → 0 ≤ (lineZ (lnK rows rows.length) i).getD k 0 ∧ (lineZ (lnK rows rows.length) i).getD k 0 < (f.sorts.length : Int) := fun i hi k hk => by
  rw [lnK_len (Nat.le_refl _)] at hi
  rw [tt_line hi] at hk ⊢
  exact (listErr_zero (hg i hi).2).2 k hk
theorem tt_all : (allZ (lnK rows rows.length) rows.length).length ≤ 60 := by
  have := allZ_len (ls := lnK rows rows.length) (N := 15) (fun k hk => by rw [lnK_len (Nat.le_refl _)] at hk; rw [tt_line hk]; exact (hg k hk).1) rows.length (by rw [lnK_len (Nat.le_refl _)]; exact Nat.le_refl _)
  omega
include hck in
theorem tt_needE : pNeedE f (lnK rows rows.length) = 0 := by unfold pNeedE; rw [if_neg (by simpa using hck)]; exact tt_linesE hck hN hg
include hck in
theorem tt_needL : pNeedL f (lnK rows rows.length) = needTo f.sorts.length (allZ (lnK rows rows.length) rows.length) (allZ (lnK rows rows.length) rows.length).length := by
  unfold pNeedL; rw [if_neg (by simpa using tt_needE hck hN hg), lnK_len (Nat.le_refl _)]
include hcc in
theorem tt_lack : lackR f cs (needTo f.sorts.length (allZ (lnK rows rows.length) rows.length) (allZ (lnK rows rows.length) rows.length).length) = (zipK lacksI cs (needTo f.sorts.length (allZ (lnK rows rows.length) rows.length) (allZ (lnK rows rows.length) rows.length).length), 0) := by
  unfold lackR
  have h : caseErr2 f cs (needTo f.sorts.length (allZ (lnK rows rows.length) rows.length) (allZ (lnK rows rows.length) rows.length).length) = 0 := by
    unfold caseErr2; rw [if_neg (by simpa using hcc)]; exact adds.need_counts (by have := tt_all hN hg; omega)
  rw [if_neg (by simpa using h)]
include hck hcc in
theorem tt_turn : turnE f cs (lnK rows rows.length) = 0 ∧ turnL f cs (lnK rows rows.length) = (trTo (lnK rows rows.length) cs rows.length).2 := by
  have h : turnE f cs (lnK rows rows.length) = 0 := by unfold turnE; rw [if_neg (by simpa using hcc)]; exact tt_linesE hck hN hg
  refine ⟨h, ?_⟩
  unfold turnL; rw [if_neg (by simpa using h), lnK_len (Nat.le_refl _)]
include hck in
/-- The case with what lacks: nothing is turned any more. -/
theorem tt_rich {J : List Int} (h0 : ∀ j, j < cs.length → 0 ≤ cs.getD j 0) (hcl : cs.length = f.sorts.length) (hj : joinR f cs (zipK lacksI cs (needTo f.sorts.length (allZ (lnK rows rows.length) rows.length) (allZ (lnK rows rows.length) rows.length).length)) = (J, 0)) :
    turnE f J (lnK rows rows.length) = 0 ∧ turnL f J (lnK rows rows.length) = [] := by
  have hix := tt_ix hg
  have hlen := lnK_len (rows := rows) (Nat.le_refl _)
  have hnd : ∀ j, j < cs.length → (needTo f.sorts.length (allZ (lnK rows rows.length) rows.length) (allZ (lnK rows rows.length) rows.length).length).getD j 0 = cntI (j : Nat) (allZ (lnK rows rows.length) (lnK rows rows.length).length) := fun j hj => by
    have hall := allZ_ix hix (lnK rows rows.length).length (Nat.le_refl _)
    rw [hlen] at hall ⊢
    rw [need_cnt (by omega) _ (Nat.le_refl _) (fun i hi => hall _ (getD_mem2 hi)), List.take_length]
  generalize needTo f.sorts.length (allZ (lnK rows rows.length) rows.length) (allZ (lnK rows rows.length) rows.length).length = nd at *
  have hJ : J = zipK (· + ·) cs (zipK lacksI cs nd) ∧ ¬ 1000000 < maxTo (zipK (· + ·) cs (zipK lacksI cs nd)) (zipK (· + ·) cs (zipK lacksI cs nd)).length := by
    unfold joinR at hj
    split at hj
    · rename_i h1; injection hj with h2 h3; exact absurd h3 h1
    · split at hj
      · injection hj with h2 h3; cases h3
      · rename_i h1; injection hj with h2 h3; exact ⟨h2.symm, h1⟩
  obtain ⟨rfl, hmx⟩ := hJ
  have hat : ∀ j, j < cs.length → (zipK (· + ·) cs (zipK lacksI cs nd)).getD j 0 = cs.getD j 0 + max 0 (cntI (j : Nat) (allZ (lnK rows rows.length) (lnK rows rows.length).length) - cs.getD j 0) := fun j hj => by
    rw [zipK_at _ _ _ _ hj, zipK_at _ _ _ _ hj, hnd j hj]; rfl
  have hcj : caseErr f (zipK (· + ·) cs (zipK lacksI cs nd)) = 0 := by
    refine case_of hck (counts_of (by rw [zipK_len, hcl]) fun k hk => ?_)
    refine ⟨?_, ?_⟩
    · rw [zipK_len] at hk
      rw [hat k hk]
      have := h0 k hk
      omega
    · have := mt (maxTo_gt (zipK (· + ·) cs (zipK lacksI cs nd)) 1000000 (zipK (· + ·) cs (zipK lacksI cs nd)).length (by omega)).2 hmx
      exact Int.not_lt.1 fun h9 => this ⟨k, hk, h9⟩
  have hE : turnE f (zipK (· + ·) cs (zipK lacksI cs nd)) (lnK rows rows.length) = 0 := by unfold turnE; rw [if_neg (by simpa using hcj)]; exact tt_linesE hck hN hg
  refine ⟨hE, ?_⟩
  unfold turnL
  rw [if_neg (by simpa using hE)]
  exact richer_none h0 (fun i hi k hk => by have := hix i hi k hk; rw [hcl]; exact this) (zipK_len _ _ _) hat
include hck hcc in
/-- What stands together has no turned sorts. -/
theorem tt_stand {s : ST} (hs : s.cs = cs) (h0 : ∀ j, j < cs.length → 0 ≤ cs.getD j 0) (hcl : cs.length = f.sorts.length) (hln : s.ns.length = rows.length) (hnd : ∀ i, i < rows.length → (s.ns.getD i SI.none_).zs = needTo f.sorts.length (rows.getD i SI.none_).zs (rows.getD i SI.none_).zs.length) :
    standE f s.cs s.zs = 0 ∧ Rise 0 rows.length (mostV f s) ∧ (mostV f s).length ≤ rows.length ∧ turnE f cs (pickLn (lnK rows rows.length) (mostV f s)) = 0 ∧ turnL f cs (pickLn (lnK rows rows.length) (mostV f s)) = [] ∧
      ((mostV f s).length = rows.length ↔ (trTo (lnK rows rows.length) cs rows.length).2 = []) := by
  have hlen := lnK_len (rows := rows) (Nat.le_refl _)
  have hE : standE f s.cs s.zs = 0 := stE4 (by rw [hs]; exact hcc) (by omega) fun j hj => by
    rw [hnd j (by omega)]
    exact case_of hck (adds.need_counts (by have := (hg j (by omega)).1; omega))
  have hm : mostV f s = most rows.length (stB cs s.zs) rows.length := by unfold mostV; rw [if_neg (by simpa using hE), hln, hs]
  have hns : ∀ i, i < (lnK rows rows.length).length → ∀ k, k < cs.length → needAt s.zs (i : Nat) k = cntI k (lineZ (lnK rows rows.length) i) := fun i hi k hk => by
    rw [hlen] at hi
    rw [s.need, Int.toNat_natCast, hnd i hi, tt_line hi, need_cnt (by omega) _ (Nat.le_refl _) (fun j hj => (listErr_zero (hg i hi).2).2 j hj), List.take_length]
  have hix : ∀ i, i < (lnK rows rows.length).length → ∀ k, k < (lineZ (lnK rows rows.length) i).length → 0 ≤ (lineZ (lnK rows rows.length) i).getD k 0 ∧ (lineZ (lnK rows rows.length) i).getD k 0 < (cs.length : Int) := by rw [hcl]; exact tt_ix hg
  have hmi := most_is h0 (ns := s.zs) rows.length
  have hst := (stands_turned h0 hix hns (set := mostV f s) (by rw [hlen, hm]; exact hmi.1)).1 (by rw [hm]; exact of_decide_eq_true hmi.2.1)
  have hall := all_stand h0 hix hns (fun n k => by
    rw [s.need]
    by_cases hi : n.toNat < rows.length
    · rw [hnd _ hi]
      have hc := counts_zero (f := f) (adds.need_counts (f := f) (zs := (rows.getD n.toNat SI.none_).zs) (by have := (hg _ hi).1; omega))
      by_cases hk : k < (needTo f.sorts.length (rows.getD n.toNat SI.none_).zs (rows.getD n.toNat SI.none_).zs.length).length
      · exact (hc.2 k hk).1
      · rw [List.getD_eq_getElem?_getD, List.getElem?_eq_none (by omega)]; exact Int.le_refl _
    · rw [List.getD_eq_getElem?_getD (l := s.ns), List.getElem?_eq_none (by omega)]
      show 0 ≤ ([] : List Int).getD k 0
      simp)
  rw [hlen] at hall
  have hL : (mostV f s).length ≤ rows.length := by rw [hm]; have := rise_len hmi.1 (by omega); omega
  have hpl : (pickLn (lnK rows rows.length) (mostV f s)).length = (mostV f s).length := by unfold pickLn; rw [List.length_map]
  have hl : linesE f (pickLn (lnK rows rows.length) (mostV f s)) = 0 := by
    unfold linesE
    rw [if_neg (by omega)]
    refine firstE_none fun k hk => ?_
    rw [hpl] at hk
    show listChk f (lineZ (pickLn (lnK rows rows.length) (mostV f s)) k) = 0
    have hr := hmi.1.2
    rw [← hm] at hr
    have hz := hr _ (getD_mem2 (l := mostV f s) hk)
    rw [pick_line hk, tt_line (by omega)]
    unfold listChk
    rw [if_neg (by simpa using hck)]
    exact (hg _ (by omega)).2
  have hT : turnE f cs (pickLn (lnK rows rows.length) (mostV f s)) = 0 := by unfold turnE; rw [if_neg (by simpa using hcc)]; exact hl
  refine ⟨hE, by rw [hm]; exact hmi.1, hL, hT, ?_, by rw [hm]; exact hall⟩
  unfold turnL
  rw [if_neg (by simpa using hT)]
  exact hst
end
end Go.Proofs.YtfbdklminljecaaGreatDoor
