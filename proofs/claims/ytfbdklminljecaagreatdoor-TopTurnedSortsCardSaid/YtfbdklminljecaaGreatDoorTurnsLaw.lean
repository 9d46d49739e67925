/-
  Plain law: the sorts that lack in lines are just those that the fount counts.
-/
import Derived.Test.YtfbdklminljecaaGreatDoorGJ
import Derived.Test.YtfbdklminljecaaGreatDoorAddsLaw
namespace Go.Proofs.YtfbdklminljecaaGreatDoor
open Go.RowKit

/-- How often j stands in a list. -/
def cntI (j : Int) (l : List Int) : Int := (l.countP (· == j) : Nat)
theorem cntI_nil (j : Int) : cntI j [] = 0 := rfl
theorem cntI_snoc (j : Int) (l : List Int) (z : Int) : cntI j (l ++ [z]) = cntI j l + if z = j then 1 else 0 := by
  unfold cntI
  rw [List.countP_append]
  by_cases h : z = j <;> simp [h]
theorem cntI_bd (j : Int) (l : List Int) : 0 ≤ cntI j l ∧ cntI j l ≤ l.length := by
  unfold cntI
  have := List.countP_le_length (p := (· == j)) (l := l)
  omega
theorem take_snocI {l : List Int} {k : Nat} (h : k < l.length) : l.take (k + 1) = l.take k ++ [l.getD k 0] := by
  rw [List.take_succ_eq_append_getElem h, List.getD_eq_getElem?_getD, List.getElem?_eq_getElem h]; rfl
theorem need_cnt {n : Nat} {zs : List Int} {j : Nat} (hj : j < n) : ∀ k, k ≤ zs.length → (∀ i, i < k → 0 ≤ zs.getD i 0 ∧ zs.getD i 0 < n) → (needTo n zs k).getD j 0 = cntI j (zs.take k)
  | 0, _, _ => by rw [needTo, List.getD_eq_getElem?_getD, List.getElem?_replicate, if_pos hj]; rfl
  | k + 1, hk, h => by
    have ih := need_cnt hj k (by omega) fun i hi => h i (by omega)
    have hz := h k (by omega)
    rw [needTo, getD_set (by rw [needTo_len]; omega), take_snocI (by omega), cntI_snoc, ← ih]
    by_cases e : zs.getD k 0 = (j : Int)
    · rw [if_pos e, e, Int.toNat_natCast, if_pos rfl]
    · rw [if_neg e, if_neg (by omega), Int.add_zero]
/-- The sort at a place of lines. -/
def prSort (ls : List LN) (p : Nat × Nat) : Int := (lineZ ls p.1).getD p.2 0
/-- All sorts of the first k lines. -/
def allZ (ls : List LN) : Nat → List Int
  | 0 => []
  | k + 1 => allZ ls k ++ lineZ ls k
theorem allZ_len {ls : List LN} {N : Nat} (h : ∀ k, k < ls.length → (lineZ ls k).length ≤ N) : ∀ k, k ≤ ls.length → (allZ ls k).length ≤ k * N
  | 0, _ => by simp [allZ]
  | k + 1, hk => by have := allZ_len h k (by omega); have := h k (by omega); rw [allZ, List.length_append, Nat.succ_mul]; omega
theorem mem_getD2 {l : List Int} {z : Int} (h : z ∈ l) : ∃ k, k < l.length ∧ l.getD k 0 = z := by
  obtain ⟨k, hk, he⟩ := List.mem_iff_getElem.1 h
  exact ⟨k, hk, by rw [List.getD_eq_getElem?_getD, List.getElem?_eq_getElem hk]; simpa using he⟩
theorem getD_mem2 {l : List Int} {k : Nat} (h : k < l.length) : l.getD k 0 ∈ l := by
  rw [List.getD_eq_getElem?_getD, List.getElem?_eq_getElem h]; exact List.getElem_mem h
theorem allZ_ix {n : Nat} {ls : List LN} (h : ∀ i, i < ls.length → ∀ k, k < (lineZ ls i).length → 0 ≤ (lineZ ls i).getD k 0 ∧ (lineZ ls i).getD k 0 < n) : ∀ m, m ≤ ls.length → ∀ z ∈ allZ ls m, 0 ≤ z ∧ z < n
  | 0, _, z, hz => by simp [allZ] at hz
  | m + 1, hm, z, hz => by
    rw [allZ, List.mem_append] at hz
    rcases hz with h1 | h1
    · exact allZ_ix h m (by omega) z h1
    · obtain ⟨k, hk, rfl⟩ := mem_getD2 h1
      exact h m (by omega) k hk
/-- What is left and what lacks, behind the sorts done. -/
structure TrI (cs : List Int) (ls : List LN) (done : List Int) (p : List Int × List (Nat × Nat)) : Prop where
  len : p.1.length = cs.length
  left : ∀ j : Nat, j < cs.length → p.1.getD j 0 = max 0 (cs.getD j 0 - cntI j done)
  lack : ∀ j : Nat, j < cs.length → cntI j (p.2.map (prSort ls)) = max 0 (cntI j done - cs.getD j 0)
  ix : ∀ q ∈ p.2, 0 ≤ prSort ls q ∧ prSort ls q < cs.length
  at_ : ∀ q ∈ p.2, q.1 < ls.length ∧ q.2 < (lineZ ls q.1).length
theorem TrI.step {cs : List Int} {ls : List LN} {done : List Int} {p : List Int × List (Nat × Nat)} (h : TrI cs ls done p) {i k : Nat} (hi : i < ls.length) (hk : k < (lineZ ls i).length) (hz : 0 ≤ (lineZ ls i).getD k 0 ∧ (lineZ ls i).getD k 0 < cs.length) :
    TrI cs ls (done ++ [(lineZ ls i).getD k 0]) (trStep i k ((lineZ ls i).getD k 0) p) := by
  have hps : prSort ls (i, k) = (lineZ ls i).getD k 0 := rfl
  generalize (lineZ ls i).getD k 0 = z at *
  obtain ⟨m, rfl⟩ : ∃ m : Nat, z = m := ⟨z.toNat, by omega⟩
  have hm : m < cs.length := by omega
  have hl := h.left m hm
  have hlk := h.lack m hm
  unfold trStep
  rw [Int.toNat_natCast]
  by_cases h0 : p.1.getD m 0 = 0
  · rw [if_pos h0]
    refine ⟨h.len, fun j hj => ?_, fun j hj => ?_, fun q hq => ?_, fun q hq => ?_⟩
    · have := h.left j hj
      rw [this, cntI_snoc]
      by_cases e : (m : Int) = j
      · obtain rfl : m = j := by omega
        rw [if_pos rfl]; omega
      · rw [if_neg e, Int.add_zero]
    · have := h.lack j hj
      simp only [List.map_append, List.map_cons, List.map_nil]
      rw [cntI_snoc, cntI_snoc, hps, this]
      by_cases e : (m : Int) = j
      · obtain rfl : m = j := by omega
        rw [if_pos rfl]; omega
      · rw [if_neg e]; omega
    · rcases List.mem_append.1 hq with h1 | h1
      · exact h.ix q h1
      · rw [List.mem_singleton.1 h1, hps]; exact hz
    · rcases List.mem_append.1 hq with h1 | h1
      · exact h.at_ q h1
      · rw [List.mem_singleton.1 h1]; exact ⟨hi, hk⟩
  · rw [if_neg h0]
    refine ⟨by simpa using h.len, fun j hj => ?_, fun j hj => ?_, h.ix, h.at_⟩
    · have := h.left j hj
      simp only
      rw [getD_set (by rw [h.len]; exact hm), cntI_snoc]
      by_cases e : m = j
      · subst e
        rw [if_pos rfl, if_pos rfl]; omega
      · rw [if_neg (fun q => e (by omega)), if_neg (by omega), this]; omega
    · have := h.lack j hj
      simp only
      rw [cntI_snoc, this]
      by_cases e : (m : Int) = j
      · obtain rfl : m = j := by omega
        rw [if_pos rfl]; omega
      · rw [if_neg e]; omega
theorem TrI.line {cs : List Int} {ls : List LN} {done : List Int} {p : List Int × List (Nat × Nat)} (h : TrI cs ls done p) {i : Nat} (hi : i < ls.length) (hz : ∀ k, k < (lineZ ls i).length → 0 ≤ (lineZ ls i).getD k 0 ∧ (lineZ ls i).getD k 0 < cs.length) : ∀ k, k ≤ (lineZ ls i).length → TrI cs ls (done ++ (lineZ ls i).take k) (trLine i (lineZ ls i) p k)
  | 0, _ => by simpa [trLine] using h
  | k + 1, hk => by
    have := (TrI.line h hi hz k (by omega)).step hi (k := k) (by omega) (hz k (by omega))
    rwa [List.append_assoc, ← take_snocI (by omega)] at this
theorem trTo_inv {cs : List Int} {ls : List LN} (h0 : ∀ j, j < cs.length → 0 ≤ cs.getD j 0) (hz : ∀ i, i < ls.length → ∀ k, k < (lineZ ls i).length → 0 ≤ (lineZ ls i).getD k 0 ∧ (lineZ ls i).getD k 0 < cs.length) : ∀ m, m ≤ ls.length → TrI cs ls (allZ ls m) (trTo ls cs m)
  | 0, _ => ⟨rfl, fun j hj => by have := h0 j hj; simp only [trTo, allZ, cntI_nil]; omega, fun j hj => by have := h0 j hj; simp only [trTo, allZ, List.map_nil, cntI_nil]; omega, fun q hq => by simp [trTo] at hq, fun q hq => by simp [trTo] at hq⟩
  | m + 1, hm => by
    have := (trTo_inv h0 hz m (by omega)).line (i := m) (by omega) (hz m (by omega)) _ (Nat.le_refl _)
    rwa [List.take_length] at this
/-- The sorts that lack are counted. -/
def seenR (cs : List Int) (ls : List LN) (ps : List (Nat × Nat)) : List Int := needTo cs.length (ps.map (prSort ls)) ps.length
theorem turns_law {cs : List Int} {ls : List LN} (h0 : ∀ j, j < cs.length → 0 ≤ cs.getD j 0) (hz : ∀ i, i < ls.length → ∀ k, k < (lineZ ls i).length → 0 ≤ (lineZ ls i).getD k 0 ∧ (lineZ ls i).getD k 0 < cs.length) :
    zipK lacksI cs (needTo cs.length (allZ ls ls.length) (allZ ls ls.length).length) = seenR cs ls (trTo ls cs ls.length).2 := by
  have hI := trTo_inv h0 hz ls.length (Nat.le_refl _)
  unfold seenR
  refine list_ext_getD (by rw [zipK_len, needTo_len]) fun j hj => ?_
  rw [zipK_len] at hj
  rw [zipK_at _ _ _ _ hj, need_cnt hj _ (Nat.le_refl _) (fun i hi => allZ_ix hz ls.length (Nat.le_refl _) _ (getD_mem2 hi)), List.take_length]
  have hml : (List.map (prSort ls) (trTo ls cs ls.length).2).length = (trTo ls cs ls.length).2.length := by simp
  rw [need_cnt hj _ (by rw [hml]; exact Nat.le_refl _) (fun i hi => ?_), ← hml, List.take_length, hI.lack j hj]
  · unfold lacksI; rfl
  · have h1 := getD_mem2 (l := List.map (prSort ls) (trTo ls cs ls.length).2) (k := i) (by rw [hml]; exact hi)
    obtain ⟨q, hq, he⟩ := List.mem_map.1 h1
    rw [← he]; exact hI.ix q hq
end Go.Proofs.YtfbdklminljecaaGreatDoor
