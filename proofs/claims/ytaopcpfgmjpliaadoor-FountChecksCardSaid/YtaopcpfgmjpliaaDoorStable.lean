/-
  Plain law: the library's insertion sort of the numbers 0 to m by keys: their order, equal keys by number.
-/
import Derived.Test.YtaopcpfgmjpliaaDoorSortMem
import Derived.Sort.LotA
namespace Go.Proofs.YtaopcpfgmjpliaaDoor
open Go.Shelf Go.Sort Go.Proofs
section
variable {m : Nat} (lt : Fin (m + 1) → Fin (m + 1) → Bool)
/-- By lt, then by number. -/
def tieB (x y : Fin (m + 1)) : Bool := lt x y || (!lt y x && decide (x.val < y.val))
theorem ins_same : ∀ (j : Nat) (d : Array (Fin (m + 1))), j < d.size → (∀ k, k < j → (d[k]!).val < (d[j]!).val) → insInner lt 0 j d = insInner (tieB lt) 0 j d
  | 0, _, _, _ => rfl
  | j + 1, d, hj, h => by
    have hlt := h j (by omega)
    have e : tieB lt d[j + 1]! d[j]! = lt d[j + 1]! d[j]! := by
      unfold tieB; rw [decide_eq_false (by omega), Bool.and_false, Bool.or_false]
    rw [insInner, insInner, e]
    split
    · refine ins_same j _ (by rw [swp_size]; omega) fun k hk => ?_
      rw [swp_other d (j + 1) j k (by omega) (by omega), swp_right d (j + 1) j (by omega)]
      exact h k (by omega)
    · rfl
theorem ins_in : ∀ (j : Nat) (d : Array (Fin (m + 1))), j < d.size → (∀ p, j < p → (insInner lt 0 j d)[p]! = d[p]!) ∧ (∀ p, p ≤ j → ∃ q, q ≤ j ∧ (insInner lt 0 j d)[p]! = d[q]!)
  | 0, _, _ => ⟨fun _ _ => rfl, fun p hp => ⟨p, hp, rfl⟩⟩
  | j + 1, d, hj => by
    rw [insInner]
    split
    · obtain ⟨h1, h2⟩ := ins_in j (swp d (j + 1) j) (by rw [swp_size]; omega)
      refine ⟨fun p hp => ?_, fun p hp => ?_⟩
      · rw [h1 p (by omega), swp_other _ _ _ _ (by omega) (by omega)]
      · by_cases e : p = j + 1
        · subst e
          refine ⟨j, by omega, ?_⟩
          rw [h1 (j + 1) (by omega), swp_left d (j + 1) j hj (by omega)]
        · obtain ⟨q, hq, hv⟩ := h2 p (by omega)
          rw [hv]
          by_cases eq : q = j
          · subst eq; exact ⟨q + 1, by omega, swp_right d (q + 1) q (by omega)⟩
          · exact ⟨q, by omega, swp_other d (j + 1) j q (by omega) (by omega)⟩
    · exact ⟨fun _ _ => rfl, fun p hp => ⟨p, hp, rfl⟩⟩
theorem outer_same (b : Nat) : ∀ (n i : Nat) (d : Array (Fin (m + 1))), b - i = n → b ≤ d.size → (∀ p q, p < q → i ≤ q → q < b → (d[p]!).val < (d[q]!).val) → insOuter lt 0 b i d = insOuter (tieB lt) 0 b i d
  | 0, i, d, hn, _, _ => by
    have e1 : insOuter lt 0 b i d = d := by rw [insOuter, if_neg (by omega)]
    have e2 : insOuter (tieB lt) 0 b i d = d := by rw [insOuter, if_neg (by omega)]
    rw [e1, e2]
  | n + 1, i, d, hn, hb, h => by
    have e1 : insOuter lt 0 b i d = insOuter lt 0 b (i + 1) (insInner lt 0 i d) := by rw [insOuter, if_pos (by omega)]
    have e2 : insOuter (tieB lt) 0 b i d = insOuter (tieB lt) 0 b (i + 1) (insInner (tieB lt) 0 i d) := by rw [insOuter, if_pos (by omega)]
    rw [e1, e2, ins_same lt i d (by omega) (fun k hk => h k i hk (Nat.le_refl _) (by omega))]
    refine outer_same b n (i + 1) _ (by omega) (by rw [insInner_size]; exact hb) fun p q hpq hq hqb => ?_
    obtain ⟨h1, h2⟩ := ins_in (tieB lt) i d (by omega)
    rw [h1 q (by omega)]
    by_cases hp : p ≤ i
    · obtain ⟨r, hr, hv⟩ := h2 p hp
      rw [hv]; exact h r q (by omega) (by omega) hqb
    · rw [h1 p (by omega)]; exact h p q hpq (by omega) hqb
theorem sort_same (d : Array (Fin (m + 1))) (h : ∀ p q, p < q → q < d.size → (d[p]!).val < (d[q]!).val) : Sort.insertionSort lt d 0 d.size = Sort.insertionSort (tieB lt) d 0 d.size :=
  outer_same lt d.size _ 1 d rfl (Nat.le_refl _) (fun p q hpq _ hq => h p q hpq hq)
end
section
variable {m : Nat} (key : Fin (m + 1) → Int)
def byKey (x y : Fin (m + 1)) : Bool := decide (key x < key y)
theorem tieB_iff (x y : Fin (m + 1)) : tieB (byKey key) x y = true ↔ key x < key y ∨ (key x = key y ∧ x.val < y.val) := by
  unfold tieB byKey
  simp only [Bool.or_eq_true, Bool.and_eq_true, Bool.not_eq_true', decide_eq_true_eq, decide_eq_false_iff_not]
  omega
theorem tieB_false (x y : Fin (m + 1)) : tieB (byKey key) x y = false ↔ ¬ (key x < key y ∨ (key x = key y ∧ x.val < y.val)) := by rw [← tieB_iff, Bool.not_eq_true]
theorem tieB_swo : SWO (tieB (byKey key)) :=
  ⟨fun x => (tieB_false key x x).2 (by omega), fun x y z h1 h2 => by rw [tieB_iff] at h1 h2 ⊢; omega, fun x y z h1 h2 => by rw [tieB_false] at h1 h2 ⊢; omega⟩
/-- What the sort leaves of rising numbers: a permutation, by keys, equal keys by number. -/
theorem sort_spec (d : Array (Fin (m + 1))) (h : ∀ p q, p < q → q < d.size → (d[p]!).val < (d[q]!).val) :
    (Sort.insertionSort (byKey key) d 0 d.size).size = d.size ∧ (Sort.insertionSort (byKey key) d 0 d.size).toList.Perm d.toList ∧
    ∀ i j, i < j → j < d.size → key (Sort.insertionSort (byKey key) d 0 d.size)[i]! < key (Sort.insertionSort (byKey key) d 0 d.size)[j]! ∨ (key (Sort.insertionSort (byKey key) d 0 d.size)[i]! = key (Sort.insertionSort (byKey key) d 0 d.size)[j]! ∧ (Sort.insertionSort (byKey key) d 0 d.size)[i]!.val < (Sort.insertionSort (byKey key) d 0 d.size)[j]!.val) := by
  rw [sort_same (byKey key) d h]
  obtain ⟨⟨h1, _, h3⟩, h4⟩ := insertionSort_holds (lt := tieB (byKey key)) (tieB_swo key) d 0 d.size (Nat.zero_le _) (Nat.le_refl _)
  generalize Sort.insertionSort (tieB (byKey key)) d 0 d.size = e at *
  have hperm : e.toList.Perm d.toList := by
    have e1 : (e.extract 0 d.size) = e := by rw [← h1]; simp
    rw [e1] at h3
    simpa using h3
  refine ⟨h1, hperm, fun i j hij hj => ?_⟩
  have hs := (tieB_false key _ _).1 (h4 i j (Nat.zero_le _) hij hj)
  have hnd : d.toList.Nodup := by
    refine List.pairwise_iff_getElem.2 fun p q hp hq hpq he => ?_
    have hq' : q < d.size := by simpa using hq
    have := h p q hpq hq'
    rw [getElem!_pos d p (by omega), getElem!_pos d q hq'] at this
    simp only [Array.getElem_toList] at he
    rw [he] at this
    omega
  have hne : e[i]!.val ≠ e[j]!.val := by
    have hnd2 := List.pairwise_iff_getElem.1 (hperm.nodup_iff.2 hnd) i j (by simp; omega) (by simp; omega) hij
    simp only [Array.getElem_toList] at hnd2
    rw [getElem!_pos e i (by omega), getElem!_pos e j (by omega)]
    intro hv
    exact hnd2 (Fin.ext hv)
  omega
end
/-- An order of the numbers below n, by keys, equal keys by number. -/
structure Ord (n : Nat) (key : Nat → Int) (ord : List Int) : Prop where
  ix : ∀ t, t < n → ∃ j : Nat, j < n ∧ ord.getD t 0 = j
  all : ∀ j, j < n → ∃ t, t < n ∧ ord.getD t 0 = (j : Int)
  perm : ord.Perm (ids n)
  asc : ∀ s t, s < t → t < n → key (ord.getD s 0).toNat < key (ord.getD t 0).toNat ∨ (key (ord.getD s 0).toNat = key (ord.getD t 0).toNat ∧ ord.getD s 0 < ord.getD t 0)
theorem ofFn_rise (m : Nat) : ∀ p q, p < q → q < (Array.ofFn (n := m + 1) id).size → ((Array.ofFn (n := m + 1) id)[p]!).val < ((Array.ofFn (n := m + 1) id)[q]!).val := by
  intro p q hpq hq
  rw [getElem!_pos _ p (by omega), getElem!_pos _ q hq]
  simpa using hpq
theorem ordL_ord (m : Nat) (cf : Fin (m + 1) → Fin (m + 1) → Int) (key : Nat → Int) (h : ∀ x y, cf x y < 0 ↔ key x.val < key y.val) : Ord (m + 1) key (ordL m cf) := by
  have hlt : ltOf cf = byKey (fun x => key x.val) := by
    funext x y
    unfold ltOf byKey
    exact decide_eq_decide.2 (h x y)
  have hsz : (Array.ofFn (n := m + 1) id).size = m + 1 := by simp
  obtain ⟨_, h2, h3⟩ := sort_spec (fun x : Fin (m + 1) => key x.val) (Array.ofFn (n := m + 1) id) (ofFn_rise m)
  rw [hsz, ← hlt] at h2 h3
  change (sortF m cf).toList.Perm _ at h2
  have hp : (ordL m cf).Perm (ids (m + 1)) := by
    have := h2.map (fun x : Fin (m + 1) => (x.val : Int))
    have e : (Array.ofFn (n := m + 1) id).toList.map (fun x : Fin (m + 1) => (x.val : Int)) = ids (m + 1) := by
      unfold ids
      apply List.ext_getElem (by simp)
      intro i h1 h2
      simp only [List.getElem_map, Array.getElem_toList, Array.getElem_ofFn, List.getElem_range]
      rfl
    rw [e] at this
    exact this
  refine ⟨fun t ht => ordL_bd m cf t ht, fun j hj => ?_, hp, fun s t hst ht => ?_⟩
  · have hm : (⟨j, hj⟩ : Fin (m + 1)) ∈ (sortF m cf).toList := h2.mem_iff.2 (by
      rw [Array.mem_toList_iff, Array.mem_ofFn]; exact ⟨⟨j, hj⟩, rfl⟩)
    obtain ⟨t, ht, he⟩ := List.getElem_of_mem hm
    have ht' : t < m + 1 := by have := ht; rw [Array.length_toList, sortF_size] at this; exact this
    refine ⟨t, ht', ?_⟩
    rw [ordL_at m cf t ht', getElem!_pos _ t (by rw [sortF_size]; exact ht')]
    have : (sortF m cf)[t]'(by rw [sortF_size]; exact ht') = ⟨j, hj⟩ := he
    rw [this]
  · have := h3 s t hst ht
    rw [ordL_at m cf s (by omega), ordL_at m cf t ht, Int.toNat_natCast, Int.toNat_natCast]
    change key (sortF m cf)[s]!.val < key (sortF m cf)[t]!.val ∨ (key (sortF m cf)[s]!.val = key (sortF m cf)[t]!.val ∧ (sortF m cf)[s]!.val < (sortF m cf)[t]!.val) at this
    omega
end Go.Proofs.YtaopcpfgmjpliaaDoor
