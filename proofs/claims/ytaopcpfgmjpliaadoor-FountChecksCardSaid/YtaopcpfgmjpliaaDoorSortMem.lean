/-
  The stable sort of a bill's order, as it lies in memory.
-/
import Derived.Test.YtaopcpfgmjpliaaDoorSort
namespace Go.Proofs.YtaopcpfgmjpliaaDoor
open Go.RowKit Go.Shelf Go.Sort Go.Proofs

section
variable {α : Type} [Inhabited α] (lt : α → α → Bool)
theorem insInner_size (a : Nat) : ∀ (j : Nat) (d : Array α), (insInner lt a j d).size = d.size
  | 0, d => rfl
  | j + 1, d => by
    rw [insInner]
    split
    · rw [insInner_size a j]; simp [swp]
    · rfl
theorem insOuter_size (a b : Nat) : ∀ (n i : Nat) (d : Array α), b - i ≤ n → (insOuter lt a b i d).size = d.size
  | 0, i, d, h => by rw [insOuter, if_neg (by omega)]
  | n + 1, i, d, h => by
    rw [insOuter]
    split
    · rw [insOuter_size a b n (i + 1) _ (by omega), insInner_size]
    · rfl
theorem insertionSort_size (d : Array α) (a b : Nat) : (Sort.insertionSort lt d a b).size = d.size := insOuter_size lt a b _ _ d (Nat.le_refl _)
end

/-- The numbers 0 to n - 1. -/
def ids (n : Nat) : List Int := (List.range n).map Int.ofNat
theorem ids_len (n : Nat) : (ids n).length = n := by simp [ids]
theorem ids_at (n k : Nat) (h : k < n) : (ids n).getD k 0 = k := by
  unfold ids; rw [List.getD_eq_getElem?_getD, List.getElem?_map, List.getElem?_range h]; rfl
theorem ids_snoc (n : Nat) : ids (n + 1) = ids n ++ [(n : Int)] := by unfold ids; rw [List.range_succ, List.map_append]; rfl
/-- The order that the sort leaves. -/
def sortF (m : Nat) (cf : Fin (m + 1) → Fin (m + 1) → Int) : Array (Fin (m + 1)) := Sort.insertionSort (ltOf cf) (Array.ofFn id) 0 (m + 1)
def ordL (m : Nat) (cf : Fin (m + 1) → Fin (m + 1) → Int) : List Int := (sortF m cf).toList.map fun x => (x.val : Int)
theorem sortF_size (m : Nat) (cf : Fin (m + 1) → Fin (m + 1) → Int) : (sortF m cf).size = m + 1 := by unfold sortF; rw [insertionSort_size]; simp
theorem ordL_len (m : Nat) (cf : Fin (m + 1) → Fin (m + 1) → Int) : (ordL m cf).length = m + 1 := by unfold ordL; rw [List.length_map, Array.length_toList, sortF_size]
theorem ordL_at (m : Nat) (cf : Fin (m + 1) → Fin (m + 1) → Int) (k : Nat) (h : k < m + 1) : (ordL m cf).getD k 0 = ((sortF m cf)[k]!.val : Int) := by
  have hk : k < (sortF m cf).size := by rw [sortF_size]; exact h
  unfold ordL
  rw [List.getD_eq_getElem?_getD, List.getElem?_map, Array.getElem?_toList, Array.getElem?_eq_getElem hk, getElem!_pos _ k hk]; rfl
theorem ordL_bd (m : Nat) (cf : Fin (m + 1) → Fin (m + 1) → Int) (k : Nat) (h : k < m + 1) : ∃ j : Nat, j < m + 1 ∧ (ordL m cf).getD k 0 = j := ⟨_, (sortF m cf)[k]!.isLt, ordL_at m cf k h⟩

theorem holds_ids {w : World} {base g cap m : Nat} (hm : m + 1 ≤ 1000) (h : Own w base (.slice (some ⟨g, 0, none⟩) (m + 1) cap) (ids (m + 1))) : Holds (encF m) w g 0 (Array.ofFn (n := m + 1) id) := by
  intro j hj
  have hj' : j < m + 1 := by simpa using hj
  obtain ⟨A, c, hv, _, hr⟩ := h.form (by rw [ids_len]; omega)
  obtain ⟨hA, _, _⟩ := Value.slice.inj hv
  have hl : (ids (m + 1)).length = m + 1 := ids_len _
  obtain ⟨b, off, ha, _, hc⟩ := hr.2.2 (by omega)
  rw [← hA] at ha
  cases ha
  refine ⟨?_, ?_⟩
  · rw [hc j (by omega), ids_at _ _ hj']
    congr 1
    unfold encF
    rw [getElem!_pos _ j hj]
    simp
  · rcases h.2 with ⟨hv, _⟩ | ⟨g', cap', cur, hv, _, hb, _⟩
    · cases hv
    · obtain ⟨h1, _, _⟩ := Value.slice.inj hv
      cases h1
      simp [World.frozen?, hb]
theorem sortWorld_block {α : Type} [Inhabited α] (enc : α → Value) (w : World) (blk m : Nat) (dk : Array α) (os : Array Obj) {b : Nat} (hb : b < w.heap.size) (hne : b ≠ blk) : (sortWorld enc w blk 0 m dk os).heap[b]? = w.heap[b]? := by
  unfold sortWorld
  rw [heap_grow_old _ _ (by simpa [Sort.ahead] using hb)]
  simp [putRow, mapBlock, Sort.ahead, Array.getElem?_modify, Ne.symm hne]
theorem RI.block {w w' : World} {A : Option Addr} {n : Nat} {zs : List Int} (h : RI w A n zs) (hs : w.heap.size ≤ w'.heap.size) (hk : ∀ a, A = some a → a.block < w.heap.size → w'.heap[a.block]? = w.heap[a.block]?) : RI w' A n zs :=
  ⟨h.1, h.2.1, fun hn => by
    obtain ⟨b, off, ha, hb, hc⟩ := h.2.2 hn
    exact ⟨b, off, ha, Nat.lt_of_lt_of_le hb hs, fun k hk' => (World.cell?_of_block (a := ⟨b, off + k, none⟩) (hk ⟨b, off, none⟩ ha hb)).trans (hc k hk')⟩⟩

/-- The row at block g holds zs; nothing else has turned. -/
def RetSort (g n : Nat) (zs : List Int) (w : World) (e : Ending) (w' : World) : Prop := e = .returned (.tuple #[]) ∧ But [g] w w' ∧ RI w' (some ⟨g, 0, none⟩) n zs
def cfB (m : Nat) (total all : Int) (ns : List Int) (x y : Fin (m + 1)) : Int := diffB total all ns x.val y.val
theorem sortBill_any (m : Nat) (w : World) (base g cap : Nat) (b5 b4 b9 : Nat) (total all : Int) (X : Option Addr) (cx : Nat) (ns : List Int) (hn : ns.length = m + 1) (hm : m + 1 ≤ 19) (hown : Own w base (.slice (some ⟨g, 0, none⟩) (m + 1) cap) (ids (m + 1)))
    (h5 : w.cell? ⟨b5, 0, none⟩ = some (.int .i64 total)) (h4 : w.cell? ⟨b4, 0, none⟩ = some (.slice X ns.length cx)) (h9 : w.cell? ⟨b9, 0, none⟩ = some (.int .i64 all)) (hb5 : b5 < base) (hb4 : b4 < base) (hb9 : b9 < base) (hX : ∀ a, X = some a → a.block < base)
    (hr : RI w X ns.length ns) (ht : 0 ≤ total ∧ total ≤ 1000000) (ha : 1 ≤ all ∧ all ≤ 1000000000) (hns : ∀ k, k < ns.length → 0 ≤ ns.getD k 0 ∧ ns.getD k 0 ≤ 1000000) :
    Calls Tryd.prog 22 #[.slice (some ⟨g, 0, none⟩) (m + 1) cap, .func (.func 36) #[] #[.pointer (some ⟨b5, 0, none⟩), .pointer (some ⟨b4, 0, none⟩), .pointer (some ⟨b9, 0, none⟩)]] w
      (RetSort g (m + 1) (ordL m (cfB m total all ns)) w) := by
  have hH := holds_ids (by omega) hown
  have hgb := World.ownsRow.lt hown g rfl
  have hsz : (Array.ofFn (n := m + 1) id).size = m + 1 := by simp
  have lt_of : ∀ {b : Nat} {v : Value}, w.cell? ⟨b, 0, none⟩ = some v → b < w.heap.size := fun {b v} h => by
    rcases Nat.lt_or_ge b w.heap.size with hl | hl
    · exact hl
    · simp [World.cell?, Array.getElem?_eq_none hl] at h
  have hcmp : CmpReads Tryd.prog 36 #[.pointer (some ⟨b5, 0, none⟩), .pointer (some ⟨b4, 0, none⟩), .pointer (some ⟨b9, 0, none⟩)] (encF m) (cfB m total all ns) g 0 (Array.ofFn (n := m + 1) id).size w := by
    intro q os dk _ x y
    have far : ∀ {b : Nat} {v : Value}, w.cell? ⟨b, 0, none⟩ = some v → b < base → (sortWorld (encF m) w g 0 q dk os).cell? ⟨b, 0, none⟩ = some v := fun {b v} h hb =>
      (World.cell?_of_block (a := ⟨b, 0, none⟩) (sortWorld_block _ _ _ _ _ _ (lt_of h) (show b ≠ g by omega))).trans h
    have hsize : w.heap.size ≤ (sortWorld (encF m) w g 0 q dk os).heap.size := by simp [sortWorld, grow, putRow, mapBlock, Sort.ahead]
    exact billCmp_any _ b5 b4 b9 total all X cx ns x.val y.val (far h5 hb5) (far h4 hb4) (far h9 hb9) (hr.block hsize fun a hA hl => sortWorld_block _ _ _ _ _ _ hl (by have := hX a hA; omega)) (by omega) (by omega) ht ha hns
  have key := stable_any m (cfB m total all ns) 36 #[.pointer (some ⟨b5, 0, none⟩), .pointer (some ⟨b4, 0, none⟩), .pointer (some ⟨b9, 0, none⟩)] g cap (Array.ofFn (n := m + 1) id) w (fun _ _ => by kernel_rfl) hcmp hH (by omega)
  rw [hsz] at key
  refine key.mono fun e w' ⟨he, q, hw⟩ => ⟨he, ?_, ?_⟩
  · subst hw
    refine ⟨rfl, rfl, rfl, by simp [putRow, mapBlock, World.drewN], fun k hk hk' => ?_⟩
    have hne : g ≠ k := fun e => hk' (by simp [e])
    show (putRow _ _ _ _ _).heap[k]? = _
    simp [putRow, mapBlock, Array.getElem?_modify, hne]
  · subst hw
    refine ⟨ordL_len _ _, by omega, fun _ => ⟨g, 0, rfl, ?_, fun k hk => ?_⟩⟩
    · show g < (putRow _ _ _ _ _).heap.size
      simpa using hgb.2
    · show (putRow _ _ _ _ _).cell? _ = _
      rw [ordL_at _ _ _ hk]
      exact cell?_putRow (encF m) w g 0 (Array.ofFn (n := m + 1) id) (sortF m (cfB m total all ns)) hH (by rw [sortF_size, hsz]) k (by rw [sortF_size]; exact hk)
end Go.Proofs.YtaopcpfgmjpliaaDoor
