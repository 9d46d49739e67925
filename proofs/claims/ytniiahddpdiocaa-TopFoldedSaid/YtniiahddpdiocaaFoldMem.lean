/-
  Leaves in memory; slices.Clone and slices.Reverse of leaves.
-/
import Derived.Test.YtniiahddpdiocaaCells
import Derived.Test.YtniiahddpdiocaaFoldLaw2
namespace Go.Proofs.Ytniiahddpdiocaa
open Go.RowKit

def lfCells : List Lf → List Value
  | [] => []
  | x :: l => .int .i64 x.c :: .int .i64 x.r :: .int .i64 x.o :: .int .i64 x.u :: lfCells l
theorem lfCells_len : ∀ l : List Lf, (lfCells l).length = l.length * 4
  | [] => rfl
  | x :: l => by simp [lfCells, lfCells_len l]; omega
theorem lfCells_app : ∀ a b : List Lf, lfCells (a ++ b) = lfCells a ++ lfCells b
  | [], _ => rfl
  | x :: a, b => by simp [lfCells, lfCells_app a b]
theorem lfCells_one : ∀ (l : List Lf) (u : Value), u ∈ lfCells l → u.oneCell' = true
  | [], u, h => by simp [lfCells] at h
  | x :: l, u, h => by
    simp only [lfCells, List.mem_cons] at h
    rcases h with rfl | rfl | rfl | rfl | h
    · rfl
    · rfl
    · rfl
    · rfl
    · exact lfCells_one l u h
theorem lfCells_at : ∀ (l : List Lf) (k : Nat), k < l.length → (lfCells l)[k * 4]? = some (.int .i64 (l.getD k Lf.zero).c) ∧ (lfCells l)[k * 4 + 1]? = some (.int .i64 (l.getD k Lf.zero).r) ∧
    (lfCells l)[k * 4 + 2]? = some (.int .i64 (l.getD k Lf.zero).o) ∧ (lfCells l)[k * 4 + 3]? = some (.int .i64 (l.getD k Lf.zero).u)
  | x :: l, 0, _ => ⟨rfl, rfl, rfl, rfl⟩
  | x :: l, k + 1, h => by
    have h0 := lfCells_at l k (by simpa using h)
    rw [show (k + 1) * 4 = k * 4 + 4 by omega]
    exact h0
theorem lfCells_set : ∀ (l : List Lf) (k : Nat) (x : Lf), k < l.length → lfCells (l.set k x) = ((((lfCells l).set (k * 4) (.int .i64 x.c)).set (k * 4 + 1) (.int .i64 x.r)).set (k * 4 + 2) (.int .i64 x.o)).set (k * 4 + 3) (.int .i64 x.u)
  | y :: l, 0, x, _ => rfl
  | y :: l, k + 1, x, h => by
    have h0 := lfCells_set l k x (by simpa using h)
    rw [show (k + 1) * 4 = k * 4 + 4 by omega]
    rw [List.set_cons_succ, lfCells, h0]
    rfl
theorem leafElt : Elt 86 90 4 32 (.agg #[.int .i64 0, .int .i64 0, .int .i64 0, .int .i64 0]) := ⟨Try.underlying86, by kernel_rfl, rfl, by decide, by decide⟩
/-- A slice of leaves reads as l. -/
def RLf (w : World) (A : Option Addr) (l : List Lf) : Prop := RC w A l.length 4 (lfCells l)
/-- A slice of leaves of one's own. -/
def OLf (w : World) (base : Nat) (v : Value) (l : List Lf) : Prop := w.ownsRow base 90 4 v l.length (lfCells l)
theorem RLf.ext {w w' : World} {A : Option Addr} {l : List Lf} (h : RLf w A l) (hx : Ext w w') : RLf w' A l := RC.ext h hx
theorem OLf.ext {w w' : World} {base : Nat} {v : Value} {l : List Lf} (h : OLf w base v l) (hx : Ext w w') : OLf w' base v l := own_later h hx
theorem OLf.form {w : World} {base : Nat} {v : Value} {l : List Lf} (h : OLf w base v l) (hn : l.length ≤ 1000000) : ∃ A c, v = .slice A l.length c ∧ RLf w A l := own_form h hn
theorem OLf.nil (w : World) (base : Nat) : OLf w base (.slice none 0 0) [] := World.ownsRow_nil _ _ _ _
/-- The four cells of a leaf. -/
theorem RLf.at_ {w : World} {A : Option Addr} {l : List Lf} (h : RLf w A l) {k : Nat} (hk : k < l.length) : ∃ b off, A = some ⟨b, off, none⟩ ∧ b < w.heap.size ∧ w.cell? ⟨b, off + k * 4, none⟩ = some (.int .i64 (l.getD k Lf.zero).c) ∧ w.cell? ⟨b, off + k * 4 + 1, none⟩ = some (.int .i64 (l.getD k Lf.zero).r) ∧
    w.cell? ⟨b, off + k * 4 + 2, none⟩ = some (.int .i64 (l.getD k Lf.zero).o) ∧ w.cell? ⟨b, off + k * 4 + 3, none⟩ = some (.int .i64 (l.getD k Lf.zero).u) := by
  obtain ⟨b, off, rfl, hb, hc⟩ := h.2.2 (by omega)
  obtain ⟨h0, h1, h2, h3⟩ := lfCells_at l k hk
  exact ⟨b, off, rfl, hb, hc _ _ h0, by rw [Nat.add_assoc]; exact hc _ _ h1, by rw [Nat.add_assoc]; exact hc _ _ h2, by rw [Nat.add_assoc]; exact hc _ _ h3⟩
/-- A call's answer: leaves of its own. -/
def RetLf (l : List Lf) (w : World) (e : Ending) (w' : World) : Prop := ∃ v, e = .returned v ∧ OLf w' w.heap.size v l ∧ Ext w w'
theorem OLf.lit0 (w : World) : OLf (w.alloc (.cells #[] 90)) w.heap.size (.slice (some ⟨w.heap.size, 0, none⟩) 0 0) [] :=
  World.ownsRow_lit (e := 90) (size := 4) w #[] 0 (Nat.le_refl _) (by unfold maxLen; omega) rfl
set_option maxRecDepth 100000 in
set_option maxHeartbeats 1000000 in
theorem cloneLf_any (A : Option Addr) (c : Nat) (l : List Lf) (w : World) (h : RLf w A l) (hn : l.length ≤ 100000) :
    Calls Try.prog 88 #[.slice A l.length c] w (RetLf l w) := by
  have HR := Lib.hid h
  have q22 : ∀ (W : World) (a : Option Addr) (n c n' c' : Nat), (binOp .eql 86 (.slice a n c) (.slice none n' c')).run Try.prog W = .ok (.bool a.isNone) W := fun W a n c n' c' => Lib.run_eql_slice_nil W _ _ a n c n' c' Try.underlying86
  rcases A with _ | ad
  · have h0 : l = [] := by
      rcases Nat.eq_zero_or_pos l.length with h0 | h0
      · exact List.eq_nil_of_length_eq_zero h0
      · obtain ⟨b, off, h1, _⟩ := h.2.2 h0
        cases h1
    subst h0
    clear h HR
    go_enter Try.func88, Try.ntmps88
    go_wp2
    go_ret
    exact ⟨_, rfl, OLf.nil _ _, Ext.refl _⟩
  · clear h
    go_enter Try.func88, Try.ntmps88
    go_wp2_with (first | (at_builtin; refine list_appendC leafElt rfl (.tmp 5) (.tmp 6) rfl w.heap.size 0 _ [] rfl (OLf.lit0 w) (some ad) l.length c (lfCells l) rfl (HR.out.ext (by repeat (first | exact Ext.refl _ | assumption | refine Ext.alloc ?_ _ | refine Ext.drew ?_ | refine Ext.drewN ?_ _ | (refine Ext.setCell ?_ (by simp <;> omega) _) | refine Ext.trans ?_ (by assumption)))) (lfCells_one l) (by omega) (by simp) ?_; intro v' w' ho hg; have HO := Lib.hid ho; have HX := Lib.hid (own_grown (OLf.lit0 w) hg (by repeat (first | exact Ext.refl _ | assumption | refine Ext.alloc ?_ _ | refine Ext.drew ?_ | refine Ext.drewN ?_ _ | (refine Ext.setCell ?_ (by simp <;> omega) _) | refine Ext.trans ?_ (by assumption))) (Nat.le_refl _)); clear ho hg))
    go_ret
    refine ⟨_, rfl, ?_, HX.out⟩
    have := HO.out
    simpa [OLf] using this
/-- The list behind k exchanges. -/
def revK (l : List Lf) (k : Nat) : List Lf := (List.range l.length).map fun p => if p < k ∨ l.length - k ≤ p then l.getD (l.length - 1 - p) Lf.zero else l.getD p Lf.zero
theorem revK_len (l : List Lf) (k : Nat) : (revK l k).length = l.length := by unfold revK; simp
theorem revK_at (l : List Lf) (k p : Nat) (hp : p < l.length) : (revK l k)[p]? = some (if p < k ∨ l.length - k ≤ p then l.getD (l.length - 1 - p) Lf.zero else l.getD p Lf.zero) := by
  unfold revK
  rw [List.getElem?_map, List.getElem?_range hp]; rfl
theorem lget {l : List Lf} {p : Nat} (hp : p < l.length) : l[p]? = some (l.getD p Lf.zero) := by
  rw [List.getD_eq_getElem?_getD, List.getElem?_eq_getElem hp]; rfl
theorem revK_zero (l : List Lf) : revK l 0 = l := by
  apply List.ext_getElem?
  intro p
  by_cases hp : p < l.length
  · rw [revK_at l 0 p hp, if_neg (by omega), lget hp]
  · rw [List.getElem?_eq_none (by rw [revK_len]; omega), List.getElem?_eq_none (by omega)]
theorem revK_next {l : List Lf} {k : Nat} (h : k < l.length - 1 - k) : revK l (k + 1) = ((revK l k).set k (l.getD (l.length - 1 - k) Lf.zero)).set (l.length - 1 - k) (l.getD k Lf.zero) := by
  apply List.ext_getElem?
  intro p
  by_cases hp : p < l.length
  · rw [revK_at l (k + 1) p hp, List.getElem?_set]
    by_cases h1 : l.length - 1 - k = p
    · rw [if_pos h1, if_pos (c := l.length - 1 - k < _) (by rw [List.length_set, revK_len]; omega), if_pos (show p < k + 1 ∨ l.length - (k + 1) ≤ p by omega)]
      have e : l.length - 1 - p = k := by omega
      rw [e]
    · rw [if_neg h1, List.getElem?_set]
      by_cases h2 : k = p
      · subst h2
        rw [if_pos rfl, if_pos (c := k < (revK l k).length) (by rw [revK_len]; omega), if_pos (show k < k + 1 ∨ l.length - (k + 1) ≤ k by omega)]
      · rw [if_neg h2, revK_at l k p hp]
        by_cases h3 : p < k ∨ l.length - k ≤ p
        · rw [if_pos h3, if_pos (by omega)]
        · rw [if_neg h3, if_neg (by omega)]
  · rw [List.getElem?_eq_none (by rw [revK_len]; omega), List.getElem?_eq_none (by simp [revK_len]; omega)]
theorem revK_end {l : List Lf} {k : Nat} (h : ¬ k < l.length - 1 - k) : revK l k = l.reverse := by
  apply List.ext_getElem?
  intro p
  by_cases hp : p < l.length
  · rw [revK_at l k p hp, List.getElem?_reverse hp]
    by_cases h3 : p < k ∨ l.length - k ≤ p
    · rw [if_pos h3, lget (by omega)]
    · rw [if_neg h3]
      have e : l.length - 1 - p = p := by omega
      rw [e, lget hp]
  · rw [List.getElem?_eq_none (by rw [revK_len]; omega), List.getElem?_eq_none (by simp; omega)]
theorem revK_k {l : List Lf} {k : Nat} (h : k < l.length - 1 - k) : (revK l k).getD k Lf.zero = l.getD k Lf.zero ∧ (revK l k).getD (l.length - 1 - k) Lf.zero = l.getD (l.length - 1 - k) Lf.zero := by
  constructor
  · rw [List.getD_eq_getElem?_getD, revK_at l k k (by omega), if_neg (by omega)]; rfl
  · rw [List.getD_eq_getElem?_getD, revK_at l k _ (by omega), if_neg (by omega)]; rfl
/-- A leaf is laid into a slice of one's own. -/
theorem OLf.set_ {w : World} {base g cap : Nat} {l : List Lf} (h : OLf w base (.slice (some ⟨g, 0, none⟩) l.length cap) l) (k : Nat) (x : Lf) (hk : k < l.length) :
    OLf ((((w.setCell ⟨g, k * 4, none⟩ (.int .i64 x.c)).setCell ⟨g, k * 4 + 1, none⟩ (.int .i64 x.r)).setCell ⟨g, k * 4 + 2, none⟩ (.int .i64 x.o)).setCell ⟨g, k * 4 + 3, none⟩ (.int .i64 x.u)) base (.slice (some ⟨g, 0, none⟩) l.length cap) (l.set k x) := by
  unfold OLf
  rw [lfCells_set l k x hk, List.length_set]
  exact (World.ownsRow.stored (World.ownsRow.stored (World.ownsRow.stored (World.ownsRow.stored h (k * 4) _).1 (k * 4 + 1) _).1 (k * 4 + 2) _).1 (k * 4 + 3) _).1
end Go.Proofs.Ytniiahddpdiocaa
