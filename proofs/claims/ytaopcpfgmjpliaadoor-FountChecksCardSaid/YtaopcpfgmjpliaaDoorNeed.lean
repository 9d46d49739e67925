/-
  Walks: NeedOf; the reference's error of a list, its width and its need.
-/
import Derived.Test.YtaopcpfgmjpliaaDoorTextOf
import Derived.Test.YtaopcpfgmjpliaaDoorBox
import Derived.Deep.RegionHeld3
import Derived.StillTailTactics
namespace Go.Proofs.YtaopcpfgmjpliaaDoor
open Go.RowKit

/-- How often each of n sorts stands among the first of a list. -/
def needTo (n : Nat) (zs : List Int) : Nat → List Int
  | 0 => List.replicate n 0
  | k + 1 => (needTo n zs k).set (zs.getD k 0).toNat ((needTo n zs k).getD (zs.getD k 0).toNat 0 + 1)
theorem needTo_len (n : Nat) (zs : List Int) : ∀ k, (needTo n zs k).length = n
  | 0 => by simp [needTo]
  | k + 1 => by rw [needTo, List.length_set, needTo_len n zs k]
theorem needTo_bd (n : Nat) (zs : List Int) : ∀ k j, j < n → 0 ≤ (needTo n zs k).getD j 0 ∧ (needTo n zs k).getD j 0 ≤ k
  | 0, j, hj => by
    rw [needTo, List.getD_eq_getElem?_getD, List.getElem?_replicate, if_pos hj]; simp
  | k + 1, j, hj => by
    have ih := needTo_bd n zs k j hj
    rw [needTo]
    by_cases h : (zs.getD k 0).toNat < n
    · rw [getD_set (by rw [needTo_len]; exact h)]
      split
      · have := needTo_bd n zs k _ h; omega
      · omega
    · rw [List.set_eq_of_length_le (by rw [needTo_len]; omega)]; omega
def needR (f : FT) (zs : List Int) : List Int × Int := if listChk f zs ≠ 0 then ([], listChk f zs) else (needTo f.sorts.length zs zs.length, 0)
theorem needSL {w w0 : World} {base g n : Nat} {zs : List Int} (h : Own w base (.slice (some ⟨g, 0, none⟩) n n) zs) (hl : zs.length = n) (hn : n ≤ 1000000) (hb : w0.heap.size ≤ base) : SL w w0.heap.size (some ⟨g, 0, none⟩) n zs := by
  subst hl
  obtain ⟨A, c', he, hc, hr⟩ := h.form (by omega)
  obtain ⟨e1, _, e3⟩ := Value.slice.inj he
  subst e1 e3
  exact SL.mono ⟨h, hr, hc⟩ hb
/-- A list of sorts of a fount. -/
structure Good (n : Nat) (zs : List Int) : Prop where
  few : zs.length ≤ 10000
  ix : ∀ k, k < zs.length → 0 ≤ zs.getD k 0 ∧ zs.getD k 0 < n
theorem Good.of {n : Nat} {zs : List Int} (h : listErr n zs = 0) : Good n zs := ⟨(listErr_zero h).1, (listErr_zero h).2⟩
end Go.Proofs.YtaopcpfgmjpliaaDoor
