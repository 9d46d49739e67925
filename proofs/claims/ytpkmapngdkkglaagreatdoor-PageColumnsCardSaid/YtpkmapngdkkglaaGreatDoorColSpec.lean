/-
  Plain law: the widths of columns.
-/
import Derived.Test.YtpkmapngdkkglaaGreatDoorColMem
import Derived.Test.YtpkmapngdkkglaaGreatDoorGF
namespace Go.Proofs.YtpkmapngdkkglaaGreatDoor
open Go.RowKit

/-- The error of row k. -/
def rowE (m : Nat) (xs : List S3) (k : Nat) : Int := if rlen xs k ≠ rlen xs 0 then 10 else if 60 < rlen xs k then 8 else firstE (fun i => listErr m (cz xs k i)) (rlen xs k)
/-- The error of rows of a right fount. -/
def colE (m : Nat) (xs : List S3) : Int := if 60 < xs.length then 8 else firstE (rowE m xs) xs.length
/-- The width of a cell. -/
def wdt (ss : List TS) (xs : List S3) (k i : Nat) : Int := widthTo ss (cz xs k i) (cz xs k i).length
/-- The first columns are widened. -/
def upd (ws : Nat → Int) (out : List Int) : Nat → List Int
  | 0 => out
  | k + 1 => (upd ws out k).set k (max ((upd ws out k).getD k 0) (ws k))
def colV (ss : List TS) (xs : List S3) : Nat → List Int
  | 0 => []
  | i + 1 => upd (wdt ss xs i) (if i = 0 then List.replicate (rlen xs 0) 0 else colV ss xs i) (rlen xs 0)
def colL (ss : List TS) (xs : List S3) : List Int := if colE ss.length xs ≠ 0 then [] else colV ss xs xs.length
theorem upd_len (ws : Nat → Int) (out : List Int) : ∀ k, (upd ws out k).length = out.length
  | 0 => rfl
  | k + 1 => by rw [upd, List.length_set, upd_len ws out k]
theorem colV_len (ss : List TS) (xs : List S3) : ∀ i, 0 < i → (colV ss xs i).length = rlen xs 0
  | 1, _ => by rw [colV, upd_len, if_pos rfl]; simp
  | i + 2, _ => by rw [colV, upd_len, if_neg (by omega), colV_len ss xs (i + 1) (by omega)]
theorem upd_bd {ws : Nat → Int} {out : List Int} {M : Int} (h0 : ∀ j, j < out.length → 0 ≤ out.getD j 0 ∧ out.getD j 0 ≤ M) (hw : ∀ j, j < out.length → 0 ≤ ws j ∧ ws j ≤ M) : ∀ k, k ≤ out.length → ∀ j, j < out.length → 0 ≤ (upd ws out k).getD j 0 ∧ (upd ws out k).getD j 0 ≤ M
  | 0, _, j, hj => h0 j hj
  | k + 1, hk, j, hj => by
    have ih := upd_bd h0 hw k (by omega)
    rw [upd, getD_set (by rw [upd_len]; omega)]
    split
    · have := ih k (by omega); have := hw k (by omega); omega
    · exact ih j hj
/-- The first row, from zeros: its widths. -/
theorem upd_zero (ws : Nat → Int) (m : Nat) (hw : ∀ j, j < m → 0 ≤ ws j) : ∀ k, k ≤ m → upd ws (List.replicate m 0) k = (List.range k).map ws ++ List.replicate (m - k) 0
  | 0, _ => by simp [upd]
  | k + 1, hk => by
    have h1 := hw k (by omega)
    have hg : ((List.range k).map ws ++ List.replicate (m - k) (0 : Int)).getD k 0 = 0 := by
      rw [List.getD_eq_getElem?_getD, List.getElem?_append_right (by simp), show k - (List.map ws (List.range k)).length = 0 by simp, List.getElem?_replicate]
      split <;> rfl
    rw [upd, upd_zero ws m hw k (by omega), hg, show max 0 (ws k) = ws k by omega, show m - k = (m - (k + 1)) + 1 by omega, List.replicate_succ]
    rw [List.set_append_right _ _ (by simp)]
    simp [List.range_succ]
theorem upd_first (ws : Nat → Int) (m : Nat) (hw : ∀ j, j < m → 0 ≤ ws j) : upd ws (List.replicate m 0) m = (List.range m).map ws := by
  rw [upd_zero ws m hw m (Nat.le_refl _)]; simp
theorem colE_zero {m : Nat} {xs : List S3} (h : colE m xs = 0) : xs.length ≤ 60 ∧ ∀ k, k < xs.length → rlen xs k = rlen xs 0 ∧ rlen xs k ≤ 60 ∧ ∀ i, i < rlen xs k → listErr m (cz xs k i) = 0 := by
  unfold colE at h
  split at h
  · cases h
  · refine ⟨by omega, fun k hk => ?_⟩
    have := firstE_zero h k hk
    unfold rowE at this
    split at this
    · cases this
    · split at this
      · cases this
      · exact ⟨by omega, by omega, firstE_zero this⟩
end Go.Proofs.YtpkmapngdkkglaaGreatDoor
