/-
  Walks: Enough, the least case for several needs; the copies of lists of lists.
-/
import Derived.Test.YtaopcpfgmjpliaaDoorOwnL
import Derived.Test.YtaopcpfgmjpliaaDoorFountOnly
import Derived.Test.YtaopcpfgmjpliaaDoorCopy
namespace Go.Proofs.YtaopcpfgmjpliaaDoor
open Go.RowKit

/-- The least case for the first of the needs. -/
def mostTo (n : Nat) (ls : List (List Int)) : Nat → List Int
  | 0 => List.replicate n 0
  | k + 1 => zipK mostI (mostTo n ls k) (ls.getD k [])
/-- The first error of the first of the needs. -/
def errTo (f : FT) (ls : List (List Int)) : Nat → Int
  | 0 => 0
  | k + 1 => if errTo f ls k ≠ 0 then errTo f ls k else countsErr f (ls.getD k [])
def enL (f : FT) (ls : List (List Int)) : List Int × Int := if 100 < ls.length then ([], 8) else if errTo f ls ls.length ≠ 0 then ([], errTo f ls ls.length) else (mostTo f.sorts.length ls ls.length, 0)
def enoughR (f : FT) (ls : List (List Int)) : List Int × Int := if (chk f).2 ≠ 0 then ([], (chk f).2) else enL f ls
theorem mostTo_len (n : Nat) (ls : List (List Int)) : ∀ k, (mostTo n ls k).length = n
  | 0 => by simp [mostTo]
  | k + 1 => by rw [mostTo, zipK_len, mostTo_len n ls k]
theorem errTo_stay {f : FT} {ls : List (List Int)} {k : Nat} : ∀ n, k ≤ n → errTo f ls k ≠ 0 → errTo f ls n = errTo f ls k
  | 0, hk, _ => by obtain rfl : k = 0 := by omega
                   rfl
  | n + 1, hk, h => by
    by_cases e : k = n + 1
    · rw [e]
    · have ih := errTo_stay n (by omega) h
      rw [errTo, if_pos (by rw [ih]; exact h), ih]
theorem enL_large {f : FT} {ls : List (List Int)} (h : 100 < ls.length) : enL f ls = ([], 8) := by unfold enL; rw [if_pos h]
theorem enL_bad {f : FT} {ls : List (List Int)} (h : ls.length ≤ 100) {k : Nat} (hk : k < ls.length) (h0 : errTo f ls k = 0) (hz : countsErr f (ls.getD k []) ≠ 0) : enL f ls = ([], countsErr f (ls.getD k [])) := by
  have h1 : errTo f ls (k + 1) = countsErr f (ls.getD k []) := by rw [errTo, if_neg (by rw [h0]; simp)]
  have h2 := errTo_stay (f := f) (ls := ls) (k := k + 1) ls.length (by omega) (by rw [h1]; exact hz)
  unfold enL
  rw [if_neg (by omega), h2, h1, if_pos hz]
theorem enL_good {f : FT} {ls : List (List Int)} (h : ls.length ≤ 100) (h0 : errTo f ls ls.length = 0) : enL f ls = (mostTo f.sorts.length ls ls.length, 0) := by
  unfold enL; rw [if_neg (by omega), if_neg (by rw [h0]; simp)]
theorem zs_at (rows : List SI) (k : Nat) (hk : k < rows.length) : (rows.map SI.zs).getD k [] = (rows.getD k SI.none_).zs := by
  rw [List.getD_eq_getElem?_getD, List.getD_eq_getElem?_getD, List.getElem?_map, List.getElem?_eq_getElem hk]; rfl
theorem RI.as {w : World} {A : Option Addr} {n : Nat} {zs : List Int} (h : RI w A zs.length zs) (hn : zs.length = n) : RI w A n zs := hn ▸ h

end Go.Proofs.YtaopcpfgmjpliaaDoor
