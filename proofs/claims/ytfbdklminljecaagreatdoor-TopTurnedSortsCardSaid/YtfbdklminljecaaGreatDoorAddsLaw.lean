/-
  Plain law: the width and the need of two lists one behind the other.
-/
import Derived.Test.YtfbdklminljecaaGreatDoorGF
namespace Go.Proofs.YtfbdklminljecaaGreatDoor.adds
open Go.RowKit parted
theorem sumTo_app (g : Nat → Int) (a : Nat) : ∀ b, sumTo g (a + b) = sumTo g a + sumTo (fun i => g (a + i)) b
  | 0 => by simp [sumTo]
  | b + 1 => by rw [← Nat.add_assoc, sumTo, sumTo_app g a b, sumTo]; omega
theorem app_left (xs ys : List Int) (i : Nat) (h : i < xs.length) : (xs ++ ys).getD i 0 = xs.getD i 0 := by
  rw [List.getD_eq_getElem?_getD, List.getD_eq_getElem?_getD, List.getElem?_append_left h]
theorem app_right (xs ys : List Int) (i : Nat) : (xs ++ ys).getD (xs.length + i) 0 = ys.getD i 0 := by
  rw [List.getD_eq_getElem?_getD, List.getD_eq_getElem?_getD, List.getElem?_append_right (by omega), Nat.add_sub_cancel_left]
theorem width_app (ss : List TS) (xs ys : List Int) : widthTo ss (xs ++ ys) (xs ++ ys).length = widthTo ss xs xs.length + widthTo ss ys ys.length := by
  unfold widthTo
  rw [List.length_append, sumTo_app]
  congr 1
  · exact sumTo_congr _ _ _ fun k hk => by rw [app_left xs ys k hk]
  · exact sumTo_congr _ _ _ fun k hk => by rw [app_right xs ys k]
theorem good_app {n : Nat} {xs ys : List Int} (h1 : Good n xs) (h2 : Good n ys) (hx : xs.length ≤ 40) (hy : ys.length ≤ 40) : Good n (xs ++ ys) :=
  ⟨by rw [List.length_append]; omega, fun k hk => by
    rw [List.length_append] at hk
    by_cases h : k < xs.length
    · rw [app_left xs ys k h]; exact h1.ix k h
    · obtain ⟨i, rfl⟩ : ∃ i, k = xs.length + i := ⟨k - xs.length, by omega⟩
      rw [app_right]; exact h2.ix i (by omega)⟩
theorem need_at {n : Nat} {zs : List Int} {j : Nat} (hj : j < n) : ∀ k, (∀ i, i < k → 0 ≤ zs.getD i 0 ∧ zs.getD i 0 < n) → (needTo n zs k).getD j 0 = sumTo (fun i => if zs.getD i 0 = (j : Int) then 1 else 0) k
  | 0, _ => by rw [needTo, List.getD_eq_getElem?_getD, List.getElem?_replicate, if_pos hj]; rfl
  | k + 1, h => by
    have ih := need_at hj k (fun i hi => h i (by omega))
    obtain ⟨h1, h2⟩ := h k (by omega)
    rw [needTo, getD_set (by rw [needTo_len]; omega), sumTo]
    by_cases he : zs.getD k 0 = (j : Int)
    · rw [if_pos (by rw [he, Int.toNat_natCast]), if_pos he, he, Int.toNat_natCast, ih]
    · rw [if_neg (by omega), if_neg he, ih]; omega
theorem need_app {n : Nat} {xs ys : List Int} (h1 : Good n xs) (h2 : Good n ys) : zipK (· + ·) (needTo n xs xs.length) (needTo n ys ys.length) = needTo n (xs ++ ys) (xs ++ ys).length := by
  refine list_ext_getD (by rw [zipK_len, needTo_len, needTo_len]) fun j hj => ?_
  rw [zipK_len, needTo_len] at hj
  rw [zipK_at _ _ _ _ (by rw [needTo_len]; exact hj), need_at hj _ h1.ix, need_at hj _ h2.ix, need_at hj _ (fun i hi => by
    rw [List.length_append] at hi
    by_cases h : i < xs.length
    · rw [app_left xs ys i h]; exact h1.ix i h
    · obtain ⟨p, rfl⟩ : ∃ p, i = xs.length + p := ⟨i - xs.length, by omega⟩
      rw [app_right]; exact h2.ix p (by omega)), List.length_append, sumTo_app]
  congr 1
  · exact sumTo_congr _ _ _ fun k hk => by rw [app_left xs ys k hk]
  · exact sumTo_congr _ _ _ fun k hk => by rw [app_right xs ys k]
theorem need_counts {f : FT} {zs : List Int} (hl : zs.length ≤ 10000) : countsErr f (needTo f.sorts.length zs zs.length) = 0 :=
  counts_of (needTo_len _ _ _) fun k hk => by
    rw [needTo_len] at hk
    have := needTo_bd f.sorts.length zs zs.length k hk; omega
theorem need_join {f : FT} {xs ys : List Int} (hc : (chk f).2 = 0) (h1 : Good f.sorts.length xs) (h2 : Good f.sorts.length ys) :
    joinR f (needTo f.sorts.length xs xs.length) (needTo f.sorts.length ys ys.length) = (needTo f.sorts.length (xs ++ ys) (xs ++ ys).length, 0) := by
  rw [← need_app h1 h2]
  refine join_all (err2_ok hc (need_counts h1.few) (need_counts h2.few)) (by rw [needTo_len]; exact (chk_zero hc).2.1) fun k hk => ?_
  rw [needTo_len] at hk
  have a := needTo_bd f.sorts.length xs xs.length k hk; have b := needTo_bd f.sorts.length ys ys.length k hk
  have := h1.few; have := h2.few
  omega
end Go.Proofs.YtfbdklminljecaaGreatDoor.adds
