/-
  Walks: whether a text is a name (the program's and the reference's).
-/
import Derived.Test.YtaopcpfgmjpliaaDoorSpec
import Derived.Test.YtaopcpfgmjpliaaDoorProg
namespace Go.Proofs.YtaopcpfgmjpliaaDoor
open Go.RowKit

theorem within_any (n lo hi : Int) (w : World) :
    Calls Tryd.prog 35 #[.int .i64 n, .int .i64 lo, .int .i64 hi] w (Same (.bool (decide (lo ≤ n) && decide (n ≤ hi))) w) := by
  go_enter Tryd.func35, Tryd.ntmps35
  go_wp2 <;> go_ret <;> refine ⟨?_, rfl⟩ <;> simp_all
  omega
theorem bWithin_any (n lo hi : Int) (w : World) :
    Calls Tryd.prog 25 #[.int .i64 n, .int .i64 lo, .int .i64 hi] w (Same (.bool (decide (lo ≤ n) && decide (n ≤ hi))) w) := by
  go_enter Tryd.func25, Tryd.ntmps25
  go_wp2 <;> go_ret <;> refine ⟨?_, rfl⟩ <;> simp_all
  omega

theorem within_yes (n lo hi : Int) (w : World) (h : lo ≤ n ∧ n ≤ hi) : Calls Tryd.prog 35 #[.int .i64 n, .int .i64 lo, .int .i64 hi] w (Same (.bool true) w) :=
  (within_any n lo hi w).mono fun _ _ ⟨he, hw⟩ => ⟨by rw [he]; simp [h], hw⟩
theorem within_no (n lo hi : Int) (w : World) (h : ¬ (lo ≤ n ∧ n ≤ hi)) : Calls Tryd.prog 35 #[.int .i64 n, .int .i64 lo, .int .i64 hi] w (Same (.bool false) w) :=
  (within_any n lo hi w).mono fun _ _ ⟨he, hw⟩ => ⟨by rw [he]; congr 2; rw [Bool.and_eq_false_iff, decide_eq_false_iff_not, decide_eq_false_iff_not]; omega, hw⟩
theorem bWithin_yes (n lo hi : Int) (w : World) (h : lo ≤ n ∧ n ≤ hi) : Calls Tryd.prog 25 #[.int .i64 n, .int .i64 lo, .int .i64 hi] w (Same (.bool true) w) :=
  (bWithin_any n lo hi w).mono fun _ _ ⟨he, hw⟩ => ⟨by rw [he]; simp [h], hw⟩
theorem bWithin_no (n lo hi : Int) (w : World) (h : ¬ (lo ≤ n ∧ n ≤ hi)) : Calls Tryd.prog 25 #[.int .i64 n, .int .i64 lo, .int .i64 hi] w (Same (.bool false) w) :=
  (bWithin_any n lo hi w).mono fun _ _ ⟨he, hw⟩ => ⟨by rw [he]; congr 2; rw [Bool.and_eq_false_iff, decide_eq_false_iff_not, decide_eq_false_iff_not]; omega, hw⟩
theorem class_zero (c : Int) : (97 ≤ c ∧ c ≤ 122) ∨ (¬ 97 ≤ c ∧ 65 ≤ c ∧ c ≤ 90) ∨ (¬ 97 ≤ c ∧ ¬ 65 ≤ c) ∨ (¬ 97 ≤ c ∧ 65 ≤ c ∧ ¬ c ≤ 90) ∨ (97 ≤ c ∧ ¬ c ≤ 122 ∧ 65 ≤ c ∧ ¬ c ≤ 90) := by omega
theorem class_pos (c : Int) : (97 ≤ c ∧ c ≤ 122) ∨ (¬ 97 ≤ c ∧ 65 ≤ c ∧ c ≤ 90) ∨ c = 45 ∨ (¬ 97 ≤ c ∧ ¬ 65 ≤ c ∧ ¬ c < 48 ∧ ¬ 57 < c ∧ (c != 45) = true) ∨ (¬ 97 ≤ c ∧ ¬ 65 ≤ c ∧ c < 48 ∧ (c != 45) = true) ∨
    (¬ 97 ≤ c ∧ ¬ 65 ≤ c ∧ ¬ c < 48 ∧ 57 < c ∧ (c != 45) = true) ∨ (¬ 97 ≤ c ∧ 65 ≤ c ∧ ¬ c ≤ 90 ∧ ¬ c < 48 ∧ 57 < c ∧ (c != 45) = true) ∨ (97 ≤ c ∧ ¬ c ≤ 122 ∧ 65 ≤ c ∧ ¬ c ≤ 90 ∧ ¬ c < 48 ∧ 57 < c ∧ (c != 45) = true) := by
  have : (c != 45) = true ↔ c ≠ 45 := by simp
  rw [this]; omega
theorem okC_false' {k : Nat} {c : Int} (hk : 0 < k) (e : (c != 45) = true) (h : ¬ ((97 ≤ c ∧ c ≤ 122) ∨ (65 ≤ c ∧ c ≤ 90) ∨ (48 ≤ c ∧ c ≤ 57))) : okC k c = false := by
  have : c ≠ 45 := by simpa using e
  exact okC_false (by omega)
set_option maxHeartbeats 4000000 in
set_option maxRecDepth 100000 in
theorem bIsName_any (s : ByteArray) (w : World) (hs : s.size ≤ maxLen) :
    Calls Tryd.prog 24 #[.string s] w (Same (.bool (nameB s)) w) := by
  unfold maxLen at hs
  by_cases h0 : s.size < 1 ∨ 12 < s.size
  · have HB := Lib.hid (nameB_short s h0)
    rcases h0 with h0 | h0
    · have h1 : (s.size : Int) < 1 := by omega
      go_enter Tryd.func24, Tryd.ntmps24
      go_wp2
      go_ret
      exact ⟨by rw [HB.out]; rfl, rfl⟩
    · have h1 : (12 : Int) < (s.size : Int) := by omega
      have h2 : ¬ (s.size : Int) < 1 := by omega
      go_enter Tryd.func24, Tryd.ntmps24
      go_wp2
      go_ret
      exact ⟨by rw [HB.out]; rfl, rfl⟩
  · have h1 : ¬ (12 : Int) < (s.size : Int) := by omega
    have h2 : ¬ (s.size : Int) < 1 := by omega
    go_enter Tryd.func24, Tryd.ntmps24
    go_wp2
    go_loop [3] (fun i => ∃ k : Nat, k ≤ s.size ∧ i = .int .i64 k ∧ nameTo s k = true) (fun i => s.size - (intOf i).toNat)
    case atStart => exact ⟨0, Nat.zero_le _, rfl, rfl⟩
    case round =>
      obtain ⟨k, hk, rfl, hn⟩ := hrel
      have HN := Lib.hid hn; clear hn
      by_cases hlt : k < s.size
      · have hsc := nameTo_succ s k hlt
        have hbd := nameB_bad s k hlt
        have b1 : (s[k].toNat : Int) < 256 := by have := s[k].toNat_lt; omega
        have b2 : (0 : Int) ≤ (s[k].toNat : Int) := by omega
        have HS := Lib.hid hsc; clear hsc
        have HB := Lib.hid hbd; clear hbd
        generalize hc : (s[k].toNat : Int) = c at *
        rcases Nat.eq_zero_or_pos k with hk0 | hkp
        · subst hk0
          rcases class_zero c with ⟨h, h'⟩ | ⟨h, h', h1⟩ | ⟨h, h'⟩ | ⟨h, h', h1⟩ | ⟨h, h', h1, h2⟩
          all_goals go_wp2
          all_goals
            first
              | (go_round
                 case rel => exact ⟨1, by omega, by go_num, by rw [HS.out, HN.out, okC_true (by omega)]; rfl⟩
                 case measure => simp [intOf]; omega)
              | (go_ret; exact ⟨by rw [HB.out (okC_false (by omega))]; rfl, rfl⟩)
        · have e0 : ((k : Int) == 0) = false := by simp; omega
          rcases class_pos c with ⟨h, h'⟩ | ⟨h, h', h1⟩ | h | ⟨h, h', h1, h2, h3⟩ | ⟨h, h', h1, h3⟩ | ⟨h, h', h1, h2, h3⟩ | ⟨h, h', h1, h2, h4, h3⟩ | ⟨h, h', h1, h2, h4, h5, h3⟩
          all_goals try subst h
          all_goals go_wp2
          all_goals
            first
              | (go_round
                 case rel => exact ⟨k + 1, by omega, by go_num, by rw [HS.out, HN.out, okC_true (by omega)]; rfl⟩
                 case measure => simp [intOf]; omega)
              | (go_ret; exact ⟨by rw [HB.out (okC_false' hkp h3 (by omega))]; rfl, rfl⟩)
              | skip
          go_ways
      · go_wp2
        go_ret
        have : k = s.size := by omega
        subst this
        exact ⟨by rw [nameB_good s (by omega) HN.out]; rfl, rfl⟩
end Go.Proofs.YtaopcpfgmjpliaaDoor
