/-
  Walks: the reference's named and printsErr.
  Walk: the reference's CheckFount.
  Walks: slices.IndexFunc and ContainsFunc over ints; counts are checked.
-/
import Derived.Test.YtccdnieoaejgdaaGreatDoorT2AA
import Derived.Test.YtccdnieoaejgdaaGreatDoorProg
import Derived.Test.YtccdnieoaejgdaaGreatDoorT2AB
set_option linter.unusedVariables false
set_option linter.unusedSimpArgs false
set_option linter.unusedSectionVars false
namespace Go.Proofs.YtccdnieoaejgdaaGreatDoor
open Go.RowKit

/-- The first of the first n sorts that bears a name. -/
def nameAt (ss : List TS) (s : ByteArray) : Nat → Option Nat
  | 0 => none
  | n + 1 => match nameAt ss s n with | some k => some k | none => if (ss.getD n TS.zero).name = s then some n else none
def optI : Option Nat → Int | some k => k | none => -1
theorem nameAt_none {ss : List TS} {s : ByteArray} : ∀ {n : Nat}, (∀ k, k < n → (ss.getD k TS.zero).name ≠ s) → nameAt ss s n = none
  | 0, _ => rfl
  | n + 1, h => by rw [nameAt, nameAt_none (fun k hk => h k (by omega))]; simp only; rw [if_neg (h n (by omega))]
theorem nameAt_some {ss : List TS} {s : ByteArray} {k : Nat} (hc : ∀ j, j < k → (ss.getD j TS.zero).name ≠ s) (hb : (ss.getD k TS.zero).name = s) : ∀ {n : Nat}, k < n → nameAt ss s n = some k
  | n + 1, hk => by
    rw [nameAt]
    by_cases h : k < n
    · rw [nameAt_some hc hb h]
    · obtain rfl : k = n := by omega
      rw [nameAt_none hc]; simp only; rw [if_pos hb]
theorem nameAt_has (ss : List TS) (s : ByteArray) : ∀ n, n ≤ ss.length → (nameAt ss s n).isSome = hasName ss n s
  | 0, _ => rfl
  | n + 1, h => by
    have ih := nameAt_has ss s n (by omega)
    unfold hasName at ih ⊢
    rw [take_getD ss n (by omega), List.any_append, ← ih]
    simp only [nameAt, List.any_cons, List.any_nil, Bool.or_false]
    cases nameAt ss s n with
    | some k => simp
    | none => by_cases e : (ss.getD n TS.zero).name = s <;> simp only [e, if_true, if_false] <;> simp
theorem str_eq_true (a : ByteArray) : (a.toList == a.toList) = true := by simp
theorem str_eq_false {a b : ByteArray} (h : a ≠ b) : (a.toList == b.toList) = false := by
  rw [beq_eq_false_iff_ne, Go.ByteArray.toList_eq, Go.ByteArray.toList_eq]; exact fun e => h (bytes_ext e)

set_option maxHeartbeats 1000000 in
theorem named_any (A : Option Addr) (n c : Nat) (ss : List TS) (s : ByteArray) (w : World) (h : RT w A n ss) :
    Calls Tryz.prog 115 #[.slice A n c, .string s] w (Same (.int .i64 (optI (nameAt ss s n))) w) := by
  have hbig := h.big
  go_enter Tryz.func115, Tryz.ntmps115
  go_wp2
  go_loop [5] (fun i => ∃ k : Nat, k ≤ n ∧ i = .int .i64 k ∧ ∀ j, j < k → (ss.getD j TS.zero).name ≠ s) (fun i => n - (intOf i).toNat)
  case atStart => exact ⟨0, Nat.zero_le _, rfl, fun j hj => absurd hj (by omega)⟩
  case round =>
    obtain ⟨k, hk, rfl, hno⟩ := hrel
    have HNO := Lib.hid hno; clear hno
    by_cases hlt : k < n
    · obtain ⟨b, off, rfl, hbw, hcell⟩ := h.2.2 (by omega)
      obtain ⟨c1, _, _, _⟩ := hcell k hlt
      by_cases he : (ss.getD k TS.zero).name = s
      · have HV := Lib.hid (nameAt_some HNO.out he hlt)
        rw [he] at c1
        have HE := Lib.hid he; clear he hcell h
        go_wp2
        go_ret
        exact ⟨by rw [HV.out]; rfl, rfl⟩
      · have HK : Hid (∀ j, j < k + 1 → (ss.getD j TS.zero).name ≠ s) := fun j hj => by
          by_cases hj' : j < k
          · exact HNO.out j hj'
          · obtain rfl : j = k := by omega
            exact he
        generalize (ss.getD k TS.zero).name = x at *
        have e := str_eq_false he
        clear he hcell h
        go_wp2
        go_round
        case rel => exact ⟨k + 1, by omega, by go_num, HK.out⟩
        case measure => simp [intOf]; omega
    · obtain rfl : k = n := by omega
      have HV := Lib.hid (nameAt_none HNO.out)
      clear h
      go_wp2
      go_ret
      exact ⟨by rw [HV.out]; rfl, rfl⟩

def okB (c : Int) : Bool := decide (33 ≤ c) && decide (c ≤ 126)
def printTo (s : ByteArray) (n : Nat) : Prop := ∀ (j : Nat) (h : j < s.size), j < n → okB (s[j].toNat : Int) = true
theorem printable_of (s : ByteArray) (h : printTo s s.size) : printable s = true := by
  unfold printable
  rw [List.all_eq_true]
  intro b hb
  obtain ⟨j, hj, rfl⟩ := List.getElem_of_mem hb
  exact h j (by simpa using hj) (by simpa using hj)
theorem printable_bad (s : ByteArray) (k : Nat) (h : k < s.size) (hb : okB (s[k].toNat : Int) = false) : printable s = false := by
  unfold printable
  rw [List.all_eq_false]
  exact ⟨s[k], by have e : s[k] = s.data.toList[k]'(by simpa using h) := rfl; rw [e]; exact List.getElem_mem _, by rw [Bool.not_eq_true]; exact hb⟩
theorem hasText_none {ss : List TS} {s : ByteArray} : ∀ {n : Nat}, n ≤ ss.length → (∀ j, j < n → ¬ ((ss.getD j TS.zero).kind ≠ 3 ∧ (ss.getD j TS.zero).text = s)) → hasText ss n s = false
  | 0, _, _ => rfl
  | n + 1, hn, h => by
    have ih := hasText_none (n := n) (by omega) (fun j hj => h j (by omega))
    unfold hasText at ih ⊢
    rw [take_getD ss n (by omega), List.any_append, ih]
    have := h n (by omega)
    simp only [List.any_cons, List.any_nil, Bool.or_false, Bool.false_or]
    rw [Bool.and_eq_false_iff, decide_eq_false_iff_not, decide_eq_false_iff_not]
    by_cases hk : (ss.getD n TS.zero).kind = 3
    · left; simp only [ne_eq, hk, not_true, not_false_eq_true]
    · right; exact fun e => this ⟨hk, e⟩
theorem hasText_some {ss : List TS} {s : ByteArray} {k n : Nat} (hk : k < n) (hn : n ≤ ss.length) (h1 : (ss.getD k TS.zero).kind ≠ 3) (h2 : (ss.getD k TS.zero).text = s) : hasText ss n s = true := by
  unfold hasText
  rw [List.any_eq_true]
  refine ⟨ss.getD k TS.zero, ?_, by simp only [h2]; simp only [decide_eq_true h1, decide_true, Bool.and_self]⟩
  rw [List.getD_eq_getElem?_getD, List.getElem?_eq_getElem (by omega)]
  exact List.mem_take_iff_getElem.2 ⟨k, by omega, rfl⟩

theorem take_at (ss : List TS) (n k : Nat) (h : k < n) : (ss.take n).getD k TS.zero = ss.getD k TS.zero := by
  simp [List.getD_eq_getElem?_getD, h]
set_option maxHeartbeats 4000000 in
set_option maxRecDepth 100000 in
theorem printsErr_any (A : Option Addr) (n c : Nat) (ss : List TS) (K : Int) (s : ByteArray) (w : World) (h : RT w A n (ss.take n)) (hn : n ≤ ss.length) (hK : 1 ≤ K ∧ K ≤ 3) (hs : s.size ≤ maxLen) :
    Calls Tryz.prog 116 #[.slice A n c, .int .i64 K, .string s] w (Same (.int .i64 (textErr ss n K s)) w) := by
  have hbig := h.big
  unfold maxLen at hs
  have HT : Hid (textErr ss n K s = if printsB K s = false then 3 else if K ≠ 3 ∧ hasText ss n s = true then 13 else 0) := Lib.hid rfl
  by_cases hin : printLo K ≤ (s.size : Int) ∧ (s.size : Int) ≤ printHi K
  · have HP : Hid (printsB K s = printable s) := Lib.hid (by unfold printsB; simp [hin])
    have hk3 : K = 1 ∨ K = 2 ∨ K = 3 := by omega
    rcases hk3 with rfl | rfl | rfl
    · replace hin : (1 : Int) ≤ (s.size : Int) ∧ (s.size : Int) ≤ 1 := hin
      go_enter Tryz.func116, Tryz.ntmps116
      go_wp2_with (first | (go_at_call 57; refine Calls.mono (bWithin_yes _ _ _ _ ?_) ?_; (omega); rintro e w1 ⟨rfl, rfl⟩) | (go_at_call 57; refine Calls.mono (bWithin_no _ _ _ _ ?_) ?_; (omega); rintro e w1 ⟨rfl, rfl⟩))
      go_loop [9] (fun i => ∃ k : Nat, k ≤ s.size ∧ i = .int .i64 k ∧ printTo s k) (fun i => s.size - (intOf i).toNat)
      case atStart => exact ⟨0, Nat.zero_le _, rfl, fun j h hj => absurd hj (by omega)⟩
      case round =>
        obtain ⟨k, hk, rfl, hpt⟩ := hrel
        have HPT := Lib.hid hpt; clear hpt
        by_cases hlt : k < s.size
        · have HB := Lib.hid (printable_bad s k hlt)
          have HN : Hid (okB (s[k].toNat : Int) = true → printTo s (k + 1)) := Lib.hid (fun hb j hj hjk => by
            by_cases hj' : j < k
            · exact HPT.out j hj hj'
            · obtain rfl : j = k := by omega
              exact hb)
          have b1 : (s[k].toNat : Int) < 256 := by have := s[k].toNat_lt; omega
          have b2 : (0 : Int) ≤ (s[k].toNat : Int) := by omega
          generalize hcc : (s[k].toNat : Int) = cc at *
          by_cases hc1 : cc < 33
          · go_wp2
            go_ret
            exact ⟨by rw [HT.out, if_pos (by rw [HP.out, HB.out (by unfold okB; rw [Bool.and_eq_false_iff, decide_eq_false_iff_not, decide_eq_false_iff_not]; omega)])]; rfl, rfl⟩
          · by_cases hc2 : 126 < cc
            · go_wp2
              go_ret
              exact ⟨by rw [HT.out, if_pos (by rw [HP.out, HB.out (by unfold okB; rw [Bool.and_eq_false_iff, decide_eq_false_iff_not, decide_eq_false_iff_not]; omega)])]; rfl, rfl⟩
            · go_wp2
              go_round
              case rel => exact ⟨k + 1, by omega, by go_num, HN.out (by unfold okB; rw [Bool.and_eq_true, decide_eq_true_eq, decide_eq_true_eq]; omega)⟩
              case measure => simp [intOf]; omega
        · obtain rfl : k = s.size := by omega
          have HG := Lib.hid (printable_of s HPT.out)
          go_wp2
          go_loop [10] (fun i => ∃ k : Nat, k ≤ n ∧ i = .int .i64 k ∧ ∀ j, j < k → ¬ ((ss.getD j TS.zero).kind ≠ 3 ∧ (ss.getD j TS.zero).text = s)) (fun i => n - (intOf i).toNat)
          case atStart => exact ⟨0, Nat.zero_le _, rfl, fun j hj => absurd hj (by omega)⟩
          case round =>
            obtain ⟨k, hk, rfl, hno⟩ := hrel
            have HNO := Lib.hid hno; clear hno
            by_cases hlt : k < n
            · obtain ⟨b, off, rfl, hbw, hcell⟩ := h.2.2 (by omega)
              obtain ⟨_, c2, c3, _⟩ := hcell k hlt
              have hkn : (k : Int) < (n : Int) := by omega
              rw [take_at ss n k hlt] at c2 c3
              have HK : Hid (¬ ((ss.getD k TS.zero).kind ≠ 3 ∧ (ss.getD k TS.zero).text = s) → ∀ j, j < k + 1 → ¬ ((ss.getD j TS.zero).kind ≠ 3 ∧ (ss.getD j TS.zero).text = s)) := Lib.hid (fun he j hj => by
                by_cases hj' : j < k
                · exact HNO.out j hj'
                · obtain rfl : j = k := by omega
                  exact he)
              have HY := Lib.hid (fun h1 h2 => hasText_some (ss := ss) (s := s) hlt hn h1 h2)
              generalize (ss.getD k TS.zero).kind = kk at *
              generalize (ss.getD k TS.zero).text = tt at *
              clear hcell h
              by_cases h3 : kk = 3
              · subst h3
                go_wp2
                go_round
                case rel => exact ⟨k + 1, by omega, by go_num, HK.out (by simp)⟩
                case measure => simp [intOf]; omega
              · have e3 : (kk != 3) = true := by simpa using h3
                by_cases he : tt = s
                · subst he
                  go_wp2
                  go_ret
                  exact ⟨by rw [HT.out, if_neg (by rw [HP.out, HG.out]; simp), if_pos ⟨by decide, HY.out h3 (by first | exact rfl | trivial)⟩]; rfl, rfl⟩
                · have e := str_eq_false he
                  have HE := Lib.hid he; clear he
                  go_wp2
                  go_round
                  case rel => exact ⟨k + 1, by omega, by go_num, HK.out (fun hh => HE.out hh.2)⟩
                  case measure => simp [intOf]; omega
            · obtain rfl : k = n := by omega
              have HV := Lib.hid (hasText_none hn HNO.out)
              clear h
              go_wp2
              go_ret
              exact ⟨by rw [HT.out, if_neg (by rw [HP.out, HG.out]; simp), if_neg (by rw [HV.out]; simp)]; rfl, rfl⟩
    · replace hin : (2 : Int) ≤ (s.size : Int) ∧ (s.size : Int) ≤ 4 := hin
      go_enter Tryz.func116, Tryz.ntmps116
      go_wp2_with (first | (go_at_call 57; refine Calls.mono (bWithin_yes _ _ _ _ ?_) ?_; (omega); rintro e w1 ⟨rfl, rfl⟩) | (go_at_call 57; refine Calls.mono (bWithin_no _ _ _ _ ?_) ?_; (omega); rintro e w1 ⟨rfl, rfl⟩))
      go_loop [9] (fun i => ∃ k : Nat, k ≤ s.size ∧ i = .int .i64 k ∧ printTo s k) (fun i => s.size - (intOf i).toNat)
      case atStart => exact ⟨0, Nat.zero_le _, rfl, fun j h hj => absurd hj (by omega)⟩
      case round =>
        obtain ⟨k, hk, rfl, hpt⟩ := hrel
        have HPT := Lib.hid hpt; clear hpt
        by_cases hlt : k < s.size
        · have HB := Lib.hid (printable_bad s k hlt)
          have HN : Hid (okB (s[k].toNat : Int) = true → printTo s (k + 1)) := Lib.hid (fun hb j hj hjk => by
            by_cases hj' : j < k
            · exact HPT.out j hj hj'
            · obtain rfl : j = k := by omega
              exact hb)
          have b1 : (s[k].toNat : Int) < 256 := by have := s[k].toNat_lt; omega
          have b2 : (0 : Int) ≤ (s[k].toNat : Int) := by omega
          generalize hcc : (s[k].toNat : Int) = cc at *
          by_cases hc1 : cc < 33
          · go_wp2
            go_ret
            exact ⟨by rw [HT.out, if_pos (by rw [HP.out, HB.out (by unfold okB; rw [Bool.and_eq_false_iff, decide_eq_false_iff_not, decide_eq_false_iff_not]; omega)])]; rfl, rfl⟩
          · by_cases hc2 : 126 < cc
            · go_wp2
              go_ret
              exact ⟨by rw [HT.out, if_pos (by rw [HP.out, HB.out (by unfold okB; rw [Bool.and_eq_false_iff, decide_eq_false_iff_not, decide_eq_false_iff_not]; omega)])]; rfl, rfl⟩
            · go_wp2
              go_round
              case rel => exact ⟨k + 1, by omega, by go_num, HN.out (by unfold okB; rw [Bool.and_eq_true, decide_eq_true_eq, decide_eq_true_eq]; omega)⟩
              case measure => simp [intOf]; omega
        · obtain rfl : k = s.size := by omega
          have HG := Lib.hid (printable_of s HPT.out)
          go_wp2
          go_loop [10] (fun i => ∃ k : Nat, k ≤ n ∧ i = .int .i64 k ∧ ∀ j, j < k → ¬ ((ss.getD j TS.zero).kind ≠ 3 ∧ (ss.getD j TS.zero).text = s)) (fun i => n - (intOf i).toNat)
          case atStart => exact ⟨0, Nat.zero_le _, rfl, fun j hj => absurd hj (by omega)⟩
          case round =>
            obtain ⟨k, hk, rfl, hno⟩ := hrel
            have HNO := Lib.hid hno; clear hno
            by_cases hlt : k < n
            · obtain ⟨b, off, rfl, hbw, hcell⟩ := h.2.2 (by omega)
              obtain ⟨_, c2, c3, _⟩ := hcell k hlt
              have hkn : (k : Int) < (n : Int) := by omega
              rw [take_at ss n k hlt] at c2 c3
              have HK : Hid (¬ ((ss.getD k TS.zero).kind ≠ 3 ∧ (ss.getD k TS.zero).text = s) → ∀ j, j < k + 1 → ¬ ((ss.getD j TS.zero).kind ≠ 3 ∧ (ss.getD j TS.zero).text = s)) := Lib.hid (fun he j hj => by
                by_cases hj' : j < k
                · exact HNO.out j hj'
                · obtain rfl : j = k := by omega
                  exact he)
              have HY := Lib.hid (fun h1 h2 => hasText_some (ss := ss) (s := s) hlt hn h1 h2)
              generalize (ss.getD k TS.zero).kind = kk at *
              generalize (ss.getD k TS.zero).text = tt at *
              clear hcell h
              by_cases h3 : kk = 3
              · subst h3
                go_wp2
                go_round
                case rel => exact ⟨k + 1, by omega, by go_num, HK.out (by simp)⟩
                case measure => simp [intOf]; omega
              · have e3 : (kk != 3) = true := by simpa using h3
                by_cases he : tt = s
                · subst he
                  go_wp2
                  go_ret
                  exact ⟨by rw [HT.out, if_neg (by rw [HP.out, HG.out]; simp), if_pos ⟨by decide, HY.out h3 (by first | exact rfl | trivial)⟩]; rfl, rfl⟩
                · have e := str_eq_false he
                  have HE := Lib.hid he; clear he
                  go_wp2
                  go_round
                  case rel => exact ⟨k + 1, by omega, by go_num, HK.out (fun hh => HE.out hh.2)⟩
                  case measure => simp [intOf]; omega
            · obtain rfl : k = n := by omega
              have HV := Lib.hid (hasText_none hn HNO.out)
              clear h
              go_wp2
              go_ret
              exact ⟨by rw [HT.out, if_neg (by rw [HP.out, HG.out]; simp), if_neg (by rw [HV.out]; simp)]; rfl, rfl⟩
    · replace hin : (0 : Int) ≤ (s.size : Int) ∧ (s.size : Int) ≤ 0 := hin
      go_enter Tryz.func116, Tryz.ntmps116
      go_wp2_with (first | (go_at_call 57; refine Calls.mono (bWithin_yes _ _ _ _ ?_) ?_; (omega); rintro e w1 ⟨rfl, rfl⟩) | (go_at_call 57; refine Calls.mono (bWithin_no _ _ _ _ ?_) ?_; (omega); rintro e w1 ⟨rfl, rfl⟩))
      go_loop [9] (fun i => ∃ k : Nat, k ≤ s.size ∧ i = .int .i64 k ∧ printTo s k) (fun i => s.size - (intOf i).toNat)
      case atStart => exact ⟨0, Nat.zero_le _, rfl, fun j h hj => absurd hj (by omega)⟩
      case round =>
        obtain ⟨k, hk, rfl, hpt⟩ := hrel
        have HPT := Lib.hid hpt; clear hpt
        by_cases hlt : k < s.size
        · have HB := Lib.hid (printable_bad s k hlt)
          have HN : Hid (okB (s[k].toNat : Int) = true → printTo s (k + 1)) := Lib.hid (fun hb j hj hjk => by
            by_cases hj' : j < k
            · exact HPT.out j hj hj'
            · obtain rfl : j = k := by omega
              exact hb)
          have b1 : (s[k].toNat : Int) < 256 := by have := s[k].toNat_lt; omega
          have b2 : (0 : Int) ≤ (s[k].toNat : Int) := by omega
          generalize hcc : (s[k].toNat : Int) = cc at *
          by_cases hc1 : cc < 33
          · go_wp2
            go_ret
            exact ⟨by rw [HT.out, if_pos (by rw [HP.out, HB.out (by unfold okB; rw [Bool.and_eq_false_iff, decide_eq_false_iff_not, decide_eq_false_iff_not]; omega)])]; rfl, rfl⟩
          · by_cases hc2 : 126 < cc
            · go_wp2
              go_ret
              exact ⟨by rw [HT.out, if_pos (by rw [HP.out, HB.out (by unfold okB; rw [Bool.and_eq_false_iff, decide_eq_false_iff_not, decide_eq_false_iff_not]; omega)])]; rfl, rfl⟩
            · go_wp2
              go_round
              case rel => exact ⟨k + 1, by omega, by go_num, HN.out (by unfold okB; rw [Bool.and_eq_true, decide_eq_true_eq, decide_eq_true_eq]; omega)⟩
              case measure => simp [intOf]; omega
        · obtain rfl : k = s.size := by omega
          have HG := Lib.hid (printable_of s HPT.out)
          go_wp2
          refine wp_loop_rounds 1 ?_
          rw [rounds_succ]
          go_wp2
          all_goals go_ret
          all_goals exact ⟨by rw [HT.out, if_neg (by rw [HP.out, HG.out]; simp), if_neg (by simp)]; rfl, rfl⟩
  · have HP : Hid (printsB K s = false) := Lib.hid (by unfold printsB; rw [Bool.and_eq_false_iff, Bool.and_eq_false_iff, decide_eq_false_iff_not, decide_eq_false_iff_not]; omega)
    have hk3 : K = 1 ∨ K = 2 ∨ K = 3 := by omega
    rcases hk3 with rfl | rfl | rfl
    · replace hin : ¬ ((1 : Int) ≤ (s.size : Int) ∧ (s.size : Int) ≤ 1) := hin
      go_enter Tryz.func116, Tryz.ntmps116
      go_wp2_with (first | (go_at_call 57; refine Calls.mono (bWithin_yes _ _ _ _ ?_) ?_; (omega); rintro e w1 ⟨rfl, rfl⟩) | (go_at_call 57; refine Calls.mono (bWithin_no _ _ _ _ ?_) ?_; (omega); rintro e w1 ⟨rfl, rfl⟩))
      go_ret
      exact ⟨by rw [HT.out, if_pos HP.out]; rfl, rfl⟩
    · replace hin : ¬ ((2 : Int) ≤ (s.size : Int) ∧ (s.size : Int) ≤ 4) := hin
      go_enter Tryz.func116, Tryz.ntmps116
      go_wp2_with (first | (go_at_call 57; refine Calls.mono (bWithin_yes _ _ _ _ ?_) ?_; (omega); rintro e w1 ⟨rfl, rfl⟩) | (go_at_call 57; refine Calls.mono (bWithin_no _ _ _ _ ?_) ?_; (omega); rintro e w1 ⟨rfl, rfl⟩))
      go_ret
      exact ⟨by rw [HT.out, if_pos HP.out]; rfl, rfl⟩
    · replace hin : ¬ ((0 : Int) ≤ (s.size : Int) ∧ (s.size : Int) ≤ 0) := hin
      go_enter Tryz.func116, Tryz.ntmps116
      go_wp2_with (first | (go_at_call 57; refine Calls.mono (bWithin_yes _ _ _ _ ?_) ?_; (omega); rintro e w1 ⟨rfl, rfl⟩) | (go_at_call 57; refine Calls.mono (bWithin_no _ _ _ _ ?_) ?_; (omega); rintro e w1 ⟨rfl, rfl⟩))
      go_ret
      exact ⟨by rw [HT.out, if_pos HP.out]; rfl, rfl⟩
end Go.Proofs.YtccdnieoaejgdaaGreatDoor
namespace Go.Proofs.YtccdnieoaejgdaaGreatDoor
open Go.RowKit

theorem Same.quiet {P : Program} {f : FuncId} {args : Array Value} {w : World} {n : Nat} {v : Value} (h : Calls P f args (w.drewN n) (Same v (w.drewN n))) :
    Calls P f args (w.drewN n) fun e w'' => e = .returned v ∧ ∃ m, w'' = w.drewN m := h.mono fun _ _ ⟨he, hm⟩ => ⟨he, n, hm.symm⟩
theorem Same.quiet_add {P : Program} {f : FuncId} {args : Array Value} {w : World} {a n : Nat} {v : Value} (h : Calls P f args (w.drewN (a + n)) (Same v (w.drewN (a + n)))) :
    Calls P f args (w.drewN (a + n)) fun e w'' => e = .returned v ∧ ∃ m, w'' = w.drewN (a + m) := h.mono fun _ _ ⟨he, hm⟩ => ⟨he, n, hm.symm⟩

theorem RT.take {w : World} {A : Option Addr} {n k : Nat} {ss : List TS} (h : RT w A n ss) (hk : k ≤ n) : RT w A k (ss.take k) := by
  obtain ⟨h1, h2, h3⟩ := h
  refine ⟨by rw [List.length_take]; omega, by omega, fun hp => ?_⟩
  obtain ⟨b, off, ha, hb, hc⟩ := h3 (by omega)
  exact ⟨b, off, ha, hb, fun j hj => by rw [take_at ss k j hj]; exact hc j (by omega)⟩
theorem nameAt_take (ss : List TS) (s : ByteArray) (k : Nat) : ∀ n, n ≤ k → nameAt (ss.take k) s n = nameAt ss s n
  | 0, _ => rfl
  | n + 1, h => by rw [nameAt, nameAt, nameAt_take ss s k n (by omega), take_at ss k n (by omega)]
theorem optI_neg {o : Option Nat} (h : o.isSome = false) : optI o = -1 := by cases o <;> simp_all [optI]
theorem optI_pos {o : Option Nat} (h : o.isSome = true) : 0 ≤ optI o := by cases o <;> simp_all [optI]

set_option maxHeartbeats 8000000 in
set_option maxRecDepth 100000 in
theorem rCheckFount_any (f : FT) (A : Option Addr) (c : Nat) (w : World) (hf : FR w A c f) :
    Calls Tryz.prog 74 #[f.val A c] w (Ret (ChkV f) w) := by
  obtain ⟨name, body, ss⟩ := f
  have hnm := hf.nm
  have hbig := hf.rt.big
  have hcap := hf.cap
  simp only [FT.val, maxLen] at *
  have HF := Lib.hid hf; clear hf
  by_cases h1 : nameB name = false
  · have HC : Hid (chk ⟨name, body, ss⟩ = (0, 4)) := Lib.hid (by unfold chk; simp [h1])
    unfold ChkV; rw [HC.out]
    have HN := Lib.hid h1; clear h1
    go_enter Tryz.func74, Tryz.ntmps74
    go_wp2_with (first | (go_at_call 114; refine Calls.mono (bIsName_any _ _ hnm) ?_; rw [HN.out]; rintro e w2 ⟨rfl, rfl⟩))
    go_ret2
    exact Ret.mk' rfl (by repeat (first | exact Ext.refl _ | assumption | refine Ext.alloc ?_ _ | refine Ext.drew ?_ | refine Ext.drewN ?_ _ | (refine Ext.setCell ?_ (by simp <;> omega) _) | refine Ext.trans ?_ (by assumption)))
  have HN : Hid (nameB name = true) := Lib.hid (by simpa using h1)
  by_cases hb0 : 1 ≤ body ∧ body ≤ 144
  · by_cases hl0 : ss.length = 0
    · have HC : Hid (chk ⟨name, body, ss⟩ = (0, 10)) := Lib.hid (by unfold chk; simp [h1, hb0, hl0])
      unfold ChkV; rw [HC.out]
      rw [hl0]; clear hl0 h1 hcap HF
      go_enter Tryz.func74, Tryz.ntmps74
      go_wp2_with (first | (go_at_call 57; refine Calls.mono (bWithin_yes _ _ _ _ ?_) ?_; (omega); rintro e w1 ⟨rfl, rfl⟩) | (go_at_call 57; refine Calls.mono (bWithin_no _ _ _ _ ?_) ?_; (omega); rintro e w1 ⟨rfl, rfl⟩) | (go_at_call 114; refine Calls.mono (bIsName_any _ _ hnm) ?_; rw [HN.out]; rintro e w2 ⟨rfl, rfl⟩))
      go_ret2
      exact Ret.mk' rfl (by repeat (first | exact Ext.refl _ | assumption | refine Ext.alloc ?_ _ | refine Ext.drew ?_ | refine Ext.drewN ?_ _ | (refine Ext.setCell ?_ (by simp <;> omega) _) | refine Ext.trans ?_ (by assumption)))
    · by_cases hl1 : 120 < ss.length
      · have HC : Hid (chk ⟨name, body, ss⟩ = (0, 8)) := Lib.hid (by unfold chk; simp only [if_neg h1, if_neg (show ¬ ¬ (1 ≤ body ∧ body ≤ 144) by simpa using hb0), if_neg hl0, if_pos hl1])
        unfold ChkV; rw [HC.out]
        have e1 : (120 : Int) < (ss.length : Int) := by omega
        have e2 : ((ss.length : Int) == 0) = false := (by rw [beq_eq_false_iff_ne]; omega)
        clear hl0 h1 hcap HF
        go_enter Tryz.func74, Tryz.ntmps74
        go_wp2_with (first | (go_at_call 57; refine Calls.mono (bWithin_yes _ _ _ _ ?_) ?_; (omega); rintro e w1 ⟨rfl, rfl⟩) | (go_at_call 57; refine Calls.mono (bWithin_no _ _ _ _ ?_) ?_; (omega); rintro e w1 ⟨rfl, rfl⟩) | (go_at_call 114; refine Calls.mono (bIsName_any _ _ hnm) ?_; rw [HN.out]; rintro e w2 ⟨rfl, rfl⟩))
        go_ret2
        exact Ret.mk' rfl (by repeat (first | exact Ext.refl _ | assumption | refine Ext.alloc ?_ _ | refine Ext.drew ?_ | refine Ext.drewN ?_ _ | (refine Ext.setCell ?_ (by simp <;> omega) _) | refine Ext.trans ?_ (by assumption)))
      · have HC := Lib.hid (chk_ok (f := ⟨name, body, ss⟩) HN.out hb0 (by show 1 ≤ ss.length; omega) (by show ss.length ≤ 120; omega))
        have e1 : ¬ (120 : Int) < (ss.length : Int) := by omega
        have e2 : ((ss.length : Int) == 0) = false := (by rw [beq_eq_false_iff_ne]; omega)
        unfold ChkV
        generalize chk ⟨name, body, ss⟩ = ch at *
        clear h1
        go_enter Tryz.func74, Tryz.ntmps74
        go_wp2_with (first | (go_at_call 57; refine Calls.mono (bWithin_yes _ _ _ _ ?_) ?_; (omega); rintro e w1 ⟨rfl, rfl⟩) | (go_at_call 57; refine Calls.mono (bWithin_no _ _ _ _ ?_) ?_; (omega); rintro e w1 ⟨rfl, rfl⟩) | (go_at_call 114; refine Calls.mono (bIsName_any _ _ hnm) ?_; rw [HN.out]; rintro e w2 ⟨rfl, rfl⟩))
        go_loopw [4] (fun i wr => ∃ k : Nat, k ≤ ss.length ∧ i = .int .i64 k ∧ cleanTo ss k ∧ Ext w wr ∧ Blk wr w.heap.size 42 #[.string name, .int .i64 body, .slice A ss.length c]) (fun i _ => ss.length - (intOf i).toNat)
        case atStart => exact ⟨0, Nat.zero_le _, rfl, fun k hk => absurd hk (by omega), (by repeat (first | exact Ext.refl _ | assumption | refine Ext.alloc ?_ _ | refine Ext.drew ?_ | refine Ext.drewN ?_ _ | (refine Ext.setCell ?_ (by simp <;> omega) _) | refine Ext.trans ?_ (by assumption))), Blk.new _ _ _⟩
        case round =>
          obtain ⟨k, hk, rfl, hcl, hx, hB⟩ := hrel
          have HCL := Lib.hid hcl; clear hcl
          obtain ⟨f0, f1, f2, fl⟩ := hB.c3
          by_cases hlt : k < ss.length
          · obtain ⟨hn, ht, _, _⟩ := HF.out.sz k hlt
            have hRT := HF.out.rt.ext hx
            have HRT : Hid (RT wr A ss.length ss) := Lib.hid hRT
            obtain ⟨b, off, rfl, hbw, hcell⟩ := hRT.2.2 (by show 0 < ss.length; omega)
            obtain ⟨c1, c2, c3, c4⟩ := hcell k hlt
            have hkn : (k : Int) < (ss.length : Int) := by omega
            have hkc : (k : Int) ≤ (c : Int) := by omega
            have hkc' : k ≤ c := by omega
            have HX : Hid (sortErr ss k (ss.getD k TS.zero) = _) := Lib.hid rfl
            unfold sortErr at HX
            have HNA := Lib.hid (nameAt_has ss (ss.getD k TS.zero).name k hk)
            generalize hxd : ss.getD k TS.zero = x at *
            have HXD := Lib.hid hxd; clear hxd hcell hRT
            have HBB := Lib.hid hB; have HE := Lib.hid hx; clear hB hx
            have hbad : Hid (∀ z, sortErr ss k x = z → z ≠ 0 → ch = ((k : Int), z)) := Lib.hid (fun z hz hz0 => by
              rw [HC.out]
              show (match firstBad ss ss.length with | some k => ((k : Int), sortErr ss k (ss.getD k TS.zero)) | none => (0, 0)) = _
              rw [firstBad_some HCL.out hlt (by rw [HXD.out, hz]; exact hz0)]
              simp only
              rw [HXD.out, hz])
            by_cases n1 : nameB x.name = true
            · have HN1 := Lib.hid n1; clear n1
              have HPre := Lib.hid (HRT.out.take hk)
              have hsort : Hid (sortErr ss k x = if hasName ss k x.name = true then 5 else if ¬ (1 ≤ x.kind ∧ x.kind ≤ 3) then 15 else if ¬ (1 ≤ x.width ∧ x.width ≤ 100000) then 2 else textErr ss k x.kind x.text) := Lib.hid (by unfold sortErr; rw [if_neg (by rw [HN1.out]; simp)])
              have hNT : Hid (nameAt (ss.take k) x.name k = nameAt ss x.name k) := Lib.hid (nameAt_take ss x.name k k (Nat.le_refl _))
              by_cases n2 : hasName ss k x.name = true
              · have HCH := Lib.hid (hbad.out 5 (by rw [hsort.out, if_pos n2]) (by decide))
                have hi : 0 ≤ optI (nameAt (ss.take k) x.name k) := by rw [hNT.out]; exact optI_pos (by rw [HNA.out, n2])
                clear n2
                go_wp2_with (first | (go_at_call 114; refine Calls.mono (bIsName_any _ _ hn) ?_; rw [HN1.out]; rintro e w2 ⟨rfl, rfl⟩))
                go_quiet ((go_at_call 115; exact Same.quiet (named_any _ _ _ _ _ _ (HPre.out.ext (by repeat (first | exact Ext.refl _ | assumption | refine Ext.alloc ?_ _ | refine Ext.drew ?_ | refine Ext.drewN ?_ _ | (refine Ext.setCell ?_ (by simp <;> omega) _) | refine Ext.trans ?_ (by assumption)))))))
                go_wp2
                go_ret2
                exact Ret.mk' (by rw [HCH.out]; rfl) (HE.out.trans (by repeat (first | exact Ext.refl _ | assumption | refine Ext.alloc ?_ _ | refine Ext.drew ?_ | refine Ext.drewN ?_ _ | (refine Ext.setCell ?_ (by simp <;> omega) _) | refine Ext.trans ?_ (by assumption))))
              · have hi : ¬ 0 ≤ optI (nameAt (ss.take k) x.name k) := by rw [hNT.out, optI_neg (by rw [HNA.out]; simpa using n2)]; omega
                have HN2 := Lib.hid n2; clear n2
                by_cases hkk : 1 ≤ x.kind ∧ x.kind ≤ 3
                · by_cases hww : 1 ≤ x.width ∧ x.width ≤ 100000
                  · have HZ : Hid (sortErr ss k x = textErr ss k x.kind x.text) := Lib.hid (by rw [hsort.out, if_neg HN2.out, if_neg (by simpa using hkk), if_neg (by simpa using hww)])
                    have cP := fun W h => printsErr_any (some ⟨b, off, none⟩) k c ss x.kind x.text W h hk hkk ht
                    generalize textErr ss k x.kind x.text = z at *
                    have CP := Lib.hid cP; clear cP
                    by_cases hz : z = 0
                    · subst hz
                      go_wp2_with (first | (go_at_call 114; refine Calls.mono (bIsName_any _ _ hn) ?_; rw [HN1.out]; rintro e w2 ⟨rfl, rfl⟩))
                      go_quiet ((go_at_call 115; exact Same.quiet (named_any _ _ _ _ _ _ (HPre.out.ext (by repeat (first | exact Ext.refl _ | assumption | refine Ext.alloc ?_ _ | refine Ext.drew ?_ | refine Ext.drewN ?_ _ | (refine Ext.setCell ?_ (by simp <;> omega) _) | refine Ext.trans ?_ (by assumption)))))))
                      go_wp2_with (first | (go_at_call 57; refine Calls.mono (bWithin_yes _ _ _ _ ?_) ?_; (omega); rintro e w1 ⟨rfl, rfl⟩) | (go_at_call 57; refine Calls.mono (bWithin_no _ _ _ _ ?_) ?_; (omega); rintro e w1 ⟨rfl, rfl⟩))
                      go_quiet ((go_at_call 116; first | exact Same.quiet (CP.out _ (HPre.out.ext (by repeat (first | exact Ext.refl _ | assumption | refine Ext.alloc ?_ _ | refine Ext.drew ?_ | refine Ext.drewN ?_ _ | (refine Ext.setCell ?_ (by simp <;> omega) _) | refine Ext.trans ?_ (by assumption))))) | exact Same.quiet_add (CP.out _ (HPre.out.ext (by repeat (first | exact Ext.refl _ | assumption | refine Ext.alloc ?_ _ | refine Ext.drew ?_ | refine Ext.drewN ?_ _ | (refine Ext.setCell ?_ (by simp <;> omega) _) | refine Ext.trans ?_ (by assumption)))))))
                      go_wp2
                      go_roundw
                      case rel => exact ⟨k + 1, by omega, by go_num, cleanTo_succ HCL.out (by rw [HXD.out]; exact HZ.out), HE.out.trans (by repeat (first | exact Ext.refl _ | assumption | refine Ext.alloc ?_ _ | refine Ext.drew ?_ | refine Ext.drewN ?_ _ | (refine Ext.setCell ?_ (by simp <;> omega) _) | refine Ext.trans ?_ (by assumption))), HBB.out.ext (by repeat (first | exact Ext.refl _ | assumption | refine Ext.alloc ?_ _ | refine Ext.drew ?_ | refine Ext.drewN ?_ _ | (refine Ext.setCell ?_ (by simp <;> omega) _) | refine Ext.trans ?_ (by assumption)))⟩
                      case measure => simp [intOf]; omega
                    · have HCH := Lib.hid (hbad.out z HZ.out hz)
                      have e0 : (z != 0) = true := by simpa using hz
                      clear hz
                      go_wp2_with (first | (go_at_call 114; refine Calls.mono (bIsName_any _ _ hn) ?_; rw [HN1.out]; rintro e w2 ⟨rfl, rfl⟩))
                      go_quiet ((go_at_call 115; exact Same.quiet (named_any _ _ _ _ _ _ (HPre.out.ext (by repeat (first | exact Ext.refl _ | assumption | refine Ext.alloc ?_ _ | refine Ext.drew ?_ | refine Ext.drewN ?_ _ | (refine Ext.setCell ?_ (by simp <;> omega) _) | refine Ext.trans ?_ (by assumption)))))))
                      go_wp2_with (first | (go_at_call 57; refine Calls.mono (bWithin_yes _ _ _ _ ?_) ?_; (omega); rintro e w1 ⟨rfl, rfl⟩) | (go_at_call 57; refine Calls.mono (bWithin_no _ _ _ _ ?_) ?_; (omega); rintro e w1 ⟨rfl, rfl⟩))
                      go_quiet ((go_at_call 116; first | exact Same.quiet (CP.out _ (HPre.out.ext (by repeat (first | exact Ext.refl _ | assumption | refine Ext.alloc ?_ _ | refine Ext.drew ?_ | refine Ext.drewN ?_ _ | (refine Ext.setCell ?_ (by simp <;> omega) _) | refine Ext.trans ?_ (by assumption))))) | exact Same.quiet_add (CP.out _ (HPre.out.ext (by repeat (first | exact Ext.refl _ | assumption | refine Ext.alloc ?_ _ | refine Ext.drew ?_ | refine Ext.drewN ?_ _ | (refine Ext.setCell ?_ (by simp <;> omega) _) | refine Ext.trans ?_ (by assumption)))))))
                      go_wp2
                      go_ret2
                      exact Ret.mk' (by rw [HCH.out]; rfl) (HE.out.trans (by repeat (first | exact Ext.refl _ | assumption | refine Ext.alloc ?_ _ | refine Ext.drew ?_ | refine Ext.drewN ?_ _ | (refine Ext.setCell ?_ (by simp <;> omega) _) | refine Ext.trans ?_ (by assumption))))
                  · have HCH := Lib.hid (hbad.out 2 (by rw [hsort.out, if_neg HN2.out, if_neg (by simpa using hkk), if_pos hww]) (by decide))
                    go_wp2_with (first | (go_at_call 114; refine Calls.mono (bIsName_any _ _ hn) ?_; rw [HN1.out]; rintro e w2 ⟨rfl, rfl⟩))
                    go_quiet ((go_at_call 115; exact Same.quiet (named_any _ _ _ _ _ _ (HPre.out.ext (by repeat (first | exact Ext.refl _ | assumption | refine Ext.alloc ?_ _ | refine Ext.drew ?_ | refine Ext.drewN ?_ _ | (refine Ext.setCell ?_ (by simp <;> omega) _) | refine Ext.trans ?_ (by assumption)))))))
                    go_wp2_with (first | (go_at_call 57; refine Calls.mono (bWithin_yes _ _ _ _ ?_) ?_; (omega); rintro e w1 ⟨rfl, rfl⟩) | (go_at_call 57; refine Calls.mono (bWithin_no _ _ _ _ ?_) ?_; (omega); rintro e w1 ⟨rfl, rfl⟩))
                    go_ret2
                    exact Ret.mk' (by rw [HCH.out]; rfl) (HE.out.trans (by repeat (first | exact Ext.refl _ | assumption | refine Ext.alloc ?_ _ | refine Ext.drew ?_ | refine Ext.drewN ?_ _ | (refine Ext.setCell ?_ (by simp <;> omega) _) | refine Ext.trans ?_ (by assumption))))
                · have HCH := Lib.hid (hbad.out 15 (by rw [hsort.out, if_neg HN2.out, if_pos hkk]) (by decide))
                  go_wp2_with (first | (go_at_call 114; refine Calls.mono (bIsName_any _ _ hn) ?_; rw [HN1.out]; rintro e w2 ⟨rfl, rfl⟩))
                  go_quiet ((go_at_call 115; exact Same.quiet (named_any _ _ _ _ _ _ (HPre.out.ext (by repeat (first | exact Ext.refl _ | assumption | refine Ext.alloc ?_ _ | refine Ext.drew ?_ | refine Ext.drewN ?_ _ | (refine Ext.setCell ?_ (by simp <;> omega) _) | refine Ext.trans ?_ (by assumption)))))))
                  go_wp2_with (first | (go_at_call 57; refine Calls.mono (bWithin_yes _ _ _ _ ?_) ?_; (omega); rintro e w1 ⟨rfl, rfl⟩) | (go_at_call 57; refine Calls.mono (bWithin_no _ _ _ _ ?_) ?_; (omega); rintro e w1 ⟨rfl, rfl⟩))
                  go_ret2
                  exact Ret.mk' (by rw [HCH.out]; rfl) (HE.out.trans (by repeat (first | exact Ext.refl _ | assumption | refine Ext.alloc ?_ _ | refine Ext.drew ?_ | refine Ext.drewN ?_ _ | (refine Ext.setCell ?_ (by simp <;> omega) _) | refine Ext.trans ?_ (by assumption))))
            · have HN1 : Hid (nameB x.name = false) := Lib.hid (by simpa using n1)
              have HCH := Lib.hid (hbad.out 4 (by unfold sortErr; rw [if_pos HN1.out]) (by decide))
              clear n1
              go_wp2_with (first | (go_at_call 114; refine Calls.mono (bIsName_any _ _ hn) ?_; rw [HN1.out]; rintro e w2 ⟨rfl, rfl⟩))
              go_ret2
              exact Ret.mk' (by rw [HCH.out]; rfl) (HE.out.trans (by repeat (first | exact Ext.refl _ | assumption | refine Ext.alloc ?_ _ | refine Ext.drew ?_ | refine Ext.drewN ?_ _ | (refine Ext.setCell ?_ (by simp <;> omega) _) | refine Ext.trans ?_ (by assumption))))
          · obtain rfl : k = ss.length := by omega
            have HBB := Lib.hid hB; have HE := Lib.hid hx; clear hB hx
            have hch : ch = (0, 0) := by
              rw [HC.out]
              show (match firstBad ss ss.length with | some k => ((k : Int), sortErr ss k (ss.getD k TS.zero)) | none => (0, 0)) = _
              rw [firstBad_none HCL.out]
            have HCH := Lib.hid hch; clear HC hch
            go_wp2
            go_ret2
            exact Ret.mk' (by rw [HCH.out]; rfl) HE.out
  · have HC : Hid (chk ⟨name, body, ss⟩ = (0, 2)) := Lib.hid (by unfold chk; simp only [if_neg h1, if_pos hb0])
    unfold ChkV; rw [HC.out]
    clear h1 hcap HF
    go_enter Tryz.func74, Tryz.ntmps74
    go_wp2_with (first | (go_at_call 57; refine Calls.mono (bWithin_yes _ _ _ _ ?_) ?_; (omega); rintro e w1 ⟨rfl, rfl⟩) | (go_at_call 57; refine Calls.mono (bWithin_no _ _ _ _ ?_) ?_; (omega); rintro e w1 ⟨rfl, rfl⟩) | (go_at_call 114; refine Calls.mono (bIsName_any _ _ hnm) ?_; rw [HN.out]; rintro e w2 ⟨rfl, rfl⟩))
    go_ret2
    exact Ret.mk' rfl (by repeat (first | exact Ext.refl _ | assumption | refine Ext.alloc ?_ _ | refine Ext.drew ?_ | refine Ext.drewN ?_ _ | (refine Ext.setCell ?_ (by simp <;> omega) _) | refine Ext.trans ?_ (by assumption)))
end Go.Proofs.YtccdnieoaejgdaaGreatDoor
namespace Go.Proofs.YtccdnieoaejgdaaGreatDoor
open Go.RowKit

/-- The first of the first n numbers that meets p. -/
def idxOf (p : Int → Bool) (zs : List Int) : Nat → Option Nat
  | 0 => none
  | n + 1 => match idxOf p zs n with | some k => some k | none => if p (zs.getD n 0) = true then some n else none
theorem idxOf_none {p : Int → Bool} {zs : List Int} : ∀ {n : Nat}, (∀ k, k < n → p (zs.getD k 0) = false) → idxOf p zs n = none
  | 0, _ => rfl
  | n + 1, h => by rw [idxOf, idxOf_none (fun k hk => h k (by omega))]; simp only; rw [if_neg (by rw [h n (by omega)]; simp)]
theorem idxOf_some {p : Int → Bool} {zs : List Int} {k : Nat} (hc : ∀ j, j < k → p (zs.getD j 0) = false) (hb : p (zs.getD k 0) = true) : ∀ {n : Nat}, k < n → idxOf p zs n = some k
  | n + 1, hk => by
    rw [idxOf]
    by_cases h : k < n
    · rw [idxOf_some hc hb h]
    · obtain rfl : k = n := by omega
      rw [idxOf_none hc]; simp only; rw [if_pos hb]
theorem idxOf_isSome (p : Int → Bool) (zs : List Int) : ∀ n, (idxOf p zs n).isSome = true ↔ ∃ k, k < n ∧ p (zs.getD k 0) = true
  | 0 => by simp [idxOf]
  | n + 1 => by
    have ih := idxOf_isSome p zs n
    rw [idxOf]
    cases h : idxOf p zs n with
    | some k => rw [h] at ih; simp only [Option.isSome_some, true_iff] at ih ⊢; obtain ⟨k, hk, hp⟩ := ih; exact ⟨k, by omega, hp⟩
    | none =>
      rw [h] at ih; simp only [Option.isSome_none, Bool.false_eq_true, false_iff] at ih
      by_cases hp : p (zs.getD n 0) = true
      · simp only [if_pos hp, Option.isSome_some, true_iff]; exact ⟨n, by omega, hp⟩
      · simp only [if_neg hp, Option.isSome_none, Bool.false_eq_true, false_iff]
        rintro ⟨k, hk, hp'⟩
        by_cases hkn : k < n
        · exact ih ⟨k, hkn, hp'⟩
        · obtain rfl : k = n := by omega
          exact hp hp'

/-- What is asked of a function value that answers a bool. -/
def PredI (g : Nat) (lb : Array Value) (p : Int → Bool) (w : World) : Prop :=
  ∀ (W : World) (z : Int), Ext w W → Calls Tryz.prog g (#[.int .i64 z] ++ lb) W (Same (.bool (p z)) W)
set_option maxHeartbeats 1000000 in
theorem indexFunc_any (g : Nat) (lb : Array Value) (eg : ∀ args w, (callFunc g args).run Tryz.prog w = .ok (.enter g args) w) (p : Int → Bool) (A : Option Addr) (n c : Nat) (zs : List Int) (w : World) (h : RI w A n zs) (hp : PredI g lb p w) :
    Calls Tryz.prog 151 #[.slice A n c, .func (.func g) #[] lb] w (Same (.int .i64 (optI (idxOf p zs n))) w) := by
  have hbig := h.big
  go_enter Tryz.func151, Tryz.ntmps151
  go_wp2
  go_loop [8] (fun i => ∃ k : Nat, k ≤ n ∧ i = .int .i64 k ∧ ∀ j, j < k → p (zs.getD j 0) = false) (fun i => n - (intOf i).toNat)
  case atStart => exact ⟨0, Nat.zero_le _, rfl, fun j hj => absurd hj (by omega)⟩
  case round =>
    obtain ⟨k, hk, rfl, hno⟩ := hrel
    have HNO := Lib.hid hno; clear hno
    by_cases hlt : k < n
    · obtain ⟨b, off, rfl, hbw, hcell⟩ := h.2.2 (by omega)
      have c1 := hcell k hlt
      have HK : Hid (p (zs.getD k 0) = false → ∀ j, j < k + 1 → p (zs.getD j 0) = false) := Lib.hid (fun he j hj => by
        by_cases hj' : j < k
        · exact HNO.out j hj'
        · obtain rfl : j = k := by omega
          exact he)
      have HV := Lib.hid (fun he => idxOf_some (n := n) HNO.out he hlt)
      have cP := hp w (zs.getD k 0) (Ext.refl _)
      generalize zs.getD k 0 = z at *
      clear hcell h hp
      cases hpz : p z
      · rw [hpz] at cP
        have HPZ := Lib.hid hpz; clear hpz
        have CP := Lib.hid cP; clear cP
        go_wp2_with (go_at_fn g; refine Calls.mono CP.out ?_; rintro e W' ⟨rfl, rfl⟩)
        go_round
        case rel => exact ⟨k + 1, by omega, by go_num, HK.out HPZ.out⟩
        case measure => simp [intOf]; omega
      · rw [hpz] at cP
        have HPZ := Lib.hid hpz; clear hpz
        have CP := Lib.hid cP; clear cP
        go_wp2_with (go_at_fn g; refine Calls.mono CP.out ?_; rintro e W' ⟨rfl, rfl⟩)
        go_ret
        exact ⟨by rw [HV.out HPZ.out]; rfl, rfl⟩
    · obtain rfl : k = n := by omega
      have HV := Lib.hid (idxOf_none HNO.out)
      clear h hp
      go_wp2
      go_ret
      exact ⟨by rw [HV.out]; rfl, rfl⟩

theorem optI_dec (o : Option Nat) : decide (0 ≤ optI o) = o.isSome := by
  cases o with
  | none => rfl
  | some k => simp [optI]
set_option maxHeartbeats 1000000 in
theorem containsFunc_any (g : Nat) (lb : Array Value) (eg : ∀ args w, (callFunc g args).run Tryz.prog w = .ok (.enter g args) w) (p : Int → Bool) (A : Option Addr) (n c : Nat) (zs : List Int) (w : World) (h : RI w A n zs) (hp : PredI g lb p w) :
    Calls Tryz.prog 127 #[.slice A n c, .func (.func g) #[] lb] w (Same (.bool (idxOf p zs n).isSome) w) := by
  have HD := Lib.hid (optI_dec (idxOf p zs n))
  have cI := indexFunc_any g lb eg p A n c zs w h hp
  clear eg
  generalize optI (idxOf p zs n) = o at *
  have CI := Lib.hid cI; clear cI h hp
  go_enter Tryz.func127, Tryz.ntmps127
  go_wp2_with (go_at_call 151; refine Calls.mono CI.out ?_; rintro e W' ⟨rfl, rfl⟩)
  go_ret
  exact ⟨by rw [← HD.out]; rfl, rfl⟩

end Go.Proofs.YtccdnieoaejgdaaGreatDoor
