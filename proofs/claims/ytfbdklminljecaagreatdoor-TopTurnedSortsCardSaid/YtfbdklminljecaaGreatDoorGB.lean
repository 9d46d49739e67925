/-
  Walks: the reference's named and printsErr.
  Walk: the reference's CheckFount.
  Walks: slices.IndexFunc and ContainsFunc over ints; counts are checked.
  Walks: a fount and counts are checked (the program's check and CheckCase, the reference's Err and CheckCase).
  Walks: combined makes counts of two ones, sort by sort.
  Walks: sums of cases, what is left and what is lacking, metal.
  Walks: metal.
-/
import Derived.Test.YtfbdklminljecaaGreatDoorGA
import Derived.Test.YtfbdklminljecaaGreatDoorProg
import Derived.StillTailTactics
import Derived.Deep.AppendLies
import Derived.Deep.RegionHeld3
import Derived.Deep.RegionWith
namespace Go.Proofs.YtfbdklminljecaaGreatDoor
open Go.RowKit

/-- The first of the first n sorts that bears a name. -/
def nameAt (ss : List TS) (s : ByteArray) : Nat → Option Nat
  | 0 => none
  | n + 1 => match nameAt ss s n with | some k => some k | none => if (ss.getD n TS.zero).name = s then some n else none
def optI : Option Nat → Int | some k => k | none => -1
theorem nameAt_none {ss : List TS} {s : ByteArray} : ∀ {n : Nat}, (∀ k, k < n → (ss.getD k TS.zero).name ≠ s) → nameAt ss s n = none
  | 0, _ => rfl
  | n + 1, h => by rw [nameAt, nameAt_none (fun k hk => h k (by omega))]; simp only; rw [if_neg (h n (by omega))]
theorem nameAt_some {ss : List TS} {s : ByteArray} {k : Nat} (hc : ∀ j, j < k → (ss.getD j TS.zero).name ≠ s) (hb : (ss.getD k TS.zero).name = s) : ∀ {n : Nat}, k < n → nameAt ss s n = some k
  | n + 1, hk => by
    rw [nameAt]
    by_cases h : k < n
    · rw [nameAt_some hc hb h]
    · obtain rfl : k = n := by omega
      rw [nameAt_none hc]; simp only; rw [if_pos hb]
theorem nameAt_has (ss : List TS) (s : ByteArray) : ∀ n, n ≤ ss.length → (nameAt ss s n).isSome = hasName ss n s
  | 0, _ => rfl
  | n + 1, h => by
    have ih := nameAt_has ss s n (by omega)
    unfold hasName at ih ⊢
    rw [take_getD ss n (by omega), List.any_append, ← ih]
    simp only [nameAt, List.any_cons, List.any_nil, Bool.or_false]
    cases nameAt ss s n with
    | some k => simp
    | none => by_cases e : (ss.getD n TS.zero).name = s <;> simp only [e, if_true, if_false] <;> simp
theorem str_eq_true (a : ByteArray) : (a.toList == a.toList) = true := by simp
theorem str_eq_false {a b : ByteArray} (h : a ≠ b) : (a.toList == b.toList) = false := by
  rw [beq_eq_false_iff_ne, Go.ByteArray.toList_eq, Go.ByteArray.toList_eq]; exact fun e => h (bytes_ext e)

set_option maxHeartbeats 1000000 in
theorem named_any (A : Option Addr) (n c : Nat) (ss : List TS) (s : ByteArray) (w : World) (h : RT w A n ss) :
    Calls Tryz.prog 60 #[.slice A n c, .string s] w (Same (.int .i64 (optI (nameAt ss s n))) w) := by
  have hbig := h.big
  go_enter Tryz.func60, Tryz.ntmps60
  go_wp2
  go_loop [5] (fun i => ∃ k : Nat, k ≤ n ∧ i = .int .i64 k ∧ ∀ j, j < k → (ss.getD j TS.zero).name ≠ s) (fun i => n - (intOf i).toNat)
  case atStart => exact ⟨0, Nat.zero_le _, rfl, fun j hj => absurd hj (by omega)⟩
  case round =>
    obtain ⟨k, hk, rfl, hno⟩ := hrel
    have HNO := Lib.hid hno; clear hno
    by_cases hlt : k < n
    · obtain ⟨b, off, rfl, hbw, hcell⟩ := h.2.2 (by omega)
      obtain ⟨c1, _, _, _⟩ := hcell k hlt
      by_cases he : (ss.getD k TS.zero).name = s
      · have HV := Lib.hid (nameAt_some HNO.out he hlt)
        rw [he] at c1
        have HE := Lib.hid he; clear he hcell h
        go_wp2
        go_ret
        exact ⟨by rw [HV.out]; rfl, rfl⟩
      · have HK : Hid (∀ j, j < k + 1 → (ss.getD j TS.zero).name ≠ s) := fun j hj => by
          by_cases hj' : j < k
          · exact HNO.out j hj'
          · obtain rfl : j = k := by omega
            exact he
        generalize (ss.getD k TS.zero).name = x at *
        have e := str_eq_false he
        clear he hcell h
        go_wp2
        go_round
        case rel => exact ⟨k + 1, by omega, by go_num, HK.out⟩
        case measure => simp [intOf]; omega
    · obtain rfl : k = n := by omega
      have HV := Lib.hid (nameAt_none HNO.out)
      clear h
      go_wp2
      go_ret
      exact ⟨by rw [HV.out]; rfl, rfl⟩

def okB (c : Int) : Bool := decide (33 ≤ c) && decide (c ≤ 126)
def printTo (s : ByteArray) (n : Nat) : Prop := ∀ (j : Nat) (h : j < s.size), j < n → okB (s[j].toNat : Int) = true
theorem printable_of (s : ByteArray) (h : printTo s s.size) : printable s = true := by
  unfold printable
  rw [List.all_eq_true]
  intro b hb
  obtain ⟨j, hj, rfl⟩ := List.getElem_of_mem hb
  exact h j (by simpa using hj) (by simpa using hj)
theorem printable_bad (s : ByteArray) (k : Nat) (h : k < s.size) (hb : okB (s[k].toNat : Int) = false) : printable s = false := by
  unfold printable
  rw [List.all_eq_false]
  exact ⟨s[k], by have e : s[k] = s.data.toList[k]'(by simpa using h) := rfl; rw [e]; exact List.getElem_mem _, by rw [Bool.not_eq_true]; exact hb⟩
theorem hasText_none {ss : List TS} {s : ByteArray} : ∀ {n : Nat}, n ≤ ss.length → (∀ j, j < n → ¬ ((ss.getD j TS.zero).kind ≠ 3 ∧ (ss.getD j TS.zero).text = s)) → hasText ss n s = false
  | 0, _, _ => rfl
  | n + 1, hn, h => by
    have ih := hasText_none (n := n) (by omega) (fun j hj => h j (by omega))
    unfold hasText at ih ⊢
    rw [take_getD ss n (by omega), List.any_append, ih]
    have := h n (by omega)
    simp only [List.any_cons, List.any_nil, Bool.or_false, Bool.false_or]
    rw [Bool.and_eq_false_iff, decide_eq_false_iff_not, decide_eq_false_iff_not]
    by_cases hk : (ss.getD n TS.zero).kind = 3
    · left; simp only [ne_eq, hk, not_true, not_false_eq_true]
    · right; exact fun e => this ⟨hk, e⟩
theorem hasText_some {ss : List TS} {s : ByteArray} {k n : Nat} (hk : k < n) (hn : n ≤ ss.length) (h1 : (ss.getD k TS.zero).kind ≠ 3) (h2 : (ss.getD k TS.zero).text = s) : hasText ss n s = true := by
  unfold hasText
  rw [List.any_eq_true]
  refine ⟨ss.getD k TS.zero, ?_, by simp only [h2]; simp only [decide_eq_true h1, decide_true, Bool.and_self]⟩
  rw [List.getD_eq_getElem?_getD, List.getElem?_eq_getElem (by omega)]
  exact List.mem_take_iff_getElem.2 ⟨k, by omega, rfl⟩

theorem take_at (ss : List TS) (n k : Nat) (h : k < n) : (ss.take n).getD k TS.zero = ss.getD k TS.zero := by
  simp [List.getD_eq_getElem?_getD, h]
set_option maxHeartbeats 4000000 in
set_option maxRecDepth 100000 in
theorem printsErr_any (A : Option Addr) (n c : Nat) (ss : List TS) (K : Int) (s : ByteArray) (w : World) (h : RT w A n (ss.take n)) (hn : n ≤ ss.length) (hK : 1 ≤ K ∧ K ≤ 3) (hs : s.size ≤ maxLen) :
    Calls Tryz.prog 61 #[.slice A n c, .int .i64 K, .string s] w (Same (.int .i64 (textErr ss n K s)) w) := by
  have hbig := h.big
  unfold maxLen at hs
  have HT : Hid (textErr ss n K s = if printsB K s = false then 3 else if K ≠ 3 ∧ hasText ss n s = true then 13 else 0) := Lib.hid rfl
  by_cases hin : printLo K ≤ (s.size : Int) ∧ (s.size : Int) ≤ printHi K
  · have HP : Hid (printsB K s = printable s) := Lib.hid (by unfold printsB; simp [hin])
    have hk3 : K = 1 ∨ K = 2 ∨ K = 3 := by omega
    rcases hk3 with rfl | rfl | rfl
    · replace hin : (1 : Int) ≤ (s.size : Int) ∧ (s.size : Int) ≤ 1 := hin
      go_enter Tryz.func61, Tryz.ntmps61
      go_wp2_with (first | (go_at_call 13; refine Calls.mono (bWithin_yes _ _ _ _ ?_) ?_; (omega); rintro e w1 ⟨rfl, rfl⟩) | (go_at_call 13; refine Calls.mono (bWithin_no _ _ _ _ ?_) ?_; (omega); rintro e w1 ⟨rfl, rfl⟩))
      go_loop [9] (fun i => ∃ k : Nat, k ≤ s.size ∧ i = .int .i64 k ∧ printTo s k) (fun i => s.size - (intOf i).toNat)
      case atStart => exact ⟨0, Nat.zero_le _, rfl, fun j h hj => absurd hj (by omega)⟩
      case round =>
        obtain ⟨k, hk, rfl, hpt⟩ := hrel
        have HPT := Lib.hid hpt; clear hpt
        by_cases hlt : k < s.size
        · have HB := Lib.hid (printable_bad s k hlt)
          have HN : Hid (okB (s[k].toNat : Int) = true → printTo s (k + 1)) := Lib.hid (fun hb j hj hjk => by
            by_cases hj' : j < k
            · exact HPT.out j hj hj'
            · obtain rfl : j = k := by omega
              exact hb)
          have b1 : (s[k].toNat : Int) < 256 := by have := s[k].toNat_lt; omega
          have b2 : (0 : Int) ≤ (s[k].toNat : Int) := by omega
          generalize hcc : (s[k].toNat : Int) = cc at *
          by_cases hc1 : cc < 33
          · go_wp2
            go_ret
            exact ⟨by rw [HT.out, if_pos (by rw [HP.out, HB.out (by unfold okB; rw [Bool.and_eq_false_iff, decide_eq_false_iff_not, decide_eq_false_iff_not]; omega)])]; rfl, rfl⟩
          · by_cases hc2 : 126 < cc
            · go_wp2
              go_ret
              exact ⟨by rw [HT.out, if_pos (by rw [HP.out, HB.out (by unfold okB; rw [Bool.and_eq_false_iff, decide_eq_false_iff_not, decide_eq_false_iff_not]; omega)])]; rfl, rfl⟩
            · go_wp2
              go_round
              case rel => exact ⟨k + 1, by omega, by go_num, HN.out (by unfold okB; rw [Bool.and_eq_true, decide_eq_true_eq, decide_eq_true_eq]; omega)⟩
              case measure => simp [intOf]; omega
        · obtain rfl : k = s.size := by omega
          have HG := Lib.hid (printable_of s HPT.out)
          go_wp2
          go_loop [10] (fun i => ∃ k : Nat, k ≤ n ∧ i = .int .i64 k ∧ ∀ j, j < k → ¬ ((ss.getD j TS.zero).kind ≠ 3 ∧ (ss.getD j TS.zero).text = s)) (fun i => n - (intOf i).toNat)
          case atStart => exact ⟨0, Nat.zero_le _, rfl, fun j hj => absurd hj (by omega)⟩
          case round =>
            obtain ⟨k, hk, rfl, hno⟩ := hrel
            have HNO := Lib.hid hno; clear hno
            by_cases hlt : k < n
            · obtain ⟨b, off, rfl, hbw, hcell⟩ := h.2.2 (by omega)
              obtain ⟨_, c2, c3, _⟩ := hcell k hlt
              have hkn : (k : Int) < (n : Int) := by omega
              rw [take_at ss n k hlt] at c2 c3
              have HK : Hid (¬ ((ss.getD k TS.zero).kind ≠ 3 ∧ (ss.getD k TS.zero).text = s) → ∀ j, j < k + 1 → ¬ ((ss.getD j TS.zero).kind ≠ 3 ∧ (ss.getD j TS.zero).text = s)) := Lib.hid (fun he j hj => by
                by_cases hj' : j < k
                · exact HNO.out j hj'
                · obtain rfl : j = k := by omega
                  exact he)
              have HY := Lib.hid (fun h1 h2 => hasText_some (ss := ss) (s := s) hlt hn h1 h2)
              generalize (ss.getD k TS.zero).kind = kk at *
              generalize (ss.getD k TS.zero).text = tt at *
              clear hcell h
              by_cases h3 : kk = 3
              · subst h3
                go_wp2
                go_round
                case rel => exact ⟨k + 1, by omega, by go_num, HK.out (by simp)⟩
                case measure => simp [intOf]; omega
              · have e3 : (kk != 3) = true := by simpa using h3
                by_cases he : tt = s
                · subst he
                  go_wp2
                  go_ret
                  exact ⟨by rw [HT.out, if_neg (by rw [HP.out, HG.out]; simp), if_pos ⟨by decide, HY.out h3 (by first | exact rfl | trivial)⟩]; rfl, rfl⟩
                · have e := str_eq_false he
                  have HE := Lib.hid he; clear he
                  go_wp2
                  go_round
                  case rel => exact ⟨k + 1, by omega, by go_num, HK.out (fun hh => HE.out hh.2)⟩
                  case measure => simp [intOf]; omega
            · obtain rfl : k = n := by omega
              have HV := Lib.hid (hasText_none hn HNO.out)
              clear h
              go_wp2
              go_ret
              exact ⟨by rw [HT.out, if_neg (by rw [HP.out, HG.out]; simp), if_neg (by rw [HV.out]; simp)]; rfl, rfl⟩
    · replace hin : (2 : Int) ≤ (s.size : Int) ∧ (s.size : Int) ≤ 4 := hin
      go_enter Tryz.func61, Tryz.ntmps61
      go_wp2_with (first | (go_at_call 13; refine Calls.mono (bWithin_yes _ _ _ _ ?_) ?_; (omega); rintro e w1 ⟨rfl, rfl⟩) | (go_at_call 13; refine Calls.mono (bWithin_no _ _ _ _ ?_) ?_; (omega); rintro e w1 ⟨rfl, rfl⟩))
      go_loop [9] (fun i => ∃ k : Nat, k ≤ s.size ∧ i = .int .i64 k ∧ printTo s k) (fun i => s.size - (intOf i).toNat)
      case atStart => exact ⟨0, Nat.zero_le _, rfl, fun j h hj => absurd hj (by omega)⟩
      case round =>
        obtain ⟨k, hk, rfl, hpt⟩ := hrel
        have HPT := Lib.hid hpt; clear hpt
        by_cases hlt : k < s.size
        · have HB := Lib.hid (printable_bad s k hlt)
          have HN : Hid (okB (s[k].toNat : Int) = true → printTo s (k + 1)) := Lib.hid (fun hb j hj hjk => by
            by_cases hj' : j < k
            · exact HPT.out j hj hj'
            · obtain rfl : j = k := by omega
              exact hb)
          have b1 : (s[k].toNat : Int) < 256 := by have := s[k].toNat_lt; omega
          have b2 : (0 : Int) ≤ (s[k].toNat : Int) := by omega
          generalize hcc : (s[k].toNat : Int) = cc at *
          by_cases hc1 : cc < 33
          · go_wp2
            go_ret
            exact ⟨by rw [HT.out, if_pos (by rw [HP.out, HB.out (by unfold okB; rw [Bool.and_eq_false_iff, decide_eq_false_iff_not, decide_eq_false_iff_not]; omega)])]; rfl, rfl⟩
          · by_cases hc2 : 126 < cc
            · go_wp2
              go_ret
              exact ⟨by rw [HT.out, if_pos (by rw [HP.out, HB.out (by unfold okB; rw [Bool.and_eq_false_iff, decide_eq_false_iff_not, decide_eq_false_iff_not]; omega)])]; rfl, rfl⟩
            · go_wp2
              go_round
              case rel => exact ⟨k + 1, by omega, by go_num, HN.out (by unfold okB; rw [Bool.and_eq_true, decide_eq_true_eq, decide_eq_true_eq]; omega)⟩
              case measure => simp [intOf]; omega
        · obtain rfl : k = s.size := by omega
          have HG := Lib.hid (printable_of s HPT.out)
          go_wp2
          go_loop [10] (fun i => ∃ k : Nat, k ≤ n ∧ i = .int .i64 k ∧ ∀ j, j < k → ¬ ((ss.getD j TS.zero).kind ≠ 3 ∧ (ss.getD j TS.zero).text = s)) (fun i => n - (intOf i).toNat)
          case atStart => exact ⟨0, Nat.zero_le _, rfl, fun j hj => absurd hj (by omega)⟩
          case round =>
            obtain ⟨k, hk, rfl, hno⟩ := hrel
            have HNO := Lib.hid hno; clear hno
            by_cases hlt : k < n
            · obtain ⟨b, off, rfl, hbw, hcell⟩ := h.2.2 (by omega)
              obtain ⟨_, c2, c3, _⟩ := hcell k hlt
              have hkn : (k : Int) < (n : Int) := by omega
              rw [take_at ss n k hlt] at c2 c3
              have HK : Hid (¬ ((ss.getD k TS.zero).kind ≠ 3 ∧ (ss.getD k TS.zero).text = s) → ∀ j, j < k + 1 → ¬ ((ss.getD j TS.zero).kind ≠ 3 ∧ (ss.getD j TS.zero).text = s)) := Lib.hid (fun he j hj => by
                by_cases hj' : j < k
                · exact HNO.out j hj'
                · obtain rfl : j = k := by omega
                  exact he)
              have HY := Lib.hid (fun h1 h2 => hasText_some (ss := ss) (s := s) hlt hn h1 h2)
              generalize (ss.getD k TS.zero).kind = kk at *
              generalize (ss.getD k TS.zero).text = tt at *
              clear hcell h
              by_cases h3 : kk = 3
              · subst h3
                go_wp2
                go_round
                case rel => exact ⟨k + 1, by omega, by go_num, HK.out (by simp)⟩
                case measure => simp [intOf]; omega
              · have e3 : (kk != 3) = true := by simpa using h3
                by_cases he : tt = s
                · subst he
                  go_wp2
                  go_ret
                  exact ⟨by rw [HT.out, if_neg (by rw [HP.out, HG.out]; simp), if_pos ⟨by decide, HY.out h3 (by first | exact rfl | trivial)⟩]; rfl, rfl⟩
                · have e := str_eq_false he
                  have HE := Lib.hid he; clear he
                  go_wp2
                  go_round
                  case rel => exact ⟨k + 1, by omega, by go_num, HK.out (fun hh => HE.out hh.2)⟩
                  case measure => simp [intOf]; omega
            · obtain rfl : k = n := by omega
              have HV := Lib.hid (hasText_none hn HNO.out)
              clear h
              go_wp2
              go_ret
              exact ⟨by rw [HT.out, if_neg (by rw [HP.out, HG.out]; simp), if_neg (by rw [HV.out]; simp)]; rfl, rfl⟩
    · replace hin : (0 : Int) ≤ (s.size : Int) ∧ (s.size : Int) ≤ 0 := hin
      go_enter Tryz.func61, Tryz.ntmps61
      go_wp2_with (first | (go_at_call 13; refine Calls.mono (bWithin_yes _ _ _ _ ?_) ?_; (omega); rintro e w1 ⟨rfl, rfl⟩) | (go_at_call 13; refine Calls.mono (bWithin_no _ _ _ _ ?_) ?_; (omega); rintro e w1 ⟨rfl, rfl⟩))
      go_loop [9] (fun i => ∃ k : Nat, k ≤ s.size ∧ i = .int .i64 k ∧ printTo s k) (fun i => s.size - (intOf i).toNat)
      case atStart => exact ⟨0, Nat.zero_le _, rfl, fun j h hj => absurd hj (by omega)⟩
      case round =>
        obtain ⟨k, hk, rfl, hpt⟩ := hrel
        have HPT := Lib.hid hpt; clear hpt
        by_cases hlt : k < s.size
        · have HB := Lib.hid (printable_bad s k hlt)
          have HN : Hid (okB (s[k].toNat : Int) = true → printTo s (k + 1)) := Lib.hid (fun hb j hj hjk => by
            by_cases hj' : j < k
            · exact HPT.out j hj hj'
            · obtain rfl : j = k := by omega
              exact hb)
          have b1 : (s[k].toNat : Int) < 256 := by have := s[k].toNat_lt; omega
          have b2 : (0 : Int) ≤ (s[k].toNat : Int) := by omega
          generalize hcc : (s[k].toNat : Int) = cc at *
          by_cases hc1 : cc < 33
          · go_wp2
            go_ret
            exact ⟨by rw [HT.out, if_pos (by rw [HP.out, HB.out (by unfold okB; rw [Bool.and_eq_false_iff, decide_eq_false_iff_not, decide_eq_false_iff_not]; omega)])]; rfl, rfl⟩
          · by_cases hc2 : 126 < cc
            · go_wp2
              go_ret
              exact ⟨by rw [HT.out, if_pos (by rw [HP.out, HB.out (by unfold okB; rw [Bool.and_eq_false_iff, decide_eq_false_iff_not, decide_eq_false_iff_not]; omega)])]; rfl, rfl⟩
            · go_wp2
              go_round
              case rel => exact ⟨k + 1, by omega, by go_num, HN.out (by unfold okB; rw [Bool.and_eq_true, decide_eq_true_eq, decide_eq_true_eq]; omega)⟩
              case measure => simp [intOf]; omega
        · obtain rfl : k = s.size := by omega
          have HG := Lib.hid (printable_of s HPT.out)
          go_wp2
          refine wp_loop_rounds 1 ?_
          rw [rounds_succ]
          go_wp2
          all_goals go_ret
          all_goals exact ⟨by rw [HT.out, if_neg (by rw [HP.out, HG.out]; simp), if_neg (by simp)]; rfl, rfl⟩
  · have HP : Hid (printsB K s = false) := Lib.hid (by unfold printsB; rw [Bool.and_eq_false_iff, Bool.and_eq_false_iff, decide_eq_false_iff_not, decide_eq_false_iff_not]; omega)
    have hk3 : K = 1 ∨ K = 2 ∨ K = 3 := by omega
    rcases hk3 with rfl | rfl | rfl
    · replace hin : ¬ ((1 : Int) ≤ (s.size : Int) ∧ (s.size : Int) ≤ 1) := hin
      go_enter Tryz.func61, Tryz.ntmps61
      go_wp2_with (first | (go_at_call 13; refine Calls.mono (bWithin_yes _ _ _ _ ?_) ?_; (omega); rintro e w1 ⟨rfl, rfl⟩) | (go_at_call 13; refine Calls.mono (bWithin_no _ _ _ _ ?_) ?_; (omega); rintro e w1 ⟨rfl, rfl⟩))
      go_ret
      exact ⟨by rw [HT.out, if_pos HP.out]; rfl, rfl⟩
    · replace hin : ¬ ((2 : Int) ≤ (s.size : Int) ∧ (s.size : Int) ≤ 4) := hin
      go_enter Tryz.func61, Tryz.ntmps61
      go_wp2_with (first | (go_at_call 13; refine Calls.mono (bWithin_yes _ _ _ _ ?_) ?_; (omega); rintro e w1 ⟨rfl, rfl⟩) | (go_at_call 13; refine Calls.mono (bWithin_no _ _ _ _ ?_) ?_; (omega); rintro e w1 ⟨rfl, rfl⟩))
      go_ret
      exact ⟨by rw [HT.out, if_pos HP.out]; rfl, rfl⟩
    · replace hin : ¬ ((0 : Int) ≤ (s.size : Int) ∧ (s.size : Int) ≤ 0) := hin
      go_enter Tryz.func61, Tryz.ntmps61
      go_wp2_with (first | (go_at_call 13; refine Calls.mono (bWithin_yes _ _ _ _ ?_) ?_; (omega); rintro e w1 ⟨rfl, rfl⟩) | (go_at_call 13; refine Calls.mono (bWithin_no _ _ _ _ ?_) ?_; (omega); rintro e w1 ⟨rfl, rfl⟩))
      go_ret
      exact ⟨by rw [HT.out, if_pos HP.out]; rfl, rfl⟩
end Go.Proofs.YtfbdklminljecaaGreatDoor
namespace Go.Proofs.YtfbdklminljecaaGreatDoor
open Go.RowKit

theorem Same.quiet {P : Program} {f : FuncId} {args : Array Value} {w : World} {n : Nat} {v : Value} (h : Calls P f args (w.drewN n) (Same v (w.drewN n))) :
    Calls P f args (w.drewN n) fun e w'' => e = .returned v ∧ ∃ m, w'' = w.drewN m := h.mono fun _ _ ⟨he, hm⟩ => ⟨he, n, hm.symm⟩
theorem Same.quiet_add {P : Program} {f : FuncId} {args : Array Value} {w : World} {a n : Nat} {v : Value} (h : Calls P f args (w.drewN (a + n)) (Same v (w.drewN (a + n)))) :
    Calls P f args (w.drewN (a + n)) fun e w'' => e = .returned v ∧ ∃ m, w'' = w.drewN (a + m) := h.mono fun _ _ ⟨he, hm⟩ => ⟨he, n, hm.symm⟩

theorem RT.take {w : World} {A : Option Addr} {n k : Nat} {ss : List TS} (h : RT w A n ss) (hk : k ≤ n) : RT w A k (ss.take k) := by
  obtain ⟨h1, h2, h3⟩ := h
  refine ⟨by rw [List.length_take]; omega, by omega, fun hp => ?_⟩
  obtain ⟨b, off, ha, hb, hc⟩ := h3 (by omega)
  exact ⟨b, off, ha, hb, fun j hj => by rw [take_at ss k j hj]; exact hc j (by omega)⟩
theorem nameAt_take (ss : List TS) (s : ByteArray) (k : Nat) : ∀ n, n ≤ k → nameAt (ss.take k) s n = nameAt ss s n
  | 0, _ => rfl
  | n + 1, h => by rw [nameAt, nameAt, nameAt_take ss s k n (by omega), take_at ss k n (by omega)]
theorem optI_neg {o : Option Nat} (h : o.isSome = false) : optI o = -1 := by cases o <;> simp_all [optI]
theorem optI_pos {o : Option Nat} (h : o.isSome = true) : 0 ≤ optI o := by cases o <;> simp_all [optI]

set_option maxHeartbeats 8000000 in
set_option maxRecDepth 100000 in
theorem rCheckFount_any (f : FT) (A : Option Addr) (c : Nat) (w : World) (hf : FR w A c f) :
    Calls Tryz.prog 42 #[f.val A c] w (Ret (ChkV f) w) := by
  obtain ⟨name, body, ss⟩ := f
  have hnm := hf.nm
  have hbig := hf.rt.big
  have hcap := hf.cap
  simp only [FT.val, maxLen] at *
  have HF := Lib.hid hf; clear hf
  by_cases h1 : nameB name = false
  · have HC : Hid (chk ⟨name, body, ss⟩ = (0, 4)) := Lib.hid (by unfold chk; simp [h1])
    unfold ChkV; rw [HC.out]
    have HN := Lib.hid h1; clear h1
    go_enter Tryz.func42, Tryz.ntmps42
    go_wp2_with (first | (go_at_call 59; refine Calls.mono (bIsName_any _ _ hnm) ?_; rw [HN.out]; rintro e w2 ⟨rfl, rfl⟩))
    go_ret2
    exact Ret.mk' rfl (by repeat (first | exact Ext.refl _ | assumption | refine Ext.alloc ?_ _ | refine Ext.drew ?_ | refine Ext.drewN ?_ _ | (refine Ext.setCell ?_ (by simp <;> omega) _) | refine Ext.trans ?_ (by assumption)))
  have HN : Hid (nameB name = true) := Lib.hid (by simpa using h1)
  by_cases hb0 : 1 ≤ body ∧ body ≤ 144
  · by_cases hl0 : ss.length = 0
    · have HC : Hid (chk ⟨name, body, ss⟩ = (0, 10)) := Lib.hid (by unfold chk; simp [h1, hb0, hl0])
      unfold ChkV; rw [HC.out]
      rw [hl0]; clear hl0 h1 hcap HF
      go_enter Tryz.func42, Tryz.ntmps42
      go_wp2_with (first | (go_at_call 13; refine Calls.mono (bWithin_yes _ _ _ _ ?_) ?_; (omega); rintro e w1 ⟨rfl, rfl⟩) | (go_at_call 13; refine Calls.mono (bWithin_no _ _ _ _ ?_) ?_; (omega); rintro e w1 ⟨rfl, rfl⟩) | (go_at_call 59; refine Calls.mono (bIsName_any _ _ hnm) ?_; rw [HN.out]; rintro e w2 ⟨rfl, rfl⟩))
      go_ret2
      exact Ret.mk' rfl (by repeat (first | exact Ext.refl _ | assumption | refine Ext.alloc ?_ _ | refine Ext.drew ?_ | refine Ext.drewN ?_ _ | (refine Ext.setCell ?_ (by simp <;> omega) _) | refine Ext.trans ?_ (by assumption)))
    · by_cases hl1 : 120 < ss.length
      · have HC : Hid (chk ⟨name, body, ss⟩ = (0, 8)) := Lib.hid (by unfold chk; simp only [if_neg h1, if_neg (show ¬ ¬ (1 ≤ body ∧ body ≤ 144) by simpa using hb0), if_neg hl0, if_pos hl1])
        unfold ChkV; rw [HC.out]
        have e1 : (120 : Int) < (ss.length : Int) := by omega
        have e2 : ((ss.length : Int) == 0) = false := (by rw [beq_eq_false_iff_ne]; omega)
        clear hl0 h1 hcap HF
        go_enter Tryz.func42, Tryz.ntmps42
        go_wp2_with (first | (go_at_call 13; refine Calls.mono (bWithin_yes _ _ _ _ ?_) ?_; (omega); rintro e w1 ⟨rfl, rfl⟩) | (go_at_call 13; refine Calls.mono (bWithin_no _ _ _ _ ?_) ?_; (omega); rintro e w1 ⟨rfl, rfl⟩) | (go_at_call 59; refine Calls.mono (bIsName_any _ _ hnm) ?_; rw [HN.out]; rintro e w2 ⟨rfl, rfl⟩))
        go_ret2
        exact Ret.mk' rfl (by repeat (first | exact Ext.refl _ | assumption | refine Ext.alloc ?_ _ | refine Ext.drew ?_ | refine Ext.drewN ?_ _ | (refine Ext.setCell ?_ (by simp <;> omega) _) | refine Ext.trans ?_ (by assumption)))
      · have HC := Lib.hid (chk_ok (f := ⟨name, body, ss⟩) HN.out hb0 (by show 1 ≤ ss.length; omega) (by show ss.length ≤ 120; omega))
        have e1 : ¬ (120 : Int) < (ss.length : Int) := by omega
        have e2 : ((ss.length : Int) == 0) = false := (by rw [beq_eq_false_iff_ne]; omega)
        unfold ChkV
        generalize chk ⟨name, body, ss⟩ = ch at *
        clear h1
        go_enter Tryz.func42, Tryz.ntmps42
        go_wp2_with (first | (go_at_call 13; refine Calls.mono (bWithin_yes _ _ _ _ ?_) ?_; (omega); rintro e w1 ⟨rfl, rfl⟩) | (go_at_call 13; refine Calls.mono (bWithin_no _ _ _ _ ?_) ?_; (omega); rintro e w1 ⟨rfl, rfl⟩) | (go_at_call 59; refine Calls.mono (bIsName_any _ _ hnm) ?_; rw [HN.out]; rintro e w2 ⟨rfl, rfl⟩))
        go_loopw [4] (fun i wr => ∃ k : Nat, k ≤ ss.length ∧ i = .int .i64 k ∧ cleanTo ss k ∧ Ext w wr ∧ Blk wr w.heap.size 24 #[.string name, .int .i64 body, .slice A ss.length c]) (fun i _ => ss.length - (intOf i).toNat)
        case atStart => exact ⟨0, Nat.zero_le _, rfl, fun k hk => absurd hk (by omega), (by repeat (first | exact Ext.refl _ | assumption | refine Ext.alloc ?_ _ | refine Ext.drew ?_ | refine Ext.drewN ?_ _ | (refine Ext.setCell ?_ (by simp <;> omega) _) | refine Ext.trans ?_ (by assumption))), Blk.new _ _ _⟩
        case round =>
          obtain ⟨k, hk, rfl, hcl, hx, hB⟩ := hrel
          have HCL := Lib.hid hcl; clear hcl
          obtain ⟨f0, f1, f2, fl⟩ := hB.c3
          by_cases hlt : k < ss.length
          · obtain ⟨hn, ht, _, _⟩ := HF.out.sz k hlt
            have hRT := HF.out.rt.ext hx
            have HRT : Hid (RT wr A ss.length ss) := Lib.hid hRT
            obtain ⟨b, off, rfl, hbw, hcell⟩ := hRT.2.2 (by show 0 < ss.length; omega)
            obtain ⟨c1, c2, c3, c4⟩ := hcell k hlt
            have hkn : (k : Int) < (ss.length : Int) := by omega
            have hkc : (k : Int) ≤ (c : Int) := by omega
            have hkc' : k ≤ c := by omega
            have HX : Hid (sortErr ss k (ss.getD k TS.zero) = _) := Lib.hid rfl
            unfold sortErr at HX
            have HNA := Lib.hid (nameAt_has ss (ss.getD k TS.zero).name k hk)
            generalize hxd : ss.getD k TS.zero = x at *
            have HXD := Lib.hid hxd; clear hxd hcell hRT
            have HBB := Lib.hid hB; have HE := Lib.hid hx; clear hB hx
            have hbad : Hid (∀ z, sortErr ss k x = z → z ≠ 0 → ch = ((k : Int), z)) := Lib.hid (fun z hz hz0 => by
              rw [HC.out]
              show (match firstBad ss ss.length with | some k => ((k : Int), sortErr ss k (ss.getD k TS.zero)) | none => (0, 0)) = _
              rw [firstBad_some HCL.out hlt (by rw [HXD.out, hz]; exact hz0)]
              simp only
              rw [HXD.out, hz])
            by_cases n1 : nameB x.name = true
            · have HN1 := Lib.hid n1; clear n1
              have HPre := Lib.hid (HRT.out.take hk)
              have hsort : Hid (sortErr ss k x = if hasName ss k x.name = true then 5 else if ¬ (1 ≤ x.kind ∧ x.kind ≤ 3) then 15 else if ¬ (1 ≤ x.width ∧ x.width ≤ 100000) then 2 else textErr ss k x.kind x.text) := Lib.hid (by unfold sortErr; rw [if_neg (by rw [HN1.out]; simp)])
              have hNT : Hid (nameAt (ss.take k) x.name k = nameAt ss x.name k) := Lib.hid (nameAt_take ss x.name k k (Nat.le_refl _))
              by_cases n2 : hasName ss k x.name = true
              · have HCH := Lib.hid (hbad.out 5 (by rw [hsort.out, if_pos n2]) (by decide))
                have hi : 0 ≤ optI (nameAt (ss.take k) x.name k) := by rw [hNT.out]; exact optI_pos (by rw [HNA.out, n2])
                clear n2
                go_wp2_with (first | (go_at_call 59; refine Calls.mono (bIsName_any _ _ hn) ?_; rw [HN1.out]; rintro e w2 ⟨rfl, rfl⟩))
                go_quiet ((go_at_call 60; exact Same.quiet (named_any _ _ _ _ _ _ (HPre.out.ext (by repeat (first | exact Ext.refl _ | assumption | refine Ext.alloc ?_ _ | refine Ext.drew ?_ | refine Ext.drewN ?_ _ | (refine Ext.setCell ?_ (by simp <;> omega) _) | refine Ext.trans ?_ (by assumption)))))))
                go_wp2
                go_ret2
                exact Ret.mk' (by rw [HCH.out]; rfl) (HE.out.trans (by repeat (first | exact Ext.refl _ | assumption | refine Ext.alloc ?_ _ | refine Ext.drew ?_ | refine Ext.drewN ?_ _ | (refine Ext.setCell ?_ (by simp <;> omega) _) | refine Ext.trans ?_ (by assumption))))
              · have hi : ¬ 0 ≤ optI (nameAt (ss.take k) x.name k) := by rw [hNT.out, optI_neg (by rw [HNA.out]; simpa using n2)]; omega
                have HN2 := Lib.hid n2; clear n2
                by_cases hkk : 1 ≤ x.kind ∧ x.kind ≤ 3
                · by_cases hww : 1 ≤ x.width ∧ x.width ≤ 100000
                  · have HZ : Hid (sortErr ss k x = textErr ss k x.kind x.text) := Lib.hid (by rw [hsort.out, if_neg HN2.out, if_neg (by simpa using hkk), if_neg (by simpa using hww)])
                    have cP := fun W h => printsErr_any (some ⟨b, off, none⟩) k c ss x.kind x.text W h hk hkk ht
                    generalize textErr ss k x.kind x.text = z at *
                    have CP := Lib.hid cP; clear cP
                    by_cases hz : z = 0
                    · subst hz
                      go_wp2_with (first | (go_at_call 59; refine Calls.mono (bIsName_any _ _ hn) ?_; rw [HN1.out]; rintro e w2 ⟨rfl, rfl⟩))
                      go_quiet ((go_at_call 60; exact Same.quiet (named_any _ _ _ _ _ _ (HPre.out.ext (by repeat (first | exact Ext.refl _ | assumption | refine Ext.alloc ?_ _ | refine Ext.drew ?_ | refine Ext.drewN ?_ _ | (refine Ext.setCell ?_ (by simp <;> omega) _) | refine Ext.trans ?_ (by assumption)))))))
                      go_wp2_with (first | (go_at_call 13; refine Calls.mono (bWithin_yes _ _ _ _ ?_) ?_; (omega); rintro e w1 ⟨rfl, rfl⟩) | (go_at_call 13; refine Calls.mono (bWithin_no _ _ _ _ ?_) ?_; (omega); rintro e w1 ⟨rfl, rfl⟩))
                      go_quiet ((go_at_call 61; first | exact Same.quiet (CP.out _ (HPre.out.ext (by repeat (first | exact Ext.refl _ | assumption | refine Ext.alloc ?_ _ | refine Ext.drew ?_ | refine Ext.drewN ?_ _ | (refine Ext.setCell ?_ (by simp <;> omega) _) | refine Ext.trans ?_ (by assumption))))) | exact Same.quiet_add (CP.out _ (HPre.out.ext (by repeat (first | exact Ext.refl _ | assumption | refine Ext.alloc ?_ _ | refine Ext.drew ?_ | refine Ext.drewN ?_ _ | (refine Ext.setCell ?_ (by simp <;> omega) _) | refine Ext.trans ?_ (by assumption)))))))
                      go_wp2
                      go_roundw
                      case rel => exact ⟨k + 1, by omega, by go_num, cleanTo_succ HCL.out (by rw [HXD.out]; exact HZ.out), HE.out.trans (by repeat (first | exact Ext.refl _ | assumption | refine Ext.alloc ?_ _ | refine Ext.drew ?_ | refine Ext.drewN ?_ _ | (refine Ext.setCell ?_ (by simp <;> omega) _) | refine Ext.trans ?_ (by assumption))), HBB.out.ext (by repeat (first | exact Ext.refl _ | assumption | refine Ext.alloc ?_ _ | refine Ext.drew ?_ | refine Ext.drewN ?_ _ | (refine Ext.setCell ?_ (by simp <;> omega) _) | refine Ext.trans ?_ (by assumption)))⟩
                      case measure => simp [intOf]; omega
                    · have HCH := Lib.hid (hbad.out z HZ.out hz)
                      have e0 : (z != 0) = true := by simpa using hz
                      clear hz
                      go_wp2_with (first | (go_at_call 59; refine Calls.mono (bIsName_any _ _ hn) ?_; rw [HN1.out]; rintro e w2 ⟨rfl, rfl⟩))
                      go_quiet ((go_at_call 60; exact Same.quiet (named_any _ _ _ _ _ _ (HPre.out.ext (by repeat (first | exact Ext.refl _ | assumption | refine Ext.alloc ?_ _ | refine Ext.drew ?_ | refine Ext.drewN ?_ _ | (refine Ext.setCell ?_ (by simp <;> omega) _) | refine Ext.trans ?_ (by assumption)))))))
                      go_wp2_with (first | (go_at_call 13; refine Calls.mono (bWithin_yes _ _ _ _ ?_) ?_; (omega); rintro e w1 ⟨rfl, rfl⟩) | (go_at_call 13; refine Calls.mono (bWithin_no _ _ _ _ ?_) ?_; (omega); rintro e w1 ⟨rfl, rfl⟩))
                      go_quiet ((go_at_call 61; first | exact Same.quiet (CP.out _ (HPre.out.ext (by repeat (first | exact Ext.refl _ | assumption | refine Ext.alloc ?_ _ | refine Ext.drew ?_ | refine Ext.drewN ?_ _ | (refine Ext.setCell ?_ (by simp <;> omega) _) | refine Ext.trans ?_ (by assumption))))) | exact Same.quiet_add (CP.out _ (HPre.out.ext (by repeat (first | exact Ext.refl _ | assumption | refine Ext.alloc ?_ _ | refine Ext.drew ?_ | refine Ext.drewN ?_ _ | (refine Ext.setCell ?_ (by simp <;> omega) _) | refine Ext.trans ?_ (by assumption)))))))
                      go_wp2
                      go_ret2
                      exact Ret.mk' (by rw [HCH.out]; rfl) (HE.out.trans (by repeat (first | exact Ext.refl _ | assumption | refine Ext.alloc ?_ _ | refine Ext.drew ?_ | refine Ext.drewN ?_ _ | (refine Ext.setCell ?_ (by simp <;> omega) _) | refine Ext.trans ?_ (by assumption))))
                  · have HCH := Lib.hid (hbad.out 2 (by rw [hsort.out, if_neg HN2.out, if_neg (by simpa using hkk), if_pos hww]) (by decide))
                    go_wp2_with (first | (go_at_call 59; refine Calls.mono (bIsName_any _ _ hn) ?_; rw [HN1.out]; rintro e w2 ⟨rfl, rfl⟩))
                    go_quiet ((go_at_call 60; exact Same.quiet (named_any _ _ _ _ _ _ (HPre.out.ext (by repeat (first | exact Ext.refl _ | assumption | refine Ext.alloc ?_ _ | refine Ext.drew ?_ | refine Ext.drewN ?_ _ | (refine Ext.setCell ?_ (by simp <;> omega) _) | refine Ext.trans ?_ (by assumption)))))))
                    go_wp2_with (first | (go_at_call 13; refine Calls.mono (bWithin_yes _ _ _ _ ?_) ?_; (omega); rintro e w1 ⟨rfl, rfl⟩) | (go_at_call 13; refine Calls.mono (bWithin_no _ _ _ _ ?_) ?_; (omega); rintro e w1 ⟨rfl, rfl⟩))
                    go_ret2
                    exact Ret.mk' (by rw [HCH.out]; rfl) (HE.out.trans (by repeat (first | exact Ext.refl _ | assumption | refine Ext.alloc ?_ _ | refine Ext.drew ?_ | refine Ext.drewN ?_ _ | (refine Ext.setCell ?_ (by simp <;> omega) _) | refine Ext.trans ?_ (by assumption))))
                · have HCH := Lib.hid (hbad.out 15 (by rw [hsort.out, if_neg HN2.out, if_pos hkk]) (by decide))
                  go_wp2_with (first | (go_at_call 59; refine Calls.mono (bIsName_any _ _ hn) ?_; rw [HN1.out]; rintro e w2 ⟨rfl, rfl⟩))
                  go_quiet ((go_at_call 60; exact Same.quiet (named_any _ _ _ _ _ _ (HPre.out.ext (by repeat (first | exact Ext.refl _ | assumption | refine Ext.alloc ?_ _ | refine Ext.drew ?_ | refine Ext.drewN ?_ _ | (refine Ext.setCell ?_ (by simp <;> omega) _) | refine Ext.trans ?_ (by assumption)))))))
                  go_wp2_with (first | (go_at_call 13; refine Calls.mono (bWithin_yes _ _ _ _ ?_) ?_; (omega); rintro e w1 ⟨rfl, rfl⟩) | (go_at_call 13; refine Calls.mono (bWithin_no _ _ _ _ ?_) ?_; (omega); rintro e w1 ⟨rfl, rfl⟩))
                  go_ret2
                  exact Ret.mk' (by rw [HCH.out]; rfl) (HE.out.trans (by repeat (first | exact Ext.refl _ | assumption | refine Ext.alloc ?_ _ | refine Ext.drew ?_ | refine Ext.drewN ?_ _ | (refine Ext.setCell ?_ (by simp <;> omega) _) | refine Ext.trans ?_ (by assumption))))
            · have HN1 : Hid (nameB x.name = false) := Lib.hid (by simpa using n1)
              have HCH := Lib.hid (hbad.out 4 (by unfold sortErr; rw [if_pos HN1.out]) (by decide))
              clear n1
              go_wp2_with (first | (go_at_call 59; refine Calls.mono (bIsName_any _ _ hn) ?_; rw [HN1.out]; rintro e w2 ⟨rfl, rfl⟩))
              go_ret2
              exact Ret.mk' (by rw [HCH.out]; rfl) (HE.out.trans (by repeat (first | exact Ext.refl _ | assumption | refine Ext.alloc ?_ _ | refine Ext.drew ?_ | refine Ext.drewN ?_ _ | (refine Ext.setCell ?_ (by simp <;> omega) _) | refine Ext.trans ?_ (by assumption))))
          · obtain rfl : k = ss.length := by omega
            have HBB := Lib.hid hB; have HE := Lib.hid hx; clear hB hx
            have hch : ch = (0, 0) := by
              rw [HC.out]
              show (match firstBad ss ss.length with | some k => ((k : Int), sortErr ss k (ss.getD k TS.zero)) | none => (0, 0)) = _
              rw [firstBad_none HCL.out]
            have HCH := Lib.hid hch; clear HC hch
            go_wp2
            go_ret2
            exact Ret.mk' (by rw [HCH.out]; rfl) HE.out
  · have HC : Hid (chk ⟨name, body, ss⟩ = (0, 2)) := Lib.hid (by unfold chk; simp only [if_neg h1, if_pos hb0])
    unfold ChkV; rw [HC.out]
    clear h1 hcap HF
    go_enter Tryz.func42, Tryz.ntmps42
    go_wp2_with (first | (go_at_call 13; refine Calls.mono (bWithin_yes _ _ _ _ ?_) ?_; (omega); rintro e w1 ⟨rfl, rfl⟩) | (go_at_call 13; refine Calls.mono (bWithin_no _ _ _ _ ?_) ?_; (omega); rintro e w1 ⟨rfl, rfl⟩) | (go_at_call 59; refine Calls.mono (bIsName_any _ _ hnm) ?_; rw [HN.out]; rintro e w2 ⟨rfl, rfl⟩))
    go_ret2
    exact Ret.mk' rfl (by repeat (first | exact Ext.refl _ | assumption | refine Ext.alloc ?_ _ | refine Ext.drew ?_ | refine Ext.drewN ?_ _ | (refine Ext.setCell ?_ (by simp <;> omega) _) | refine Ext.trans ?_ (by assumption)))
end Go.Proofs.YtfbdklminljecaaGreatDoor
namespace Go.Proofs.YtfbdklminljecaaGreatDoor
open Go.RowKit

/-- The first of the first n numbers that meets p. -/
def idxOf (p : Int → Bool) (zs : List Int) : Nat → Option Nat
  | 0 => none
  | n + 1 => match idxOf p zs n with | some k => some k | none => if p (zs.getD n 0) = true then some n else none
theorem idxOf_none {p : Int → Bool} {zs : List Int} : ∀ {n : Nat}, (∀ k, k < n → p (zs.getD k 0) = false) → idxOf p zs n = none
  | 0, _ => rfl
  | n + 1, h => by rw [idxOf, idxOf_none (fun k hk => h k (by omega))]; simp only; rw [if_neg (by rw [h n (by omega)]; simp)]
theorem idxOf_some {p : Int → Bool} {zs : List Int} {k : Nat} (hc : ∀ j, j < k → p (zs.getD j 0) = false) (hb : p (zs.getD k 0) = true) : ∀ {n : Nat}, k < n → idxOf p zs n = some k
  | n + 1, hk => by
    rw [idxOf]
    by_cases h : k < n
    · rw [idxOf_some hc hb h]
    · obtain rfl : k = n := by omega
      rw [idxOf_none hc]; simp only; rw [if_pos hb]
theorem idxOf_isSome (p : Int → Bool) (zs : List Int) : ∀ n, (idxOf p zs n).isSome = true ↔ ∃ k, k < n ∧ p (zs.getD k 0) = true
  | 0 => by simp [idxOf]
  | n + 1 => by
    have ih := idxOf_isSome p zs n
    rw [idxOf]
    cases h : idxOf p zs n with
    | some k => rw [h] at ih; simp only [Option.isSome_some, true_iff] at ih ⊢; obtain ⟨k, hk, hp⟩ := ih; exact ⟨k, by omega, hp⟩
    | none =>
      rw [h] at ih; simp only [Option.isSome_none, Bool.false_eq_true, false_iff] at ih
      by_cases hp : p (zs.getD n 0) = true
      · simp only [if_pos hp, Option.isSome_some, true_iff]; exact ⟨n, by omega, hp⟩
      · simp only [if_neg hp, Option.isSome_none, Bool.false_eq_true, false_iff]
        rintro ⟨k, hk, hp'⟩
        by_cases hkn : k < n
        · exact ih ⟨k, hkn, hp'⟩
        · obtain rfl : k = n := by omega
          exact hp hp'

/-- What is asked of a function value that answers a bool. -/
def PredI (g : Nat) (lb : Array Value) (p : Int → Bool) (w : World) : Prop :=
  ∀ (W : World) (z : Int), Ext w W → Calls Tryz.prog g (#[.int .i64 z] ++ lb) W (Same (.bool (p z)) W)
theorem PredI.ext {g : Nat} {lb : Array Value} {p : Int → Bool} {w w' : World} (h : PredI g lb p w) (hx : Ext w w') : PredI g lb p w' := fun W z hW => h W z (hx.trans hW)

set_option maxHeartbeats 1000000 in
theorem indexFunc_any (g : Nat) (lb : Array Value) (eg : ∀ args w, (callFunc g args).run Tryz.prog w = .ok (.enter g args) w) (p : Int → Bool) (A : Option Addr) (n c : Nat) (zs : List Int) (w : World) (h : RI w A n zs) (hp : PredI g lb p w) :
    Calls Tryz.prog 82 #[.slice A n c, .func (.func g) #[] lb] w (Same (.int .i64 (optI (idxOf p zs n))) w) := by
  have hbig := h.big
  go_enter Tryz.func82, Tryz.ntmps82
  go_wp2
  go_loop [8] (fun i => ∃ k : Nat, k ≤ n ∧ i = .int .i64 k ∧ ∀ j, j < k → p (zs.getD j 0) = false) (fun i => n - (intOf i).toNat)
  case atStart => exact ⟨0, Nat.zero_le _, rfl, fun j hj => absurd hj (by omega)⟩
  case round =>
    obtain ⟨k, hk, rfl, hno⟩ := hrel
    have HNO := Lib.hid hno; clear hno
    by_cases hlt : k < n
    · obtain ⟨b, off, rfl, hbw, hcell⟩ := h.2.2 (by omega)
      have c1 := hcell k hlt
      have HK : Hid (p (zs.getD k 0) = false → ∀ j, j < k + 1 → p (zs.getD j 0) = false) := Lib.hid (fun he j hj => by
        by_cases hj' : j < k
        · exact HNO.out j hj'
        · obtain rfl : j = k := by omega
          exact he)
      have HV := Lib.hid (fun he => idxOf_some (n := n) HNO.out he hlt)
      have cP := hp w (zs.getD k 0) (Ext.refl _)
      generalize zs.getD k 0 = z at *
      clear hcell h hp
      cases hpz : p z
      · rw [hpz] at cP
        have HPZ := Lib.hid hpz; clear hpz
        have CP := Lib.hid cP; clear cP
        go_wp2_with (go_at_fn g; refine Calls.mono CP.out ?_; rintro e W' ⟨rfl, rfl⟩)
        go_round
        case rel => exact ⟨k + 1, by omega, by go_num, HK.out HPZ.out⟩
        case measure => simp [intOf]; omega
      · rw [hpz] at cP
        have HPZ := Lib.hid hpz; clear hpz
        have CP := Lib.hid cP; clear cP
        go_wp2_with (go_at_fn g; refine Calls.mono CP.out ?_; rintro e W' ⟨rfl, rfl⟩)
        go_ret
        exact ⟨by rw [HV.out HPZ.out]; rfl, rfl⟩
    · obtain rfl : k = n := by omega
      have HV := Lib.hid (idxOf_none HNO.out)
      clear h hp
      go_wp2
      go_ret
      exact ⟨by rw [HV.out]; rfl, rfl⟩

theorem optI_dec (o : Option Nat) : decide (0 ≤ optI o) = o.isSome := by
  cases o with
  | none => rfl
  | some k => simp [optI]
set_option maxHeartbeats 1000000 in
theorem containsFunc_any (g : Nat) (lb : Array Value) (eg : ∀ args w, (callFunc g args).run Tryz.prog w = .ok (.enter g args) w) (p : Int → Bool) (A : Option Addr) (n c : Nat) (zs : List Int) (w : World) (h : RI w A n zs) (hp : PredI g lb p w) :
    Calls Tryz.prog 64 #[.slice A n c, .func (.func g) #[] lb] w (Same (.bool (idxOf p zs n).isSome) w) := by
  have HD := Lib.hid (optI_dec (idxOf p zs n))
  have cI := indexFunc_any g lb eg p A n c zs w h hp
  clear eg
  generalize optI (idxOf p zs n) = o at *
  have CI := Lib.hid cI; clear cI h hp
  go_enter Tryz.func64, Tryz.ntmps64
  go_wp2_with (go_at_call 82; refine Calls.mono CI.out ?_; rintro e W' ⟨rfl, rfl⟩)
  go_ret
  exact ⟨by rw [← HD.out]; rfl, rfl⟩

/-- Counts out of their range. -/
def badCount (z : Int) : Bool := !(decide (0 ≤ z) && decide (z ≤ 1000000))
theorem badCount_pred (w : World) : PredI 65 #[] badCount w := fun W z _ => by
  show Calls Tryz.prog 65 #[.int .i64 z] W _
  by_cases hz : 0 ≤ z ∧ z ≤ 1000000
  · have HB : Hid (badCount z = false) := Lib.hid (by unfold badCount; simp [hz])
    rw [HB.out]
    go_enter Tryz.func65, Tryz.ntmps65
    go_wp2_with (first | (go_at_call 66; refine Calls.mono (within_yes _ _ _ _ ?_) ?_; (omega); rintro e w1 ⟨rfl, rfl⟩) | (go_at_call 66; refine Calls.mono (within_no _ _ _ _ ?_) ?_; (omega); rintro e w1 ⟨rfl, rfl⟩))
    go_ret
    exact ⟨rfl, rfl⟩
  · have HB : Hid (badCount z = true) := Lib.hid (by unfold badCount; rw [Bool.not_eq_true', Bool.and_eq_false_iff, decide_eq_false_iff_not, decide_eq_false_iff_not]; omega)
    rw [HB.out]
    go_enter Tryz.func65, Tryz.ntmps65
    go_wp2_with (first | (go_at_call 66; refine Calls.mono (within_yes _ _ _ _ ?_) ?_; (omega); rintro e w1 ⟨rfl, rfl⟩) | (go_at_call 66; refine Calls.mono (within_no _ _ _ _ ?_) ?_; (omega); rintro e w1 ⟨rfl, rfl⟩))
    go_ret
    exact ⟨rfl, rfl⟩
/-- The error of counts of a right fount; of a fount, then of counts. -/
def countsErr (f : FT) (zs : List Int) : Int := if zs.length ≠ f.sorts.length then 10 else if (idxOf badCount zs zs.length).isSome = true then 2 else 0
def caseErr (f : FT) (zs : List Int) : Int := if (chk f).2 ≠ 0 then (chk f).2 else countsErr f zs

set_option maxHeartbeats 1000000 in
theorem checkCounts_any (f : FT) (A : Option Addr) (c : Nat) (B : Option Addr) (d : Nat) (zs : List Int) (w : World) (h : RI w B zs.length zs) :
    Calls Tryz.prog 45 #[f.val A c, .slice B zs.length d] w (Ret (.int .i64 (countsErr f zs)) w) := by
  obtain ⟨name, body, ss⟩ := f
  have HE : Hid (countsErr ⟨name, body, ss⟩ zs = if zs.length ≠ ss.length then 10 else if (idxOf badCount zs zs.length).isSome = true then 2 else 0) := Lib.hid rfl
  have cC := fun W h => containsFunc_any 65 #[] (fun _ _ => by kernel_rfl) badCount B zs.length d zs W h (badCount_pred W)
  have hbig := h.big
  have HR := Lib.hid h; clear h
  simp only [FT.val]
  by_cases hl : zs.length = ss.length
  · have e1 : ((zs.length : Int) != (ss.length : Int)) = false := by simp [hl]
    have HL := Lib.hid hl; clear hl
    cases hs : (idxOf badCount zs zs.length).isSome
    all_goals
      rw [hs] at HE
      simp only [hs] at cC
      have CC := Lib.hid cC; clear cC
      go_enter Tryz.func45, Tryz.ntmps45
      go_wp2_with (first | (go_at_call 64; refine Calls.mono (CC.out _ ?_) ?_; (exact HR.out.ext (by repeat (first | exact Ext.refl _ | assumption | refine Ext.alloc ?_ _ | refine Ext.drew ?_ | refine Ext.drewN ?_ _ | (refine Ext.setCell ?_ (by simp <;> omega) _) | refine Ext.trans ?_ (by assumption)))); rintro e w1 ⟨rfl, rfl⟩))
      go_ret
      exact Ret.mk' (by rw [HE.out, if_neg (by simp [HL.out])]; rfl) (by repeat (first | exact Ext.refl _ | assumption | refine Ext.alloc ?_ _ | refine Ext.drew ?_ | refine Ext.drewN ?_ _ | (refine Ext.setCell ?_ (by simp <;> omega) _) | refine Ext.trans ?_ (by assumption)))
  · have e1 : ((zs.length : Int) != (ss.length : Int)) = true := by simp; omega
    have HL := Lib.hid hl; clear hl cC
    go_enter Tryz.func45, Tryz.ntmps45
    go_wp2
    go_ret
    exact Ret.mk' (by rw [HE.out, if_pos HL.out]; rfl) (by repeat (first | exact Ext.refl _ | assumption | refine Ext.alloc ?_ _ | refine Ext.drew ?_ | refine Ext.drewN ?_ _ | (refine Ext.setCell ?_ (by simp <;> omega) _) | refine Ext.trans ?_ (by assumption)))
end Go.Proofs.YtfbdklminljecaaGreatDoor
namespace Go.Proofs.YtfbdklminljecaaGreatDoor
open Go.RowKit

/-- A slice of ints, as a value and as numbers. -/
structure SI where
  A : Option Addr
  c : Nat
  zs : List Int
def SI.val (s : SI) : Value := .slice s.A s.zs.length s.c
def SI.none_ : SI := ⟨none, 0, []⟩
/-- A slice of slices of ints. -/
def RL (w : World) (A : Option Addr) (n : Nat) (rows : List SI) : Prop :=
  rows.length = n ∧ n ≤ 9223372036854775807 ∧ (0 < n → ∃ b off, A = some ⟨b, off, none⟩ ∧ b < w.heap.size ∧ ∀ k, k < n → w.cell? ⟨b, off + k, none⟩ = some (rows.getD k SI.none_).val) ∧
  ∀ k, k < n → RI w (rows.getD k SI.none_).A (rows.getD k SI.none_).zs.length (rows.getD k SI.none_).zs
theorem RL.ext {w w' : World} {A : Option Addr} {n : Nat} {rows : List SI} (h : RL w A n rows) (hx : Ext w w') : RL w' A n rows :=
  ⟨h.1, h.2.1, fun hn => let ⟨b, off, ha, hb, hc⟩ := h.2.2.1 hn; ⟨b, off, ha, Nat.lt_of_lt_of_le hb hx.size, fun k hk => (hx.cell (p := ⟨b, off + k, none⟩) hb).trans (hc k hk)⟩, fun k hk => (h.2.2.2 k hk).ext hx⟩
/-- The first error of several counts. -/
def rowsErr (f : FT) (rows : List SI) : Nat → Int
  | 0 => 0
  | n + 1 => if rowsErr f rows n ≠ 0 then rowsErr f rows n else countsErr f (rows.getD n SI.none_).zs
def checkErr (f : FT) (rows : List SI) : Int := if (chk f).2 ≠ 0 then (chk f).2 else rowsErr f rows rows.length
theorem rowsErr_first {f : FT} {rows : List SI} {k : Nat} (h0 : rowsErr f rows k = 0) (hb : countsErr f (rows.getD k SI.none_).zs ≠ 0) : ∀ {n : Nat}, k < n → rowsErr f rows n = countsErr f (rows.getD k SI.none_).zs
  | n + 1, hk => by
    rw [rowsErr]
    by_cases h : k < n
    · rw [rowsErr_first h0 hb h, if_pos hb]
    · obtain rfl : k = n := by omega
      rw [if_neg (by rw [h0]; simp)]

set_option maxHeartbeats 2000000 in
theorem check_any (f : FT) (A : Option Addr) (c : Nat) (B : Option Addr) (n d : Nat) (rows : List SI) (w : World) (hf : FR w A c f) (h : RL w B n rows) :
    Calls Tryz.prog 21 #[f.val A c, .slice B n d] w (Ret (.int .i64 (checkErr f rows)) w) := by
  have hbig := h.2.1
  have hln := h.1
  have cF := fun W h => checkFount_any f A c W h
  have cC := fun X e zs W h => checkCounts_any f A c X e zs W h
  have HE : Hid (checkErr f rows = if (chk f).2 ≠ 0 then (chk f).2 else rowsErr f rows n) := Lib.hid (by unfold checkErr; rw [hln])
  have HF := Lib.hid hf; have HR := Lib.hid h; clear hf h hln
  unfold ChkV at cF
  generalize (chk f).1 = m at *
  generalize (chk f).2 = z at *
  have HB0 := fun k e => rowsErr_first (f := f) (rows := rows) (k := k) (n := n) e
  have HBF := Lib.hid HB0; clear HB0
  have HS : Hid (∀ k, rowsErr f rows k = 0 → countsErr f (rows.getD k SI.none_).zs = 0 → rowsErr f rows (k + 1) = 0) := Lib.hid (fun k h1 h2 => by rw [rowsErr, if_neg (by rw [h1]; simp), h2])
  obtain ⟨name, body, ss⟩ := f
  simp only [FT.val] at *
  have CF := Lib.hid cF; have CC := Lib.hid cC; clear cF cC
  by_cases hz : z = 0
  · subst hz
    go_enter Tryz.func21, Tryz.ntmps21
    go_wp2_with (first | (go_at_call 43; refine Calls.mono (CF.out _ ?_) ?_; (exact HF.out.ext (by repeat (first | exact Ext.refl _ | assumption | refine Ext.alloc ?_ _ | refine Ext.drew ?_ | refine Ext.drewN ?_ _ | (refine Ext.setCell ?_ (by simp <;> omega) _) | refine Ext.trans ?_ (by assumption)))); rintro e w1 ⟨rfl, hb⟩; have F1 := (Blk.new _ _ _).ext hb))
    go_loopw [20] (fun i wr => ∃ k : Nat, k ≤ n ∧ i = .int .i64 k ∧ rowsErr ⟨name, body, ss⟩ rows k = 0 ∧ Ext w wr ∧ Blk wr w.heap.size 24 #[.string name, .int .i64 body, .slice A ss.length c]) (fun i _ => n - (intOf i).toNat)
    case atStart => exact ⟨0, Nat.zero_le _, rfl, rfl, (by repeat (first | exact Ext.refl _ | assumption | refine Ext.alloc ?_ _ | refine Ext.drew ?_ | refine Ext.drewN ?_ _ | (refine Ext.setCell ?_ (by simp <;> omega) _) | refine Ext.trans ?_ (by assumption))), F1⟩
    case round =>
      obtain ⟨k, hk, rfl, h0, hx, hB⟩ := hrel
      have H0 := Lib.hid h0; clear h0
      obtain ⟨f0, f1, f2, fl⟩ := hB.c3
      have HX := Lib.hid hx; have HBB := Lib.hid hB
      clear F1 hb
      by_cases hlt : k < n
      · obtain ⟨b, off, rfl, hbw, hcell⟩ := (HR.out.ext hx).2.2.1 (by omega)
        have hrow := (HR.out.ext hx).2.2.2 k hlt
        have c1 := hcell k hlt
        have HS1 := Lib.hid (HS.out k H0.out)
        have HB1 := Lib.hid (fun hb => HBF.out k H0.out hb hlt)
        have cc := fun W h => CC.out (rows.getD k SI.none_).A (rows.getD k SI.none_).c (rows.getD k SI.none_).zs W h
        clear hx hB hcell
        generalize rows.getD k SI.none_ = r at *
        obtain ⟨X, e, zs⟩ := r
        simp only [SI.val] at *
        generalize countsErr ⟨name, body, ss⟩ zs = y at *
        have C1 := Lib.hid cc; clear cc
        have HRW := Lib.hid hrow; clear hrow
        by_cases hy : y = 0
        · subst hy
          go_wp2_with (first | (go_at_call 45; refine Calls.mono (C1.out _ ?_) ?_; (exact HRW.out.ext (by repeat (first | exact Ext.refl _ | assumption | refine Ext.alloc ?_ _ | refine Ext.drew ?_ | refine Ext.drewN ?_ _ | (refine Ext.setCell ?_ (by simp <;> omega) _) | refine Ext.trans ?_ (by assumption)))); rintro e w2 ⟨rfl, hb2⟩))
          go_roundw
          case rel => exact ⟨k + 1, by omega, by go_num, HS1.out (by first | exact rfl | trivial), HX.out.trans hb2, HBB.out.ext hb2⟩
          case measure => simp [intOf]; omega
        · have e0 : (y != 0) = true := by simpa using hy
          have HY := Lib.hid hy; clear hy
          go_wp2_with (first | (go_at_call 45; refine Calls.mono (C1.out _ ?_) ?_; (exact HRW.out.ext (by repeat (first | exact Ext.refl _ | assumption | refine Ext.alloc ?_ _ | refine Ext.drew ?_ | refine Ext.drewN ?_ _ | (refine Ext.setCell ?_ (by simp <;> omega) _) | refine Ext.trans ?_ (by assumption)))); rintro e w2 ⟨rfl, hb2⟩))
          go_ret
          exact Ret.mk' (by rw [HE.out, if_neg (by simp), HB1.out HY.out]; rfl) (HX.out.trans hb2)
      · obtain rfl : k = n := by omega
        clear hx hB
        go_wp2
        go_ret
        exact Ret.mk' (by rw [HE.out, if_neg (by simp), H0.out]; rfl) HX.out
  · have e0 : (z != 0) = true := by simpa using hz
    have HZ := Lib.hid hz; clear hz
    go_enter Tryz.func21, Tryz.ntmps21
    go_wp2_with (first | (go_at_call 43; refine Calls.mono (CF.out _ ?_) ?_; (exact HF.out.ext (by repeat (first | exact Ext.refl _ | assumption | refine Ext.alloc ?_ _ | refine Ext.drew ?_ | refine Ext.drewN ?_ _ | (refine Ext.setCell ?_ (by simp <;> omega) _) | refine Ext.trans ?_ (by assumption)))); rintro e w1 ⟨rfl, hb⟩))
    go_ret
    exact Ret.mk' (by rw [HE.out, if_pos HZ.out]; rfl) (by repeat (first | exact Ext.refl _ | assumption | refine Ext.alloc ?_ _ | refine Ext.drew ?_ | refine Ext.drewN ?_ _ | (refine Ext.setCell ?_ (by simp <;> omega) _) | refine Ext.trans ?_ (by assumption)))

/-- One row, two rows, none. -/
theorem RL.none_ (w : World) : RL w none 0 [] := ⟨rfl, by omega, fun h => absurd h (by omega), fun k hk => absurd hk (by omega)⟩
theorem RL.one {w : World} {g : Nat} {T : TypeId} {r : SI} (hb : Blk w g T #[r.val]) (h : RI w r.A r.zs.length r.zs) : RL w (some ⟨g, 0, none⟩) 1 [r] := by
  refine ⟨rfl, by omega, fun _ => ⟨g, 0, rfl, hb.lt, fun k hk => ?_⟩, fun k hk => ?_⟩
  · obtain rfl : k = 0 := by omega
    exact hb.cell 0 _ rfl
  · obtain rfl : k = 0 := by omega
    exact h
theorem RL.two {w : World} {g : Nat} {T : TypeId} {r s : SI} (hb : Blk w g T #[r.val, s.val]) (h : RI w r.A r.zs.length r.zs) (h' : RI w s.A s.zs.length s.zs) : RL w (some ⟨g, 0, none⟩) 2 [r, s] := by
  refine ⟨rfl, by omega, fun _ => ⟨g, 0, rfl, hb.lt, fun k hk => ?_⟩, fun k hk => ?_⟩
  · rcases (show k = 0 ∨ k = 1 by omega) with rfl | rfl
    · exact hb.cell 0 _ rfl
    · exact hb.cell 1 _ rfl
  · rcases (show k = 0 ∨ k = 1 by omega) with rfl | rfl
    · exact h
    · exact h'
theorem checkErr_none (f : FT) : checkErr f [] = (chk f).2 := by
  unfold checkErr; by_cases h : (chk f).2 = 0 <;> simp [rowsErr, h]
theorem checkErr_one (f : FT) (r : SI) : checkErr f [r] = caseErr f r.zs := by unfold checkErr caseErr; simp [rowsErr]
/-- The errors of two counts. -/
def caseErr2 (f : FT) (xs ys : List Int) : Int := if caseErr f xs ≠ 0 then caseErr f xs else countsErr f ys
theorem checkErr_two (f : FT) (r s : SI) : checkErr f [r, s] = caseErr2 f r.zs s.zs := by
  unfold checkErr caseErr2 caseErr
  by_cases h : (chk f).2 = 0
  · simp [rowsErr, h]
  · simp [h]

set_option maxHeartbeats 1000000 in
theorem rErr_any (f : FT) (A : Option Addr) (c : Nat) (w : World) (hf : FR w A c f) :
    Calls Tryz.prog 18 #[f.val A c] w (Ret (.int .i64 (chk f).2) w) := by
  have cF := fun W h => rCheckFount_any f A c W h
  have HF := Lib.hid hf; clear hf
  unfold ChkV at cF
  generalize (chk f).1 = m at *
  generalize (chk f).2 = z at *
  obtain ⟨name, body, ss⟩ := f
  simp only [FT.val] at *
  have CF := Lib.hid cF; clear cF
  go_enter Tryz.func18, Tryz.ntmps18
  go_wp2_with (first | (go_at_call 42; refine Calls.mono (CF.out _ ?_) ?_; (exact HF.out.ext (by repeat (first | exact Ext.refl _ | assumption | refine Ext.alloc ?_ _ | refine Ext.drew ?_ | refine Ext.drewN ?_ _ | (refine Ext.setCell ?_ (by simp <;> omega) _) | refine Ext.trans ?_ (by assumption)))); rintro e w1 ⟨rfl, hb⟩))
  go_ret
  exact Ret.mk' rfl (by repeat (first | exact Ext.refl _ | assumption | refine Ext.alloc ?_ _ | refine Ext.drew ?_ | refine Ext.drewN ?_ _ | (refine Ext.setCell ?_ (by simp <;> omega) _) | refine Ext.trans ?_ (by assumption)))

set_option maxHeartbeats 2000000 in
theorem rCheckCase_any (f : FT) (A : Option Addr) (c : Nat) (B : Option Addr) (d : Nat) (zs : List Int) (w : World) (hf : FR w A c f) (h : RI w B zs.length zs) :
    Calls Tryz.prog 6 #[f.val A c, .slice B zs.length d] w (Ret (.int .i64 (caseErr f zs)) w) := by
  have hbig := h.big
  have cF := fun W h => rErr_any f A c W h
  have HE : Hid (caseErr f zs = if (chk f).2 ≠ 0 then (chk f).2 else if zs.length ≠ f.sorts.length then 10 else if (idxOf badCount zs zs.length).isSome = true then 2 else 0) := Lib.hid rfl
  have HF := Lib.hid hf; have HR := Lib.hid h; clear hf h
  generalize caseErr f zs = ce at *
  generalize (chk f).2 = z at *
  obtain ⟨name, body, ss⟩ := f
  simp only [FT.val] at *
  have CF := Lib.hid cF; clear cF
  by_cases hz : z = 0
  · subst hz
    by_cases hl : zs.length = ss.length
    · have e1 : ((zs.length : Int) != (ss.length : Int)) = false := by simp [hl]
      have HL := Lib.hid hl; clear hl
      go_enter Tryz.func6, Tryz.ntmps6
      go_wp2_with (first | (go_at_call 18; refine Calls.mono (CF.out _ ?_) ?_; (exact HF.out.ext (by repeat (first | exact Ext.refl _ | assumption | refine Ext.alloc ?_ _ | refine Ext.drew ?_ | refine Ext.drewN ?_ _ | (refine Ext.setCell ?_ (by simp <;> omega) _) | refine Ext.trans ?_ (by assumption)))); rintro e w1 ⟨rfl, hb⟩; have F1 := (Blk.new _ _ _).ext hb; obtain ⟨f0, f1, f2, fl⟩ := F1.c3))
      go_loop [6] (fun i => ∃ k : Nat, k ≤ zs.length ∧ i = .int .i64 k ∧ ∀ j, j < k → badCount (zs.getD j 0) = false) (fun i => zs.length - (intOf i).toNat)
      case atStart => exact ⟨0, Nat.zero_le _, rfl, fun j hj => absurd hj (by omega)⟩
      case round =>
        obtain ⟨k, hk, rfl, hno⟩ := hrel
        have HNO := Lib.hid hno; clear hno
        by_cases hlt : k < zs.length
        · obtain ⟨b, off, rfl, hbw, hcell⟩ := (HR.out.ext (Ext.trans (by repeat (first | exact Ext.refl _ | assumption | refine Ext.alloc ?_ _ | refine Ext.drew ?_ | refine Ext.drewN ?_ _ | (refine Ext.setCell ?_ (by simp <;> omega) _) | refine Ext.trans ?_ (by assumption))) hb)).2.2 (by omega)
          have c1 := hcell k hlt
          have HK : Hid (badCount (zs.getD k 0) = false → ∀ j, j < k + 1 → badCount (zs.getD j 0) = false) := Lib.hid (fun he j hj => by
            by_cases hj' : j < k
            · exact HNO.out j hj'
            · obtain rfl : j = k := by omega
              exact he)
          have HV := Lib.hid (fun he => (idxOf_isSome badCount zs zs.length).2 ⟨k, hlt, he⟩)
          generalize zs.getD k 0 = y at *
          clear hcell
          by_cases hy : 0 ≤ y ∧ y ≤ 1000000
          · go_wp2_with (first | (go_at_call 13; refine Calls.mono (bWithin_yes _ _ _ _ ?_) ?_; (omega); rintro e w1 ⟨rfl, rfl⟩) | (go_at_call 13; refine Calls.mono (bWithin_no _ _ _ _ ?_) ?_; (omega); rintro e w1 ⟨rfl, rfl⟩))
            go_round
            case rel => exact ⟨k + 1, by omega, by go_num, HK.out (by unfold badCount; simp [hy])⟩
            case measure => simp [intOf]; omega
          · go_wp2_with (first | (go_at_call 13; refine Calls.mono (bWithin_yes _ _ _ _ ?_) ?_; (omega); rintro e w1 ⟨rfl, rfl⟩) | (go_at_call 13; refine Calls.mono (bWithin_no _ _ _ _ ?_) ?_; (omega); rintro e w1 ⟨rfl, rfl⟩))
            go_ret
            exact Ret.mk' (by rw [HE.out, if_neg (by simp), if_neg (by simp [HL.out]), if_pos (HV.out (by unfold badCount; rw [Bool.not_eq_true', Bool.and_eq_false_iff, decide_eq_false_iff_not, decide_eq_false_iff_not]; omega))]; rfl) (by repeat (first | exact Ext.refl _ | assumption | refine Ext.alloc ?_ _ | refine Ext.drew ?_ | refine Ext.drewN ?_ _ | (refine Ext.setCell ?_ (by simp <;> omega) _) | refine Ext.trans ?_ (by assumption)))
        · obtain rfl : k = zs.length := by omega
          have HV := Lib.hid (idxOf_none HNO.out)
          go_wp2
          go_ret
          exact Ret.mk' (by rw [HE.out, if_neg (by simp), if_neg (by simp [HL.out]), if_neg (by rw [HV.out]; simp)]; rfl) (by repeat (first | exact Ext.refl _ | assumption | refine Ext.alloc ?_ _ | refine Ext.drew ?_ | refine Ext.drewN ?_ _ | (refine Ext.setCell ?_ (by simp <;> omega) _) | refine Ext.trans ?_ (by assumption)))
    · have e1 : ((zs.length : Int) != (ss.length : Int)) = true := by simp; omega
      have HL := Lib.hid hl; clear hl
      go_enter Tryz.func6, Tryz.ntmps6
      go_wp2_with (first | (go_at_call 18; refine Calls.mono (CF.out _ ?_) ?_; (exact HF.out.ext (by repeat (first | exact Ext.refl _ | assumption | refine Ext.alloc ?_ _ | refine Ext.drew ?_ | refine Ext.drewN ?_ _ | (refine Ext.setCell ?_ (by simp <;> omega) _) | refine Ext.trans ?_ (by assumption)))); rintro e w1 ⟨rfl, hb⟩; have F1 := (Blk.new _ _ _).ext hb; obtain ⟨f0, f1, f2, fl⟩ := F1.c3))
      go_ret
      exact Ret.mk' (by rw [HE.out, if_neg (by simp), if_pos HL.out]; rfl) (by repeat (first | exact Ext.refl _ | assumption | refine Ext.alloc ?_ _ | refine Ext.drew ?_ | refine Ext.drewN ?_ _ | (refine Ext.setCell ?_ (by simp <;> omega) _) | refine Ext.trans ?_ (by assumption)))
  · have e0 : (z != 0) = true := by simpa using hz
    have HZ := Lib.hid hz; clear hz
    go_enter Tryz.func6, Tryz.ntmps6
    go_wp2_with (first | (go_at_call 18; refine Calls.mono (CF.out _ ?_) ?_; (exact HF.out.ext (by repeat (first | exact Ext.refl _ | assumption | refine Ext.alloc ?_ _ | refine Ext.drew ?_ | refine Ext.drewN ?_ _ | (refine Ext.setCell ?_ (by simp <;> omega) _) | refine Ext.trans ?_ (by assumption)))); rintro e w1 ⟨rfl, hb⟩))
    go_ret
    exact Ret.mk' (by rw [HE.out, if_pos HZ.out]; rfl) (by repeat (first | exact Ext.refl _ | assumption | refine Ext.alloc ?_ _ | refine Ext.drew ?_ | refine Ext.drewN ?_ _ | (refine Ext.setCell ?_ (by simp <;> omega) _) | refine Ext.trans ?_ (by assumption)))
end Go.Proofs.YtfbdklminljecaaGreatDoor
namespace Go.Proofs.YtfbdklminljecaaGreatDoor
open Go.RowKit

theorem intInfo : (Tryz.prog.info? 3).map (fun i => (i.zero, i.size, i.bytes)) = some (some (.int .i64 0), 1, 8) := by kernel_rfl
/-- v is a slice of the call's own (from block base on) that holds zs. -/
def Own (w : World) (base : Nat) (v : Value) (zs : List Int) : Prop := w.ownsRow base 3 1 v zs.length (zs.map (Value.int .i64))
theorem Own.nil (w : World) (base : Nat) : Own w base (.slice none 0 0) [] := World.ownsRow_nil _ _ _ _
theorem Own.form {w : World} {base : Nat} {v : Value} {zs : List Int} (h : Own w base v zs) (hz : zs.length ≤ 140737488351232) : ∃ A c, v = .slice A zs.length c ∧ zs.length ≤ c ∧ RI w A zs.length zs := by
  rcases Nat.eq_zero_or_pos zs.length with h0 | h0
  · obtain rfl := List.eq_nil_of_length_eq_zero h0
    rcases h.2 with ⟨rfl, _⟩ | ⟨g, cap, cur, rfl, _⟩
    · exact ⟨none, 0, rfl, by simp, RI.nil⟩
    · exact ⟨_, cap, rfl, by simp, rfl, by simp, fun h => absurd h (by simp)⟩
  · obtain ⟨g, cap, hv, hg, hlt⟩ := World.ownsRow.form h h0
    subst hv
    have hc := World.ownsRow.cells (g := g) h rfl
    rcases h.2 with ⟨hv, _⟩ | ⟨g', cap', cur, hv, _, _, hcap, _⟩
    · cases hv
    · cases hv
      refine ⟨_, cap, rfl, by omega, rfl, by omega, fun _ => ⟨g, 0, rfl, hlt, fun k hk => ?_⟩⟩
      have := hc k (.int .i64 (zs.getD k 0)) (by rw [List.getElem?_map, List.getElem?_eq_getElem hk, List.getD_eq_getElem?_getD, List.getElem?_eq_getElem hk]; rfl)
      rw [show (0 + k) = k by omega]
      unfold Addr.add at this
      by_cases hk0 : k = 0
      · subst hk0; simpa using this
      · rw [if_neg hk0] at this; simpa using this
theorem Own.base_le {w : World} {base : Nat} {v : Value} {zs : List Int} (h : Own w base v zs) : ∀ k, v.ownBlock = some k → base ≤ k := fun k hk => (World.ownsRow.lt h k hk).1
/-- The call hands back a new slice of ints. -/
def RetI (zs : List Int) (w : World) (e : Ending) (w' : World) : Prop := ∃ v, e = .returned v ∧ Own w' w.heap.size v zs ∧ Ext w w'

theorem take_snoc (zs : List Int) (k : Nat) (h : k < zs.length) : zs.take (k + 1) = zs.take k ++ [zs.getD k 0] := by
  rw [List.take_succ_eq_append_getElem h, List.getD_eq_getElem?_getD, List.getElem?_eq_getElem h]; rfl
/-- One number is appended to a slice of the call's own. -/
theorem run_push {w : World} {base : Nat} {v : Value} {zs : List Int} {g0 : Nat} {z : Int} (hown : Own w base v zs) (hb : w.cell? ⟨g0, 0, none⟩ = some (.int .i64 z)) (hlen : zs.length ≤ 1000000) (hbase : base ≤ w.heap.size) (ty : TypeId) :
    ∃ v' w', (Builtin.append_ #[25, 25] ty #[v, .slice (some ⟨g0, 0, none⟩) 1 1]).run Tryz.prog w = .ok v' w' ∧ Own w' base v' (zs ++ [z]) ∧ w.grownBy w' v.ownBlock := by
  obtain ⟨i0, hi, hz0, hz1, hz2⟩ := info_parts intInfo
  obtain ⟨g, cap, w', hr, h2, h3, _⟩ := run_append_lies (P := Tryz.prog) w 25 ty base 3 i0 (.int .i64 0) 1 8 Tryz.underlying25 hi hz0 hz1 hz2 rfl (by decide) v zs.length _ hown ⟨g0, 0, none⟩ 1 1 [.int .i64 z] rfl
    (fun j u hj => by match j, hj with | 0, hj => simp at hj; subst hj; simpa [Addr.add] using hb) (fun u hu => by simp at hu; subst hu; rfl) (by decide) (by unfold maxLen; omega) (by omega) hbase _ rfl
  exact ⟨_, w', hr, by unfold Own; simpa using h2, h3⟩
theorem wp_push {w : World} {o : Oper} {a : Act} {K : Act → World → Prop} {Q : Exit → Act → World → Prop} (s x : Operand) (ho : o.op = .call { callee := .builtin .append, args := #[s, x], argTypes := #[25, 25] })
    (base : Nat) (v : Value) (zs : List Int) (hs : a.eval s = v) (hown : Own w base v zs) (g0 : Nat) (z : Int) (hx : a.eval x = .slice (some ⟨g0, 0, none⟩) 1 1) (hb : w.cell? ⟨g0, 0, none⟩ = some (.int .i64 z)) (hlen : zs.length ≤ 1000000) (hbase : base ≤ w.heap.size)
    (h : ∀ v' w', Own w' base v' (zs ++ [z]) → w.grownBy w' v.ownBlock → K (a.put o.dst v') w') : o.wp Tryz.prog a w K Q := by
  obtain ⟨v', w', hr, h2, h3⟩ := run_push hown hb hlen hbase o.type
  unfold Oper.wp execOp
  simp only [ho, resolve, invoke, builtin, Sem.run_bind, Sem.run_pure, Result.andThen_ok, List.map_toArray, List.map_cons, List.map_nil, hs, hx, hr]
  exact h v' w' h2 h3
theorem step_push {w : World} {ops : Array Oper} {o : Oper} {a : Act} {K : Act → World → Prop} {Q : Exit → Act → World → Prop} {E : Prop} (hgd : o.guard = none) (s x : Operand) (ho : o.op = .call { callee := .builtin .append, args := #[s, x], argTypes := #[25, 25] })
    (base : Nat) (v : Value) (zs : List Int) (hs : a.eval s = v) (hown : Own w base v zs) (g0 : Nat) (z : Int) (hx : a.eval x = .slice (some ⟨g0, 0, none⟩) 1 1) (hb : w.cell? ⟨g0, 0, none⟩ = some (.int .i64 z)) (hlen : zs.length ≤ 1000000) (hbase : base ≤ w.heap.size)
    (h : ∀ v' w', Own w' base v' (zs ++ [z]) → w.grownBy w' v.ownBlock → K (a.put o.dst v') w') : if Region.wanted o (yielded ops a.tmps) = true then Oper.wp Tryz.prog o a w K Q else E := by
  rw [if_pos (by simp [Region.wanted, hgd])]
  exact wp_push s x ho base v zs hs hown g0 z hx hb hlen hbase h
theorem list_push {w : World} {ops : Array Oper} {rest : List Oper} {o : Oper} {a : Act} {Q : Exit → Act → World → Prop} (hgd : o.guard = none) (s x : Operand) (ho : o.op = .call { callee := .builtin .append, args := #[s, x], argTypes := #[25, 25] })
    (base : Nat) (v : Value) (zs : List Int) (hs : a.eval s = v) (hown : Own w base v zs) (g0 : Nat) (z : Int) (hx : a.eval x = .slice (some ⟨g0, 0, none⟩) 1 1) (hb : w.cell? ⟨g0, 0, none⟩ = some (.int .i64 z)) (hlen : zs.length ≤ 1000000) (hbase : base ≤ w.heap.size)
    (h : ∀ v' w', Own w' base v' (zs ++ [z]) → w.grownBy w' v.ownBlock → wpList Tryz.prog ops Q rest (a.put o.dst v') w') : wpList Tryz.prog ops Q (o :: rest) a w :=
  wpList_plain hgd fun _ hK => wp_push s x ho base v zs hs hown g0 z hx hb hlen hbase fun v' w' h2 h3 => hK _ _ (h v' w' h2 h3)
theorem Own.ext {w w' : World} {base : Nat} {v : Value} {zs : List Int} (h : Own w base v zs) (hx : Ext w w') : Own w' base v zs := by
  refine World.ownsRow.kept (row := none) h ⟨hx.os, hx.tape, hx.output, hx.size, fun k hk _ => hx.block hk⟩ ?_
  cases hv : v.ownBlock with
  | none => exact .inl rfl
  | some g => exact .inr (by simp)
theorem Own.alloc {w : World} {base : Nat} {v : Value} {zs : List Int} (h : Own w base v zs) (o : Obj) : Own (w.alloc o) base v zs := World.ownsRow.alloc h o
/-- A cell of what lay ahead is as it was behind the append. -/
theorem own_cell {w0 W w' : World} {base : Nat} {v u : Value} {zs : List Int} {b o : Nat} (hg : W.grownBy w' v.ownBlock) (hown : Own W base v zs) (hb : b < base) (hx : Ext w0 W) (hb0 : b < w0.heap.size) (hc : w0.cell? ⟨b, o, none⟩ = some u) : w'.cell? ⟨b, o, none⟩ = some u := by
  rw [World.cell?_of_block (w := W) (hg.block b (Nat.lt_of_lt_of_le hb0 hx.size) (fun e => by have := hown.base_le b e.symm; omega)), hx.cell (p := ⟨b, o, none⟩) hb0, hc]
theorem own_ext {w0 W w' : World} {v : Value} {zs : List Int} (hg : W.grownBy w' v.ownBlock) (hown : Own W w0.heap.size v zs) (hx : Ext w0 W) : Ext w0 w' := hx.grown hg hown.base_le
theorem still_tail {P : Program} {id : Nat} {Q : Exit → Act → World → Prop} {a : Act} {w : World} {l : List Oper} (n : Nat) (hm : P.follows .mixedOrders = true) (hB : Region.lexTailB .any l.toArray n = true)
    (h : wpStill P l.toArray w.drew (fun a' => wpList P l.toArray Q (l.drop n) a' w.drew) (l.take n) a) : (Code.region id l.toArray true).wp P Q a w := wp_region_still_tail n hm hB h
theorem Same.still {P : Program} {f : FuncId} {args : Array Value} {w : World} {v : Value} (h : Calls P f args w (Same v w)) : Calls P f args w fun e w' => e = .returned v ∧ w' = w := h.mono fun _ _ ⟨he, hm⟩ => ⟨he, hm.symm⟩
set_option maxRecDepth 100000 in
set_option maxHeartbeats 2000000 in
theorem combined_any (g : Nat) (eg : ∀ args w, (callFunc g args).run Tryz.prog w = .ok (.enter g args) w) (A B : Option Addr) (n c d m : Nat) (xs ys zs : List Int) (w : World) (hx : RI w A n xs) (hy : RI w B m ys) (hl : zs.length = n) (hnm : n ≤ m) (hn : n ≤ 100000)
    (hp : ∀ W k, k < n → Calls Tryz.prog g #[.int .i64 (xs.getD k 0), .int .i64 (ys.getD k 0)] W (Same (.int .i64 (zs.getD k 0)) W)) :
    Calls Tryz.prog 22 #[.slice A n c, .slice B m d, .func (.func g) #[] #[]] w (RetI zs w) := by
  have HL := Lib.hid hl; clear hl
  have HP := Lib.hid hp; clear hp
  obtain ⟨i0, hi, hz0, hz1, hz2⟩ := info_parts intInfo
  go_enter Tryz.func22, Tryz.ntmps22
  go_wp2
  go_loopw [7, 11] (fun v i wr => ∃ k : Nat, k ≤ n ∧ i = .int .i64 k ∧ Own wr w.heap.size v (zs.take k) ∧ Ext w wr) (fun _ i _ => n - (intOf i).toNat)
  case atStart => exact ⟨0, Nat.zero_le _, rfl, Own.nil _ _, Ext.refl _⟩
  case round =>
    obtain ⟨k, hk, rfl, hown, hxt⟩ := hrel
    by_cases hlt : k < n
    · obtain ⟨b, off, rfl, hbw, hcell⟩ := hx.2.2 (by omega)
      obtain ⟨b', off', rfl, hbw', hcell'⟩ := hy.2.2 (by omega)
      have c1 := (hxt.cell (p := ⟨b, off + k, none⟩) hbw).trans (hcell k hlt)
      have c2 := (hxt.cell (p := ⟨b', off' + k, none⟩) hbw').trans (hcell' k (by omega))
      have hbr : b < wr.heap.size := Nat.lt_of_lt_of_le hbw hxt.size
      have hbr' : b' < wr.heap.size := Nat.lt_of_lt_of_le hbw' hxt.size
      have cP := fun W => HP.out W k hlt
      have HT := Lib.hid (take_snoc zs k (by rw [HL.out]; exact hlt))
      have HTL : Hid ((zs.take k).length = k) := Lib.hid (by rw [List.length_take, HL.out]; omega)
      generalize xs.getD k 0 = x at *
      generalize ys.getD k 0 = y at *
      generalize zs.getD k 0 = z at *
      have CP := Lib.hid cP; clear cP hcell hcell' hx hy
      have hkm : k < m := by omega
      have hki : (k : Int) < (n : Int) := by omega
      have hkmi : (k : Int) < (m : Int) := by omega
      have HO := Lib.hid hown; have HX := Lib.hid hxt; clear hown hxt
      go_wp2
      go_region_held3 (fun W => W.cell? ⟨b, off + k, none⟩ = some (.int .i64 x) ∧ W.cell? ⟨b', off' + k, none⟩ = some (.int .i64 y)) (go_keep)
        (first | (refine step_push rfl (.tmp 14) (.tmp 25) rfl w.heap.size _ (zs.take k) rfl (HO.out.ext (by repeat (first | exact Ext.refl _ | assumption | refine Ext.alloc ?_ _ | refine Ext.drew ?_ | refine Ext.drewN ?_ _ | (refine Ext.setCell ?_ (by simp <;> omega) _) | refine Ext.trans ?_ (by assumption)))) wr.heap.size z rfl (by simp) (by rw [HTL.out]; omega) (by have := HX.out.size; simp; omega) ?_; intro v' w' hown' hg'; have y1 := own_cell hg' (HO.out.ext (by repeat (first | exact Ext.refl _ | assumption | refine Ext.alloc ?_ _ | refine Ext.drew ?_ | refine Ext.drewN ?_ _ | (refine Ext.setCell ?_ (by simp <;> omega) _) | refine Ext.trans ?_ (by assumption)))) hbw (by repeat (first | exact Ext.refl _ | assumption | refine Ext.alloc ?_ _ | refine Ext.drew ?_ | refine Ext.drewN ?_ _ | (refine Ext.setCell ?_ (by simp <;> omega) _) | refine Ext.trans ?_ (by assumption))) hbr c1; have y2 := own_cell hg' (HO.out.ext (by repeat (first | exact Ext.refl _ | assumption | refine Ext.alloc ?_ _ | refine Ext.drew ?_ | refine Ext.drewN ?_ _ | (refine Ext.setCell ?_ (by simp <;> omega) _) | refine Ext.trans ?_ (by assumption)))) hbw' (by repeat (first | exact Ext.refl _ | assumption | refine Ext.alloc ?_ _ | refine Ext.drew ?_ | refine Ext.drewN ?_ _ | (refine Ext.setCell ?_ (by simp <;> omega) _) | refine Ext.trans ?_ (by assumption))) hbr' c2; have HW := Lib.hid (own_ext hg' (HO.out.ext (by repeat (first | exact Ext.refl _ | assumption | refine Ext.alloc ?_ _ | refine Ext.drew ?_ | refine Ext.drewN ?_ _ | (refine Ext.setCell ?_ (by simp <;> omega) _) | refine Ext.trans ?_ (by assumption)))) (HX.out.trans (by repeat (first | exact Ext.refl _ | assumption | refine Ext.alloc ?_ _ | refine Ext.drew ?_ | refine Ext.drewN ?_ _ | (refine Ext.setCell ?_ (by simp <;> omega) _) | refine Ext.trans ?_ (by assumption))))); have HO' := Lib.hid hown'; clear hown' hg') | (go_at_fn g; refine Calls.mono (CP.out _) ?_; rintro e W' ⟨rfl, rfl⟩))
      go_wp2
      go_roundw
      case rel => exact ⟨k + 1, by omega, by go_num, by rw [HT.out]; exact HO'.out, HW.out⟩
      case measure => simp [intOf]; omega
    · obtain rfl : k = n := by omega
      have HZ : Hid (zs.take k = zs) := Lib.hid (List.take_of_length_le (by rw [HL.out]; omega))
      have HO := Lib.hid hown; have HX := Lib.hid hxt; clear hown hxt hx hy
      go_wp2
      go_ret
      exact ⟨_, rfl, by rw [← HZ.out]; exact HO.out, HX.out⟩

/-! The four ways to make one count of two. -/
theorem plus_any (x y : Int) (w : World) (hx : 0 ≤ x ∧ x ≤ 1000000000) (hy : 0 ≤ y ∧ y ≤ 1000000000) : Calls Tryz.prog 26 #[.int .i64 x, .int .i64 y] w (Same (.int .i64 (x + y)) w) := by
  obtain ⟨h1, h2⟩ := hx
  obtain ⟨h3, h4⟩ := hy
  go_enter Tryz.func26, Tryz.ntmps26
  go_wp2
  go_ret
  exact ⟨rfl, rfl⟩
end Go.Proofs.YtfbdklminljecaaGreatDoor
namespace Go.Proofs.YtfbdklminljecaaGreatDoor
open Go.RowKit

theorem chk_zero {f : FT} (h : (chk f).2 = 0) : (1 ≤ f.body ∧ f.body ≤ 144) ∧ 1 ≤ f.sorts.length ∧ f.sorts.length ≤ 120 ∧ cleanTo f.sorts f.sorts.length := by
  unfold chk at h
  by_cases h1 : nameB f.name = false
  · rw [if_pos h1] at h; exact absurd h (by decide)
  rw [if_neg h1] at h
  by_cases h2 : ¬ (1 ≤ f.body ∧ f.body ≤ 144)
  · rw [if_pos h2] at h; exact absurd h (by decide)
  rw [if_neg h2] at h
  by_cases h3 : f.sorts.length = 0
  · rw [if_pos h3] at h; exact absurd h (by decide)
  rw [if_neg h3] at h
  by_cases h4 : 120 < f.sorts.length
  · rw [if_pos h4] at h; exact absurd h (by decide)
  rw [if_neg h4] at h
  refine ⟨by simpa using h2, by omega, by omega, ?_⟩
  have key : ∀ n, (match firstBad f.sorts n with | some k => ((k : Int), sortErr f.sorts k (f.sorts.getD k TS.zero)) | none => (0, 0)).2 = 0 → cleanTo f.sorts n := by
    intro n
    induction n with
    | zero => intro _ k hk; omega
    | succ n ih =>
      intro hh
      rw [firstBad] at hh
      cases hb : firstBad f.sorts n with
      | some k => rw [hb] at hh ih; exact absurd hh (by
          simp only at hh ih ⊢
          intro hz
          have hc := ih hz
          rw [firstBad_none hc] at hb; cases hb)
      | none =>
        rw [hb] at hh ih
        have hc := ih rfl
        simp only at hh
        by_cases hs : sortErr f.sorts n (f.sorts.getD n TS.zero) = 0
        · exact cleanTo_succ hc hs
        · rw [if_neg hs] at hh; exact absurd hh hs
  exact key _ h
theorem sort_zero {ss : List TS} {n : Nat} {x : TS} (h : sortErr ss n x = 0) : nameB x.name = true ∧ hasName ss n x.name = false ∧ (1 ≤ x.kind ∧ x.kind ≤ 3) ∧ (1 ≤ x.width ∧ x.width ≤ 100000) ∧ textErr ss n x.kind x.text = 0 := by
  unfold sortErr at h
  by_cases h1 : nameB x.name = false
  · rw [if_pos h1] at h; exact absurd h (by decide)
  rw [if_neg h1] at h
  by_cases h2 : hasName ss n x.name = true
  · rw [if_pos h2] at h; exact absurd h (by decide)
  rw [if_neg h2] at h
  by_cases h3 : ¬ (1 ≤ x.kind ∧ x.kind ≤ 3)
  · rw [if_pos h3] at h; exact absurd h (by decide)
  rw [if_neg h3] at h
  by_cases h4 : ¬ (1 ≤ x.width ∧ x.width ≤ 100000)
  · rw [if_pos h4] at h; exact absurd h (by decide)
  rw [if_neg h4] at h
  exact ⟨by simpa using h1, by simpa using h2, by simpa using h3, by simpa using h4, h⟩
theorem badCount_false {z : Int} : badCount z = false ↔ 0 ≤ z ∧ z ≤ 1000000 := by
  unfold badCount; rw [Bool.not_eq_false', Bool.and_eq_true, decide_eq_true_eq, decide_eq_true_eq]
theorem counts_zero {f : FT} {zs : List Int} (h : countsErr f zs = 0) : zs.length = f.sorts.length ∧ ∀ k, k < zs.length → 0 ≤ zs.getD k 0 ∧ zs.getD k 0 ≤ 1000000 := by
  unfold countsErr at h
  by_cases h1 : zs.length ≠ f.sorts.length
  · rw [if_pos h1] at h; exact absurd h (by decide)
  rw [if_neg h1] at h
  by_cases h2 : (idxOf badCount zs zs.length).isSome = true
  · rw [if_pos h2] at h; exact absurd h (by decide)
  refine ⟨by omega, fun k hk => badCount_false.1 ?_⟩
  rw [Bool.eq_false_iff]
  intro hb
  exact h2 ((idxOf_isSome _ _ _).2 ⟨k, hk, hb⟩)
theorem counts_of {f : FT} {zs : List Int} (hl : zs.length = f.sorts.length) (h : ∀ k, k < zs.length → 0 ≤ zs.getD k 0 ∧ zs.getD k 0 ≤ 1000000) : countsErr f zs = 0 := by
  unfold countsErr
  rw [if_neg (by omega), if_neg]
  intro hs
  obtain ⟨k, hk, hb⟩ := (idxOf_isSome _ _ _).1 hs
  rw [badCount_false.2 (h k hk)] at hb; cases hb
theorem case_zero {f : FT} {zs : List Int} (h : caseErr f zs = 0) : (chk f).2 = 0 ∧ countsErr f zs = 0 := by
  unfold caseErr at h
  by_cases h1 : (chk f).2 ≠ 0
  · rw [if_pos h1] at h; exact absurd h h1
  · rw [if_neg h1] at h; exact ⟨by simpa using h1, h⟩
theorem case_of {f : FT} {zs : List Int} (h : (chk f).2 = 0) (h' : countsErr f zs = 0) : caseErr f zs = 0 := by unfold caseErr; rw [if_neg (by rw [h]; simp), h']
theorem case2_zero {f : FT} {xs ys : List Int} (h : caseErr2 f xs ys = 0) : caseErr f xs = 0 ∧ countsErr f ys = 0 := by
  unfold caseErr2 at h
  by_cases h1 : caseErr f xs ≠ 0
  · rw [if_pos h1] at h; exact absurd h h1
  · rw [if_neg h1] at h; exact ⟨by simpa using h1, h⟩
theorem case2_of {f : FT} {xs ys : List Int} (h : caseErr f xs = 0) (h' : countsErr f ys = 0) : caseErr2 f xs ys = 0 := by unfold caseErr2; rw [if_neg (by rw [h]; simp), h']

/-- Two lists, number by number. -/
def zipK (o : Int → Int → Int) (xs ys : List Int) : List Int := (List.range xs.length).map fun k => o (xs.getD k 0) (ys.getD k 0)
theorem zipK_len (o : Int → Int → Int) (xs ys : List Int) : (zipK o xs ys).length = xs.length := by simp [zipK]
theorem zipK_at (o : Int → Int → Int) (xs ys : List Int) (k : Nat) (h : k < xs.length) : (zipK o xs ys).getD k 0 = o (xs.getD k 0) (ys.getD k 0) := by
  unfold zipK
  rw [List.getD_eq_getElem?_getD, List.getElem?_map, List.getElem?_range h]; rfl
def lacksI (x y : Int) : Int := max 0 (y - x)
def mostI (x y : Int) : Int := max x y
theorem lacks_any (x y : Int) (w : World) (hx : 0 ≤ x ∧ x ≤ 1000000000) (hy : 0 ≤ y ∧ y ≤ 1000000000) : Calls Tryz.prog 23 #[.int .i64 x, .int .i64 y] w (Same (.int .i64 (lacksI x y)) w) := by
  obtain ⟨h1, h2⟩ := hx
  obtain ⟨h3, h4⟩ := hy
  have HL : Hid (lacksI x y = max 0 (y - x)) := Lib.hid rfl
  generalize lacksI x y = l at *
  go_enter Tryz.func23, Tryz.ntmps23
  go_wp2
  go_ret
  exact ⟨by rw [HL.out]; rfl, rfl⟩
/-- A slice of the call's own, read and owned. -/
structure SL (w : World) (base : Nat) (A : Option Addr) (c : Nat) (zs : List Int) : Prop where
  own : Own w base (.slice A zs.length c) zs
  ri : RI w A zs.length zs
  cap : zs.length ≤ c
theorem SL.nil (w : World) (base : Nat) : SL w base none 0 [] := ⟨Own.nil _ _, RI.nil, Nat.le_refl _⟩
theorem SL.of_own {w : World} {base c : Nat} {A : Option Addr} {zs : List Int} (h : Own w base (.slice A zs.length c) zs) (hz : zs.length ≤ 1000000) : SL w base A c zs := by
  obtain ⟨A', c', he, hc, hr⟩ := h.form (by omega)
  obtain ⟨e1, _, e3⟩ := Value.slice.inj he
  subst e1 e3
  exact ⟨h, hr, hc⟩
theorem SL.ext {w w' : World} {base c : Nat} {A : Option Addr} {zs : List Int} (h : SL w base A c zs) (hx : Ext w w') : SL w' base A c zs := ⟨h.own.ext hx, h.ri.ext hx, h.cap⟩
theorem SL.mono {w : World} {base base' c : Nat} {A : Option Addr} {zs : List Int} (h : SL w base A c zs) (hb : base' ≤ base) : SL w base' A c zs := by
  refine ⟨⟨h.own.1, ?_⟩, h.ri, h.cap⟩
  rcases h.own.2 with h' | ⟨g, cap, cur, hv, hg, r⟩
  · exact .inl h'
  · exact .inr ⟨g, cap, cur, hv, by omega, r⟩
/-- The call hands back a new slice; with an error; with a number and an error. -/
def RetS (zs : List Int) (w : World) (e : Ending) (w' : World) : Prop := ∃ A c, e = .returned (.slice A zs.length c) ∧ SL w' w.heap.size A c zs ∧ Ext w w'
def RetSE (zs : List Int) (z : Int) (w : World) (e : Ending) (w' : World) : Prop := ∃ A c, e = .returned (.tuple #[.slice A zs.length c, .int .i64 z]) ∧ SL w' w.heap.size A c zs ∧ Ext w w'
def RetSNE (zs : List Int) (n z : Int) (w : World) (e : Ending) (w' : World) : Prop := ∃ A c, e = .returned (.tuple #[.slice A zs.length c, .int .i64 n, .int .i64 z]) ∧ SL w' w.heap.size A c zs ∧ Ext w w'
theorem RetI.s {zs : List Int} {w : World} (hz : zs.length ≤ 140737488351232) : ∀ (e : Ending) (w' : World), RetI zs w e w' → RetS zs w e w' := fun e w' ⟨v, he, ho, hx⟩ => by
  obtain ⟨A, c, rfl, hc, hr⟩ := ho.form hz
  exact ⟨A, c, he, ⟨ho, hr, hc⟩, hx⟩

def maxTo (zs : List Int) : Nat → Int
  | 0 => 0
  | n + 1 => if n = 0 then zs.getD 0 0 else max (maxTo zs n) (zs.getD n 0)
theorem maxTo_gt (zs : List Int) (M : Int) : ∀ n, 1 ≤ n → (M < maxTo zs n ↔ ∃ k, k < n ∧ M < zs.getD k 0)
  | 0, h => by omega
  | n + 1, _ => by
    unfold maxTo
    by_cases h0 : n = 0
    · subst h0
      rw [if_pos rfl]
      refine ⟨fun h => ⟨0, by omega, h⟩, fun ⟨k, hk, h⟩ => ?_⟩
      obtain rfl : k = 0 := by omega
      exact h
    · rw [if_neg h0]
      have ih := maxTo_gt zs M n (by omega)
      constructor
      · intro h
        by_cases h1 : M < maxTo zs n
        · obtain ⟨k, hk, hm⟩ := ih.1 h1; exact ⟨k, by omega, hm⟩
        · exact ⟨n, by omega, by omega⟩
      · rintro ⟨k, hk, hm⟩
        by_cases hkn : k < n
        · have := ih.2 ⟨k, hkn, hm⟩; omega
        · obtain rfl : k = n := by omega
          omega
set_option maxHeartbeats 1000000 in
theorem max_any (A : Option Addr) (n c : Nat) (zs : List Int) (w : World) (h : RI w A n zs) (hn : 1 ≤ n) :
    Calls Tryz.prog 27 #[.slice A n c] w (Same (.int .i64 (maxTo zs n)) w) := by
  have hbig := h.big
  obtain ⟨b, off, rfl, hbw, hcell⟩ := h.2.2 (by omega)
  have c0 := hcell 0 (by omega)
  simp only [Nat.add_zero] at c0
  have h1 : ¬ (n : Int) < 1 := by omega
  have h0 : 0 < n := by omega
  have h0i : (0 : Int) < (n : Int) := by omega
  have HC := Lib.hid hcell; clear hcell h
  have HM : Hid (maxTo zs 1 = zs.getD 0 0) := Lib.hid rfl
  generalize hz0 : zs.getD 0 0 = z0 at *
  clear hz0
  go_enter Tryz.func27, Tryz.ntmps27
  go_wp2
  go_loop [3, 4] (fun m i => ∃ k : Nat, 1 ≤ k ∧ k ≤ n ∧ i = .int .i64 k ∧ m = .int .i64 (maxTo zs k)) (fun _ i => n - (intOf i).toNat)
  case atStart => exact ⟨1, by omega, by omega, rfl, by rw [HM.out]⟩
  case round =>
    obtain ⟨k, hk1, hk, rfl, rfl⟩ := hrel
    by_cases hlt : k < n
    · have c1 := HC.out k hlt
      have HT : Hid (maxTo zs (k + 1) = max (maxTo zs k) (zs.getD k 0)) := Lib.hid (by rw [maxTo, if_neg (by omega)])
      generalize zs.getD k 0 = y at *
      go_wp2
      go_round
      case rel => exact ⟨k + 1, by omega, by omega, by go_num, by rw [HT.out]⟩
      case measure => simp [intOf]; omega
    · obtain rfl : k = n := by omega
      go_wp2
      go_ret
      exact ⟨rfl, rfl⟩

/-- What Joined returns. -/
def joinR (f : FT) (xs ys : List Int) : List Int × Int :=
  if caseErr2 f xs ys ≠ 0 then ([], caseErr2 f xs ys) else if 1000000 < maxTo (zipK (· + ·) xs ys) (zipK (· + ·) xs ys).length then ([], 8) else (zipK (· + ·) xs ys, 0)
set_option maxHeartbeats 2000000 in
theorem joined_any (f : FT) (A : Option Addr) (c : Nat) (X : Option Addr) (cx : Nat) (Y : Option Addr) (cy : Nat) (xs ys : List Int) (w : World) (hf : FR w A c f) (hx : RI w X xs.length xs) (hy : RI w Y ys.length ys) :
    Calls Tryz.prog 11 #[f.val A c, .slice X xs.length cx, .slice Y ys.length cy] w (RetSE (joinR f xs ys).1 (joinR f xs ys).2 w) := by
  have cC := fun Z W h1 h2 => check_any f A c Z 2 2 [⟨X, cx, xs⟩, ⟨Y, cy, ys⟩] W h1 h2
  rw [checkErr_two] at cC
  simp only at cC
  have HF := Lib.hid hf; have HX := Lib.hid hx; have HY := Lib.hid hy; clear hf hx hy
  by_cases hz : caseErr2 f xs ys = 0
  · obtain ⟨h1, h2⟩ := case2_zero hz
    obtain ⟨h3, h4⟩ := case_zero h1
    obtain ⟨l1, b1⟩ := counts_zero h4
    obtain ⟨l2, b2⟩ := counts_zero h2
    obtain ⟨_, n1, n2, _⟩ := chk_zero h3
    have hn : 1 ≤ xs.length := by omega
    have hxy : xs.length ≤ ys.length := by omega
    have hx120 : xs.length ≤ 120 := by omega
    have cO := fun W hx hy => combined_any 26 (fun _ _ => by kernel_rfl) X Y xs.length cx cy ys.length xs ys (zipK (· + ·) xs ys) W hx hy (zipK_len _ _ _) hxy (by omega)
      (fun W k hk => by rw [zipK_at _ _ _ _ hk]; exact plus_any _ _ W (by have := b1 k hk; omega) (by have := b2 k (by omega); omega))
    have hzl : (zipK (· + ·) xs ys).length = xs.length := zipK_len _ _ _
    have HR : Hid (joinR f xs ys = if 1000000 < maxTo (zipK (· + ·) xs ys) (zipK (· + ·) xs ys).length then ([], 8) else (zipK (· + ·) xs ys, 0)) := Lib.hid (by unfold joinR; rw [if_neg (by rw [hz]; simp)])
    rw [hz] at cC
    have cM := fun A c W h => max_any A (zipK (· + ·) xs ys).length c (zipK (· + ·) xs ys) W h (by omega)
    generalize joinR f xs ys = r at *
    generalize zipK (· + ·) xs ys = zs at *
    have HZL := Lib.hid hzl; clear hzl
    clear b1 b2 h1 h2 h3 h4 hz l1 l2 n1 hn hxy
    obtain ⟨name, body, ss⟩ := f
    simp only [FT.val] at *
    have CC := Lib.hid cC; have CO := Lib.hid cO; clear cC cO
    by_cases hm : 1000000 < maxTo zs zs.length
    · have HM := Lib.hid hm
      generalize maxTo zs zs.length = mx at *
      have CM := Lib.hid cM; clear cM
      go_enter Tryz.func11, Tryz.ntmps11
      go_wp2_with (first | (go_at_call 21; refine Calls.mono (CC.out _ _ ?_ ?_) ?_; (exact HF.out.ext (by repeat (first | exact Ext.refl _ | assumption | refine Ext.alloc ?_ _ | refine Ext.drew ?_ | refine Ext.drewN ?_ _ | (refine Ext.setCell ?_ (by simp <;> omega) _) | refine Ext.trans ?_ (by assumption)))); (exact RL.two (Blk.new1 _ _ _ _) (HX.out.ext (by repeat (first | exact Ext.refl _ | assumption | refine Ext.alloc ?_ _ | refine Ext.drew ?_ | refine Ext.drewN ?_ _ | (refine Ext.setCell ?_ (by simp <;> omega) _) | refine Ext.trans ?_ (by assumption)))) (HY.out.ext (by repeat (first | exact Ext.refl _ | assumption | refine Ext.alloc ?_ _ | refine Ext.drew ?_ | refine Ext.drewN ?_ _ | (refine Ext.setCell ?_ (by simp <;> omega) _) | refine Ext.trans ?_ (by assumption))))); rintro e w1 ⟨rfl, hb⟩) | (go_at_call 22; refine Calls.mono (Calls.mono (CO.out _ ?_ ?_) (RetI.s (by rw [HZL.out]; omega))) ?_; (exact HX.out.ext (Ext.trans (by repeat (first | exact Ext.refl _ | assumption | refine Ext.alloc ?_ _ | refine Ext.drew ?_ | refine Ext.drewN ?_ _ | (refine Ext.setCell ?_ (by simp <;> omega) _) | refine Ext.trans ?_ (by assumption))) hb)); (exact HY.out.ext (Ext.trans (by repeat (first | exact Ext.refl _ | assumption | refine Ext.alloc ?_ _ | refine Ext.drew ?_ | refine Ext.drewN ?_ _ | (refine Ext.setCell ?_ (by simp <;> omega) _) | refine Ext.trans ?_ (by assumption))) hb)); rintro e w2 ⟨Z, cz, rfl, hS, hb2⟩; have HS := Lib.hid hS; clear hS) | (go_at_call 27; refine Calls.mono (CM.out _ _ _ ?_) ?_; (exact HS.out.ri); rintro e w3 ⟨rfl, rfl⟩))
      go_ret2
      refine ⟨none, 0, ?_, ?_, (Ext.trans (by repeat (first | exact Ext.refl _ | assumption | refine Ext.alloc ?_ _ | refine Ext.drew ?_ | refine Ext.drewN ?_ _ | (refine Ext.setCell ?_ (by simp <;> omega) _) | refine Ext.trans ?_ (by assumption))) hb).trans hb2⟩
      · rw [HR.out, if_pos HM.out]; rfl
      · rw [HR.out, if_pos HM.out]; exact SL.nil _ _
    · have HM := Lib.hid hm
      generalize maxTo zs zs.length = mx at *
      have CM := Lib.hid cM; clear cM
      go_enter Tryz.func11, Tryz.ntmps11
      go_wp2_with (first | (go_at_call 21; refine Calls.mono (CC.out _ _ ?_ ?_) ?_; (exact HF.out.ext (by repeat (first | exact Ext.refl _ | assumption | refine Ext.alloc ?_ _ | refine Ext.drew ?_ | refine Ext.drewN ?_ _ | (refine Ext.setCell ?_ (by simp <;> omega) _) | refine Ext.trans ?_ (by assumption)))); (exact RL.two (Blk.new1 _ _ _ _) (HX.out.ext (by repeat (first | exact Ext.refl _ | assumption | refine Ext.alloc ?_ _ | refine Ext.drew ?_ | refine Ext.drewN ?_ _ | (refine Ext.setCell ?_ (by simp <;> omega) _) | refine Ext.trans ?_ (by assumption)))) (HY.out.ext (by repeat (first | exact Ext.refl _ | assumption | refine Ext.alloc ?_ _ | refine Ext.drew ?_ | refine Ext.drewN ?_ _ | (refine Ext.setCell ?_ (by simp <;> omega) _) | refine Ext.trans ?_ (by assumption))))); rintro e w1 ⟨rfl, hb⟩) | (go_at_call 22; refine Calls.mono (Calls.mono (CO.out _ ?_ ?_) (RetI.s (by rw [HZL.out]; omega))) ?_; (exact HX.out.ext (Ext.trans (by repeat (first | exact Ext.refl _ | assumption | refine Ext.alloc ?_ _ | refine Ext.drew ?_ | refine Ext.drewN ?_ _ | (refine Ext.setCell ?_ (by simp <;> omega) _) | refine Ext.trans ?_ (by assumption))) hb)); (exact HY.out.ext (Ext.trans (by repeat (first | exact Ext.refl _ | assumption | refine Ext.alloc ?_ _ | refine Ext.drew ?_ | refine Ext.drewN ?_ _ | (refine Ext.setCell ?_ (by simp <;> omega) _) | refine Ext.trans ?_ (by assumption))) hb)); rintro e w2 ⟨Z, cz, rfl, hS, hb2⟩; have HS := Lib.hid hS; clear hS) | (go_at_call 27; refine Calls.mono (CM.out _ _ _ ?_) ?_; (exact HS.out.ri); rintro e w3 ⟨rfl, rfl⟩))
      go_ret2
      refine ⟨Z, cz, ?_, ?_, (Ext.trans (by repeat (first | exact Ext.refl _ | assumption | refine Ext.alloc ?_ _ | refine Ext.drew ?_ | refine Ext.drewN ?_ _ | (refine Ext.setCell ?_ (by simp <;> omega) _) | refine Ext.trans ?_ (by assumption))) hb).trans hb2⟩
      · rw [HR.out, if_neg (show ¬ 1000000 < mx by have := HM.out; omega)]; rfl
      · rw [HR.out, if_neg (show ¬ 1000000 < mx by have := HM.out; omega)]; exact HS.out.mono (by have := hb.size; simp at this; omega)
  · have HR : Hid (joinR f xs ys = ([], caseErr2 f xs ys)) := Lib.hid (by unfold joinR; rw [if_pos hz])
    generalize joinR f xs ys = r at *
    generalize caseErr2 f xs ys = z at *
    have e0 : (z != 0) = true := by simpa using hz
    clear hz
    obtain ⟨name, body, ss⟩ := f
    simp only [FT.val] at *
    have CC := Lib.hid cC; clear cC
    go_enter Tryz.func11, Tryz.ntmps11
    go_wp2_with (first | (go_at_call 21; refine Calls.mono (CC.out _ _ ?_ ?_) ?_; (exact HF.out.ext (by repeat (first | exact Ext.refl _ | assumption | refine Ext.alloc ?_ _ | refine Ext.drew ?_ | refine Ext.drewN ?_ _ | (refine Ext.setCell ?_ (by simp <;> omega) _) | refine Ext.trans ?_ (by assumption)))); (exact RL.two (Blk.new1 _ _ _ _) (HX.out.ext (by repeat (first | exact Ext.refl _ | assumption | refine Ext.alloc ?_ _ | refine Ext.drew ?_ | refine Ext.drewN ?_ _ | (refine Ext.setCell ?_ (by simp <;> omega) _) | refine Ext.trans ?_ (by assumption)))) (HY.out.ext (by repeat (first | exact Ext.refl _ | assumption | refine Ext.alloc ?_ _ | refine Ext.drew ?_ | refine Ext.drewN ?_ _ | (refine Ext.setCell ?_ (by simp <;> omega) _) | refine Ext.trans ?_ (by assumption))))); rintro e w1 ⟨rfl, hb⟩))
    go_ret2
    exact ⟨none, 0, by rw [HR.out]; rfl, by rw [HR.out]; exact SL.nil _ _, (by repeat (first | exact Ext.refl _ | assumption | refine Ext.alloc ?_ _ | refine Ext.drew ?_ | refine Ext.drewN ?_ _ | (refine Ext.setCell ?_ (by simp <;> omega) _) | refine Ext.trans ?_ (by assumption)))⟩

def neg (z : Int) : Bool := decide (z < 0)
/-- What Taken, and what Lacking, returns. -/
def takeR (f : FT) (xs ys : List Int) : List Int × Int × Int :=
  if caseErr2 f xs ys ≠ 0 then ([], 0, caseErr2 f xs ys) else
  match idxOf neg (zipK (· - ·) xs ys) (zipK (· - ·) xs ys).length with | some k => ([], (k : Int), 20) | none => (zipK (· - ·) xs ys, 0, 0)
def lackR (f : FT) (xs ys : List Int) : List Int × Int := if caseErr2 f xs ys ≠ 0 then ([], caseErr2 f xs ys) else (zipK lacksI xs ys, 0)

set_option maxHeartbeats 2000000 in
theorem lacking_any (f : FT) (A : Option Addr) (c : Nat) (X : Option Addr) (cx : Nat) (Y : Option Addr) (cy : Nat) (xs ys : List Int) (w : World) (hf : FR w A c f) (hx : RI w X xs.length xs) (hy : RI w Y ys.length ys) :
    Calls Tryz.prog 9 #[f.val A c, .slice X xs.length cx, .slice Y ys.length cy] w (RetSE (lackR f xs ys).1 (lackR f xs ys).2 w) := by
  have cC := fun Z W h1 h2 => check_any f A c Z 2 2 [⟨X, cx, xs⟩, ⟨Y, cy, ys⟩] W h1 h2
  rw [checkErr_two] at cC
  simp only at cC
  have HF := Lib.hid hf; have HX := Lib.hid hx; have HY := Lib.hid hy; clear hf hx hy
  by_cases hz : caseErr2 f xs ys = 0
  · obtain ⟨h1, h2⟩ := case2_zero hz
    obtain ⟨h3, h4⟩ := case_zero h1
    obtain ⟨l1, b1⟩ := counts_zero h4
    obtain ⟨l2, b2⟩ := counts_zero h2
    obtain ⟨_, n1, n2, _⟩ := chk_zero h3
    have hxy : xs.length ≤ ys.length := by omega
    have hx120 : xs.length ≤ 120 := by omega
    have cO := fun W hx hy => combined_any 23 (fun _ _ => by kernel_rfl) X Y xs.length cx cy ys.length xs ys (zipK lacksI xs ys) W hx hy (zipK_len _ _ _) hxy (by omega)
      (fun W k hk => by rw [zipK_at _ _ _ _ hk]; exact lacks_any _ _ W (by have := b1 k hk; omega) (by have := b2 k (by omega); omega))
    have hzl : (zipK lacksI xs ys).length = xs.length := zipK_len _ _ _
    have HR : Hid (lackR f xs ys = (zipK lacksI xs ys, 0)) := Lib.hid (by unfold lackR; rw [if_neg (by rw [hz]; simp)])
    rw [hz] at cC
    generalize lackR f xs ys = r at *
    generalize zipK lacksI xs ys = zs at *
    have HZL := Lib.hid hzl; clear hzl
    clear b1 b2 h1 h2 h3 h4 hz l1 l2 n1 hxy
    obtain ⟨name, body, ss⟩ := f
    simp only [FT.val] at *
    have CC := Lib.hid cC; have CO := Lib.hid cO; clear cC cO
    go_enter Tryz.func9, Tryz.ntmps9
    go_wp2_with (first | (go_at_call 21; refine Calls.mono (CC.out _ _ ?_ ?_) ?_; (exact HF.out.ext (by repeat (first | exact Ext.refl _ | assumption | refine Ext.alloc ?_ _ | refine Ext.drew ?_ | refine Ext.drewN ?_ _ | (refine Ext.setCell ?_ (by simp <;> omega) _) | refine Ext.trans ?_ (by assumption)))); (exact RL.two (Blk.new1 _ _ _ _) (HX.out.ext (by repeat (first | exact Ext.refl _ | assumption | refine Ext.alloc ?_ _ | refine Ext.drew ?_ | refine Ext.drewN ?_ _ | (refine Ext.setCell ?_ (by simp <;> omega) _) | refine Ext.trans ?_ (by assumption)))) (HY.out.ext (by repeat (first | exact Ext.refl _ | assumption | refine Ext.alloc ?_ _ | refine Ext.drew ?_ | refine Ext.drewN ?_ _ | (refine Ext.setCell ?_ (by simp <;> omega) _) | refine Ext.trans ?_ (by assumption))))); rintro e w1 ⟨rfl, hb⟩) | (go_at_call 22; refine Calls.mono (Calls.mono (CO.out _ ?_ ?_) (RetI.s (by rw [HZL.out]; omega))) ?_; (exact HX.out.ext (Ext.trans (by repeat (first | exact Ext.refl _ | assumption | refine Ext.alloc ?_ _ | refine Ext.drew ?_ | refine Ext.drewN ?_ _ | (refine Ext.setCell ?_ (by simp <;> omega) _) | refine Ext.trans ?_ (by assumption))) hb)); (exact HY.out.ext (Ext.trans (by repeat (first | exact Ext.refl _ | assumption | refine Ext.alloc ?_ _ | refine Ext.drew ?_ | refine Ext.drewN ?_ _ | (refine Ext.setCell ?_ (by simp <;> omega) _) | refine Ext.trans ?_ (by assumption))) hb)); rintro e w2 ⟨Z, cz, rfl, hS, hb2⟩; have HS := Lib.hid hS; clear hS))
    go_ret2
    exact ⟨Z, cz, by rw [HR.out]; rfl, by rw [HR.out]; exact HS.out.mono (by have := hb.size; simp at this; omega), (Ext.trans (by repeat (first | exact Ext.refl _ | assumption | refine Ext.alloc ?_ _ | refine Ext.drew ?_ | refine Ext.drewN ?_ _ | (refine Ext.setCell ?_ (by simp <;> omega) _) | refine Ext.trans ?_ (by assumption))) hb).trans hb2⟩
  · have HR : Hid (lackR f xs ys = ([], caseErr2 f xs ys)) := Lib.hid (by unfold lackR; rw [if_pos hz])
    generalize lackR f xs ys = r at *
    generalize caseErr2 f xs ys = z at *
    have e0 : (z != 0) = true := by simpa using hz
    clear hz
    obtain ⟨name, body, ss⟩ := f
    simp only [FT.val] at *
    have CC := Lib.hid cC; clear cC
    go_enter Tryz.func9, Tryz.ntmps9
    go_wp2_with (first | (go_at_call 21; refine Calls.mono (CC.out _ _ ?_ ?_) ?_; (exact HF.out.ext (by repeat (first | exact Ext.refl _ | assumption | refine Ext.alloc ?_ _ | refine Ext.drew ?_ | refine Ext.drewN ?_ _ | (refine Ext.setCell ?_ (by simp <;> omega) _) | refine Ext.trans ?_ (by assumption)))); (exact RL.two (Blk.new1 _ _ _ _) (HX.out.ext (by repeat (first | exact Ext.refl _ | assumption | refine Ext.alloc ?_ _ | refine Ext.drew ?_ | refine Ext.drewN ?_ _ | (refine Ext.setCell ?_ (by simp <;> omega) _) | refine Ext.trans ?_ (by assumption)))) (HY.out.ext (by repeat (first | exact Ext.refl _ | assumption | refine Ext.alloc ?_ _ | refine Ext.drew ?_ | refine Ext.drewN ?_ _ | (refine Ext.setCell ?_ (by simp <;> omega) _) | refine Ext.trans ?_ (by assumption))))); rintro e w1 ⟨rfl, hb⟩))
    go_ret2
    exact ⟨none, 0, by rw [HR.out]; rfl, by rw [HR.out]; exact SL.nil _ _, (by repeat (first | exact Ext.refl _ | assumption | refine Ext.alloc ?_ _ | refine Ext.drew ?_ | refine Ext.drewN ?_ _ | (refine Ext.setCell ?_ (by simp <;> omega) _) | refine Ext.trans ?_ (by assumption)))⟩
end Go.Proofs.YtfbdklminljecaaGreatDoor
namespace Go.Proofs.YtfbdklminljecaaGreatDoor
open Go.RowKit

def sumTo (g : Nat → Int) : Nat → Int | 0 => 0 | n + 1 => sumTo g n + g n
theorem sumTo_bd (g : Nat → Int) (M : Int) (n : Nat) (h : ∀ k, k < n → 0 ≤ g k ∧ g k ≤ M) : 0 ≤ sumTo g n ∧ sumTo g n ≤ n * M := by
  induction n with
  | zero => simp [sumTo]
  | succ n ih =>
    have h1 := ih (fun k hk => h k (by omega))
    have h2 := h n (by omega)
    rw [sumTo]
    have : ((n + 1 : Nat) : Int) * M = n * M + M := by rw [Int.natCast_add, Int.add_mul]; simp
    omega
def metalTo (ss : List TS) (cs : List Int) (body : Int) (n : Nat) : Int := sumTo (fun k => cs.getD k 0 * (ss.getD k TS.zero).width * body) n
/-- Counts, widths and the body lie in their ranges. -/
structure MetalOk (f : FT) (cs : List Int) : Prop where
  len : cs.length = f.sorts.length
  few : f.sorts.length ≤ 120
  body : 1 ≤ f.body ∧ f.body ≤ 144
  cnt : ∀ k, k < f.sorts.length → 0 ≤ cs.getD k 0 ∧ cs.getD k 0 ≤ 1000000
  wid : ∀ k, k < f.sorts.length → 1 ≤ (f.sorts.getD k TS.zero).width ∧ (f.sorts.getD k TS.zero).width ≤ 100000
theorem MetalOk.of {f : FT} {cs : List Int} (h1 : (chk f).2 = 0) (h2 : countsErr f cs = 0) : MetalOk f cs := by
  obtain ⟨a, b, c, d⟩ := chk_zero h1
  obtain ⟨e, g⟩ := counts_zero h2
  exact ⟨e, c, a, fun k hk => g k (by omega), fun k hk => (sort_zero (d k hk)).2.2.2.1⟩
theorem MetalOk.term {f : FT} {cs : List Int} (h : MetalOk f cs) (k : Nat) (hk : k < f.sorts.length) : 0 ≤ cs.getD k 0 * (f.sorts.getD k TS.zero).width * f.body ∧ cs.getD k 0 * (f.sorts.getD k TS.zero).width * f.body ≤ 14400000000000 := by
  have w1 := h.wid k hk
  have p1 := mul_bd (h.cnt k hk) ⟨Int.le_trans (by omega) w1.1, w1.2⟩
  exact mul_bd p1 ⟨Int.le_trans (by omega) h.body.1, h.body.2⟩
theorem MetalOk.bd {f : FT} {cs : List Int} (h : MetalOk f cs) (n : Nat) (hn : n ≤ f.sorts.length) : 0 ≤ metalTo f.sorts cs f.body n ∧ metalTo f.sorts cs f.body n ≤ 1728000000000000 := by
  have := sumTo_bd (fun k => cs.getD k 0 * (f.sorts.getD k TS.zero).width * f.body) 14400000000000 n (fun k hk => h.term k (by omega))
  have hf := h.few
  unfold metalTo
  omega

def metalR (f : FT) (cs : List Int) : Int := metalTo f.sorts cs f.body f.sorts.length
def metalOfV (f : FT) (cs : List Int) : Value := .tuple #[.int .i64 (if caseErr f cs ≠ 0 then 0 else metalR f cs), .int .i64 (caseErr f cs)]
/-- What Cast returns. -/
def castR (f : FT) (stock : Int) (bill : List Int) : Int × Int × Int :=
  if (chk f).2 ≠ 0 then (0, 0, (chk f).2) else if ¬ (0 ≤ stock ∧ stock ≤ 1000000000000000000) then (0, 0, 2) else if countsErr f bill ≠ 0 then (0, 0, countsErr f bill)
  else if metalR f bill = 0 then (0, 0, 11) else (stock / metalR f bill, stock % metalR f bill, 0)
def castV (f : FT) (stock : Int) (bill : List Int) : Value := .tuple #[.int .i64 (castR f stock bill).1, .int .i64 (castR f stock bill).2.1, .int .i64 (castR f stock bill).2.2]
end Go.Proofs.YtfbdklminljecaaGreatDoor
