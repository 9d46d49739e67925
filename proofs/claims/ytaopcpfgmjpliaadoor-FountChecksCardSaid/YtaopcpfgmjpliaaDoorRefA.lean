/-
  Walks: the reference's named and printsErr.
-/
import Derived.Test.YtaopcpfgmjpliaaDoorSpec
import Derived.Test.YtaopcpfgmjpliaaDoorProg
import Derived.Test.YtaopcpfgmjpliaaDoorNames
namespace Go.Proofs.YtaopcpfgmjpliaaDoor
open Go.RowKit

/-- The first of the first n sorts that bears a name. -/
def nameAt (ss : List TS) (s : ByteArray) : Nat → Option Nat
  | 0 => none
  | n + 1 => match nameAt ss s n with | some k => some k | none => if (ss.getD n TS.zero).name = s then some n else none
def optI : Option Nat → Int | some k => k | none => -1
theorem nameAt_none {ss : List TS} {s : ByteArray} : ∀ {n : Nat}, (∀ k, k < n → (ss.getD k TS.zero).name ≠ s) → nameAt ss s n = none
  | 0, _ => rfl
  | n + 1, h => by rw [nameAt, nameAt_none (fun k hk => h k (by omega))]; simp only; rw [if_neg (h n (by omega))]
theorem nameAt_some {ss : List TS} {s : ByteArray} {k : Nat} (hc : ∀ j, j < k → (ss.getD j TS.zero).name ≠ s) (hb : (ss.getD k TS.zero).name = s) : ∀ {n : Nat}, k < n → nameAt ss s n = some k
  | n + 1, hk => by
    rw [nameAt]
    by_cases h : k < n
    · rw [nameAt_some hc hb h]
    · obtain rfl : k = n := by omega
      rw [nameAt_none hc]; simp only; rw [if_pos hb]
theorem nameAt_has (ss : List TS) (s : ByteArray) : ∀ n, n ≤ ss.length → (nameAt ss s n).isSome = hasName ss n s
  | 0, _ => rfl
  | n + 1, h => by
    have ih := nameAt_has ss s n (by omega)
    unfold hasName at ih ⊢
    rw [take_getD ss n (by omega), List.any_append, ← ih]
    simp only [nameAt, List.any_cons, List.any_nil, Bool.or_false]
    cases nameAt ss s n with
    | some k => simp
    | none => by_cases e : (ss.getD n TS.zero).name = s <;> simp only [e, if_true, if_false] <;> simp
theorem str_eq_true (a : ByteArray) : (a.toList == a.toList) = true := by simp
theorem str_eq_false {a b : ByteArray} (h : a ≠ b) : (a.toList == b.toList) = false := by
  rw [beq_eq_false_iff_ne, Go.ByteArray.toList_eq, Go.ByteArray.toList_eq]; exact fun e => h (bytes_ext e)

set_option maxHeartbeats 1000000 in
theorem named_any (A : Option Addr) (n c : Nat) (ss : List TS) (s : ByteArray) (w : World) (h : RT w A n ss) :
    Calls Tryd.prog 26 #[.slice A n c, .string s] w (Same (.int .i64 (optI (nameAt ss s n))) w) := by
  have hbig := h.big
  go_enter Tryd.func26, Tryd.ntmps26
  go_wp2
  go_loop [5] (fun i => ∃ k : Nat, k ≤ n ∧ i = .int .i64 k ∧ ∀ j, j < k → (ss.getD j TS.zero).name ≠ s) (fun i => n - (intOf i).toNat)
  case atStart => exact ⟨0, Nat.zero_le _, rfl, fun j hj => absurd hj (by omega)⟩
  case round =>
    obtain ⟨k, hk, rfl, hno⟩ := hrel
    have HNO := Lib.hid hno; clear hno
    by_cases hlt : k < n
    · obtain ⟨b, off, rfl, hbw, hcell⟩ := h.2.2 (by omega)
      obtain ⟨c1, _, _, _⟩ := hcell k hlt
      by_cases he : (ss.getD k TS.zero).name = s
      · have HV := Lib.hid (nameAt_some HNO.out he hlt)
        rw [he] at c1
        have HE := Lib.hid he; clear he hcell h
        go_wp2
        go_ret
        exact ⟨by rw [HV.out]; rfl, rfl⟩
      · have HK : Hid (∀ j, j < k + 1 → (ss.getD j TS.zero).name ≠ s) := fun j hj => by
          by_cases hj' : j < k
          · exact HNO.out j hj'
          · obtain rfl : j = k := by omega
            exact he
        generalize (ss.getD k TS.zero).name = x at *
        have e := str_eq_false he
        clear he hcell h
        go_wp2
        go_round
        case rel => exact ⟨k + 1, by omega, by go_num, HK.out⟩
        case measure => simp [intOf]; omega
    · obtain rfl : k = n := by omega
      have HV := Lib.hid (nameAt_none HNO.out)
      clear h
      go_wp2
      go_ret
      exact ⟨by rw [HV.out]; rfl, rfl⟩

def okB (c : Int) : Bool := decide (33 ≤ c) && decide (c ≤ 126)
def printTo (s : ByteArray) (n : Nat) : Prop := ∀ (j : Nat) (h : j < s.size), j < n → okB (s[j].toNat : Int) = true
theorem printable_of (s : ByteArray) (h : printTo s s.size) : printable s = true := by
  unfold printable
  rw [List.all_eq_true]
  intro b hb
  obtain ⟨j, hj, rfl⟩ := List.getElem_of_mem hb
  exact h j (by simpa using hj) (by simpa using hj)
theorem printable_bad (s : ByteArray) (k : Nat) (h : k < s.size) (hb : okB (s[k].toNat : Int) = false) : printable s = false := by
  unfold printable
  rw [List.all_eq_false]
  exact ⟨s[k], by have e : s[k] = s.data.toList[k]'(by simpa using h) := rfl; rw [e]; exact List.getElem_mem _, by rw [Bool.not_eq_true]; exact hb⟩
theorem hasText_none {ss : List TS} {s : ByteArray} : ∀ {n : Nat}, n ≤ ss.length → (∀ j, j < n → ¬ ((ss.getD j TS.zero).kind ≠ 3 ∧ (ss.getD j TS.zero).text = s)) → hasText ss n s = false
  | 0, _, _ => rfl
  | n + 1, hn, h => by
    have ih := hasText_none (n := n) (by omega) (fun j hj => h j (by omega))
    unfold hasText at ih ⊢
    rw [take_getD ss n (by omega), List.any_append, ih]
    have := h n (by omega)
    simp only [List.any_cons, List.any_nil, Bool.or_false, Bool.false_or]
    rw [Bool.and_eq_false_iff, decide_eq_false_iff_not, decide_eq_false_iff_not]
    by_cases hk : (ss.getD n TS.zero).kind = 3
    · left; simp only [ne_eq, hk, not_true, not_false_eq_true]
    · right; exact fun e => this ⟨hk, e⟩
theorem hasText_some {ss : List TS} {s : ByteArray} {k n : Nat} (hk : k < n) (hn : n ≤ ss.length) (h1 : (ss.getD k TS.zero).kind ≠ 3) (h2 : (ss.getD k TS.zero).text = s) : hasText ss n s = true := by
  unfold hasText
  rw [List.any_eq_true]
  refine ⟨ss.getD k TS.zero, ?_, by simp only [h2]; simp only [decide_eq_true h1, decide_true, Bool.and_self]⟩
  rw [List.getD_eq_getElem?_getD, List.getElem?_eq_getElem (by omega)]
  exact List.mem_take_iff_getElem.2 ⟨k, by omega, rfl⟩

theorem take_at (ss : List TS) (n k : Nat) (h : k < n) : (ss.take n).getD k TS.zero = ss.getD k TS.zero := by
  simp [List.getD_eq_getElem?_getD, h]
set_option maxHeartbeats 4000000 in
set_option maxRecDepth 100000 in
theorem printsErr_any (A : Option Addr) (n c : Nat) (ss : List TS) (K : Int) (s : ByteArray) (w : World) (h : RT w A n (ss.take n)) (hn : n ≤ ss.length) (hK : 1 ≤ K ∧ K ≤ 3) (hs : s.size ≤ maxLen) :
    Calls Tryd.prog 27 #[.slice A n c, .int .i64 K, .string s] w (Same (.int .i64 (textErr ss n K s)) w) := by
  have hbig := h.big
  unfold maxLen at hs
  have HT : Hid (textErr ss n K s = if printsB K s = false then 3 else if K ≠ 3 ∧ hasText ss n s = true then 13 else 0) := Lib.hid rfl
  by_cases hin : printLo K ≤ (s.size : Int) ∧ (s.size : Int) ≤ printHi K
  · have HP : Hid (printsB K s = printable s) := Lib.hid (by unfold printsB; simp [hin])
    have hk3 : K = 1 ∨ K = 2 ∨ K = 3 := by omega
    rcases hk3 with rfl | rfl | rfl
    · replace hin : (1 : Int) ≤ (s.size : Int) ∧ (s.size : Int) ≤ 1 := hin
      go_enter Tryd.func27, Tryd.ntmps27
      go_wp2_with (first | (go_at_call 25; refine Calls.mono (bWithin_yes _ _ _ _ ?_) ?_; (omega); rintro e w1 ⟨rfl, rfl⟩) | (go_at_call 25; refine Calls.mono (bWithin_no _ _ _ _ ?_) ?_; (omega); rintro e w1 ⟨rfl, rfl⟩))
      go_loop [9] (fun i => ∃ k : Nat, k ≤ s.size ∧ i = .int .i64 k ∧ printTo s k) (fun i => s.size - (intOf i).toNat)
      case atStart => exact ⟨0, Nat.zero_le _, rfl, fun j h hj => absurd hj (by omega)⟩
      case round =>
        obtain ⟨k, hk, rfl, hpt⟩ := hrel
        have HPT := Lib.hid hpt; clear hpt
        by_cases hlt : k < s.size
        · have HB := Lib.hid (printable_bad s k hlt)
          have HN : Hid (okB (s[k].toNat : Int) = true → printTo s (k + 1)) := Lib.hid (fun hb j hj hjk => by
            by_cases hj' : j < k
            · exact HPT.out j hj hj'
            · obtain rfl : j = k := by omega
              exact hb)
          have b1 : (s[k].toNat : Int) < 256 := by have := s[k].toNat_lt; omega
          have b2 : (0 : Int) ≤ (s[k].toNat : Int) := by omega
          generalize hcc : (s[k].toNat : Int) = cc at *
          by_cases hc1 : cc < 33
          · go_wp2
            go_ret
            exact ⟨by rw [HT.out, if_pos (by rw [HP.out, HB.out (by unfold okB; rw [Bool.and_eq_false_iff, decide_eq_false_iff_not, decide_eq_false_iff_not]; omega)])]; rfl, rfl⟩
          · by_cases hc2 : 126 < cc
            · go_wp2
              go_ret
              exact ⟨by rw [HT.out, if_pos (by rw [HP.out, HB.out (by unfold okB; rw [Bool.and_eq_false_iff, decide_eq_false_iff_not, decide_eq_false_iff_not]; omega)])]; rfl, rfl⟩
            · go_wp2
              go_round
              case rel => exact ⟨k + 1, by omega, by go_num, HN.out (by unfold okB; rw [Bool.and_eq_true, decide_eq_true_eq, decide_eq_true_eq]; omega)⟩
              case measure => simp [intOf]; omega
        · obtain rfl : k = s.size := by omega
          have HG := Lib.hid (printable_of s HPT.out)
          go_wp2
          go_loop [10] (fun i => ∃ k : Nat, k ≤ n ∧ i = .int .i64 k ∧ ∀ j, j < k → ¬ ((ss.getD j TS.zero).kind ≠ 3 ∧ (ss.getD j TS.zero).text = s)) (fun i => n - (intOf i).toNat)
          case atStart => exact ⟨0, Nat.zero_le _, rfl, fun j hj => absurd hj (by omega)⟩
          case round =>
            obtain ⟨k, hk, rfl, hno⟩ := hrel
            have HNO := Lib.hid hno; clear hno
            by_cases hlt : k < n
            · obtain ⟨b, off, rfl, hbw, hcell⟩ := h.2.2 (by omega)
              obtain ⟨_, c2, c3, _⟩ := hcell k hlt
              have hkn : (k : Int) < (n : Int) := by omega
              rw [take_at ss n k hlt] at c2 c3
              have HK : Hid (¬ ((ss.getD k TS.zero).kind ≠ 3 ∧ (ss.getD k TS.zero).text = s) → ∀ j, j < k + 1 → ¬ ((ss.getD j TS.zero).kind ≠ 3 ∧ (ss.getD j TS.zero).text = s)) := Lib.hid (fun he j hj => by
                by_cases hj' : j < k
                · exact HNO.out j hj'
                · obtain rfl : j = k := by omega
                  exact he)
              have HY := Lib.hid (fun h1 h2 => hasText_some (ss := ss) (s := s) hlt hn h1 h2)
              generalize (ss.getD k TS.zero).kind = kk at *
              generalize (ss.getD k TS.zero).text = tt at *
              clear hcell h
              by_cases h3 : kk = 3
              · subst h3
                go_wp2
                go_round
                case rel => exact ⟨k + 1, by omega, by go_num, HK.out (by simp)⟩
                case measure => simp [intOf]; omega
              · have e3 : (kk != 3) = true := by simpa using h3
                by_cases he : tt = s
                · subst he
                  go_wp2
                  go_ret
                  exact ⟨by rw [HT.out, if_neg (by rw [HP.out, HG.out]; simp), if_pos ⟨by decide, HY.out h3 (by first | exact rfl | trivial)⟩]; rfl, rfl⟩
                · have e := str_eq_false he
                  have HE := Lib.hid he; clear he
                  go_wp2
                  go_round
                  case rel => exact ⟨k + 1, by omega, by go_num, HK.out (fun hh => HE.out hh.2)⟩
                  case measure => simp [intOf]; omega
            · obtain rfl : k = n := by omega
              have HV := Lib.hid (hasText_none hn HNO.out)
              clear h
              go_wp2
              go_ret
              exact ⟨by rw [HT.out, if_neg (by rw [HP.out, HG.out]; simp), if_neg (by rw [HV.out]; simp)]; rfl, rfl⟩
    · replace hin : (2 : Int) ≤ (s.size : Int) ∧ (s.size : Int) ≤ 4 := hin
      go_enter Tryd.func27, Tryd.ntmps27
      go_wp2_with (first | (go_at_call 25; refine Calls.mono (bWithin_yes _ _ _ _ ?_) ?_; (omega); rintro e w1 ⟨rfl, rfl⟩) | (go_at_call 25; refine Calls.mono (bWithin_no _ _ _ _ ?_) ?_; (omega); rintro e w1 ⟨rfl, rfl⟩))
      go_loop [9] (fun i => ∃ k : Nat, k ≤ s.size ∧ i = .int .i64 k ∧ printTo s k) (fun i => s.size - (intOf i).toNat)
      case atStart => exact ⟨0, Nat.zero_le _, rfl, fun j h hj => absurd hj (by omega)⟩
      case round =>
        obtain ⟨k, hk, rfl, hpt⟩ := hrel
        have HPT := Lib.hid hpt; clear hpt
        by_cases hlt : k < s.size
        · have HB := Lib.hid (printable_bad s k hlt)
          have HN : Hid (okB (s[k].toNat : Int) = true → printTo s (k + 1)) := Lib.hid (fun hb j hj hjk => by
            by_cases hj' : j < k
            · exact HPT.out j hj hj'
            · obtain rfl : j = k := by omega
              exact hb)
          have b1 : (s[k].toNat : Int) < 256 := by have := s[k].toNat_lt; omega
          have b2 : (0 : Int) ≤ (s[k].toNat : Int) := by omega
          generalize hcc : (s[k].toNat : Int) = cc at *
          by_cases hc1 : cc < 33
          · go_wp2
            go_ret
            exact ⟨by rw [HT.out, if_pos (by rw [HP.out, HB.out (by unfold okB; rw [Bool.and_eq_false_iff, decide_eq_false_iff_not, decide_eq_false_iff_not]; omega)])]; rfl, rfl⟩
          · by_cases hc2 : 126 < cc
            · go_wp2
              go_ret
              exact ⟨by rw [HT.out, if_pos (by rw [HP.out, HB.out (by unfold okB; rw [Bool.and_eq_false_iff, decide_eq_false_iff_not, decide_eq_false_iff_not]; omega)])]; rfl, rfl⟩
            · go_wp2
              go_round
              case rel => exact ⟨k + 1, by omega, by go_num, HN.out (by unfold okB; rw [Bool.and_eq_true, decide_eq_true_eq, decide_eq_true_eq]; omega)⟩
              case measure => simp [intOf]; omega
        · obtain rfl : k = s.size := by omega
          have HG := Lib.hid (printable_of s HPT.out)
          go_wp2
          go_loop [10] (fun i => ∃ k : Nat, k ≤ n ∧ i = .int .i64 k ∧ ∀ j, j < k → ¬ ((ss.getD j TS.zero).kind ≠ 3 ∧ (ss.getD j TS.zero).text = s)) (fun i => n - (intOf i).toNat)
          case atStart => exact ⟨0, Nat.zero_le _, rfl, fun j hj => absurd hj (by omega)⟩
          case round =>
            obtain ⟨k, hk, rfl, hno⟩ := hrel
            have HNO := Lib.hid hno; clear hno
            by_cases hlt : k < n
            · obtain ⟨b, off, rfl, hbw, hcell⟩ := h.2.2 (by omega)
              obtain ⟨_, c2, c3, _⟩ := hcell k hlt
              have hkn : (k : Int) < (n : Int) := by omega
              rw [take_at ss n k hlt] at c2 c3
              have HK : Hid (¬ ((ss.getD k TS.zero).kind ≠ 3 ∧ (ss.getD k TS.zero).text = s) → ∀ j, j < k + 1 → ¬ ((ss.getD j TS.zero).kind ≠ 3 ∧ (ss.getD j TS.zero).text = s)) := Lib.hid (fun he j hj => by
                by_cases hj' : j < k
                · exact HNO.out j hj'
                · obtain rfl : j = k := by omega
                  exact he)
              have HY := Lib.hid (fun h1 h2 => hasText_some (ss := ss) (s := s) hlt hn h1 h2)
              generalize (ss.getD k TS.zero).kind = kk at *
              generalize (ss.getD k TS.zero).text = tt at *
              clear hcell h
              by_cases h3 : kk = 3
              · subst h3
                go_wp2
                go_round
                case rel => exact ⟨k + 1, by omega, by go_num, HK.out (by simp)⟩
                case measure => simp [intOf]; omega
              · have e3 : (kk != 3) = true := by simpa using h3
                by_cases he : tt = s
                · subst he
                  go_wp2
                  go_ret
                  exact ⟨by rw [HT.out, if_neg (by rw [HP.out, HG.out]; simp), if_pos ⟨by decide, HY.out h3 (by first | exact rfl | trivial)⟩]; rfl, rfl⟩
                · have e := str_eq_false he
                  have HE := Lib.hid he; clear he
                  go_wp2
                  go_round
                  case rel => exact ⟨k + 1, by omega, by go_num, HK.out (fun hh => HE.out hh.2)⟩
                  case measure => simp [intOf]; omega
            · obtain rfl : k = n := by omega
              have HV := Lib.hid (hasText_none hn HNO.out)
              clear h
              go_wp2
              go_ret
              exact ⟨by rw [HT.out, if_neg (by rw [HP.out, HG.out]; simp), if_neg (by rw [HV.out]; simp)]; rfl, rfl⟩
    · replace hin : (0 : Int) ≤ (s.size : Int) ∧ (s.size : Int) ≤ 0 := hin
      go_enter Tryd.func27, Tryd.ntmps27
      go_wp2_with (first | (go_at_call 25; refine Calls.mono (bWithin_yes _ _ _ _ ?_) ?_; (omega); rintro e w1 ⟨rfl, rfl⟩) | (go_at_call 25; refine Calls.mono (bWithin_no _ _ _ _ ?_) ?_; (omega); rintro e w1 ⟨rfl, rfl⟩))
      go_loop [9] (fun i => ∃ k : Nat, k ≤ s.size ∧ i = .int .i64 k ∧ printTo s k) (fun i => s.size - (intOf i).toNat)
      case atStart => exact ⟨0, Nat.zero_le _, rfl, fun j h hj => absurd hj (by omega)⟩
      case round =>
        obtain ⟨k, hk, rfl, hpt⟩ := hrel
        have HPT := Lib.hid hpt; clear hpt
        by_cases hlt : k < s.size
        · have HB := Lib.hid (printable_bad s k hlt)
          have HN : Hid (okB (s[k].toNat : Int) = true → printTo s (k + 1)) := Lib.hid (fun hb j hj hjk => by
            by_cases hj' : j < k
            · exact HPT.out j hj hj'
            · obtain rfl : j = k := by omega
              exact hb)
          have b1 : (s[k].toNat : Int) < 256 := by have := s[k].toNat_lt; omega
          have b2 : (0 : Int) ≤ (s[k].toNat : Int) := by omega
          generalize hcc : (s[k].toNat : Int) = cc at *
          by_cases hc1 : cc < 33
          · go_wp2
            go_ret
            exact ⟨by rw [HT.out, if_pos (by rw [HP.out, HB.out (by unfold okB; rw [Bool.and_eq_false_iff, decide_eq_false_iff_not, decide_eq_false_iff_not]; omega)])]; rfl, rfl⟩
          · by_cases hc2 : 126 < cc
            · go_wp2
              go_ret
              exact ⟨by rw [HT.out, if_pos (by rw [HP.out, HB.out (by unfold okB; rw [Bool.and_eq_false_iff, decide_eq_false_iff_not, decide_eq_false_iff_not]; omega)])]; rfl, rfl⟩
            · go_wp2
              go_round
              case rel => exact ⟨k + 1, by omega, by go_num, HN.out (by unfold okB; rw [Bool.and_eq_true, decide_eq_true_eq, decide_eq_true_eq]; omega)⟩
              case measure => simp [intOf]; omega
        · obtain rfl : k = s.size := by omega
          have HG := Lib.hid (printable_of s HPT.out)
          go_wp2
          refine wp_loop_rounds 1 ?_
          rw [rounds_succ]
          go_wp2
          all_goals go_ret
          all_goals exact ⟨by rw [HT.out, if_neg (by rw [HP.out, HG.out]; simp), if_neg (by simp)]; rfl, rfl⟩
  · have HP : Hid (printsB K s = false) := Lib.hid (by unfold printsB; rw [Bool.and_eq_false_iff, Bool.and_eq_false_iff, decide_eq_false_iff_not, decide_eq_false_iff_not]; omega)
    have hk3 : K = 1 ∨ K = 2 ∨ K = 3 := by omega
    rcases hk3 with rfl | rfl | rfl
    · replace hin : ¬ ((1 : Int) ≤ (s.size : Int) ∧ (s.size : Int) ≤ 1) := hin
      go_enter Tryd.func27, Tryd.ntmps27
      go_wp2_with (first | (go_at_call 25; refine Calls.mono (bWithin_yes _ _ _ _ ?_) ?_; (omega); rintro e w1 ⟨rfl, rfl⟩) | (go_at_call 25; refine Calls.mono (bWithin_no _ _ _ _ ?_) ?_; (omega); rintro e w1 ⟨rfl, rfl⟩))
      go_ret
      exact ⟨by rw [HT.out, if_pos HP.out]; rfl, rfl⟩
    · replace hin : ¬ ((2 : Int) ≤ (s.size : Int) ∧ (s.size : Int) ≤ 4) := hin
      go_enter Tryd.func27, Tryd.ntmps27
      go_wp2_with (first | (go_at_call 25; refine Calls.mono (bWithin_yes _ _ _ _ ?_) ?_; (omega); rintro e w1 ⟨rfl, rfl⟩) | (go_at_call 25; refine Calls.mono (bWithin_no _ _ _ _ ?_) ?_; (omega); rintro e w1 ⟨rfl, rfl⟩))
      go_ret
      exact ⟨by rw [HT.out, if_pos HP.out]; rfl, rfl⟩
    · replace hin : ¬ ((0 : Int) ≤ (s.size : Int) ∧ (s.size : Int) ≤ 0) := hin
      go_enter Tryd.func27, Tryd.ntmps27
      go_wp2_with (first | (go_at_call 25; refine Calls.mono (bWithin_yes _ _ _ _ ?_) ?_; (omega); rintro e w1 ⟨rfl, rfl⟩) | (go_at_call 25; refine Calls.mono (bWithin_no _ _ _ _ ?_) ?_; (omega); rintro e w1 ⟨rfl, rfl⟩))
      go_ret
      exact ⟨by rw [HT.out, if_pos HP.out]; rfl, rfl⟩
end Go.Proofs.YtaopcpfgmjpliaaDoor
