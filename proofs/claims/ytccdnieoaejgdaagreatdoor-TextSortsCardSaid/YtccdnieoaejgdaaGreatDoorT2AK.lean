/-
  Walks: words and small letters (the program's and the reference's).
-/
import Derived.Test.YtccdnieoaejgdaaGreatDoorT2AJ
import Derived.Test.YtccdnieoaejgdaaGreatDoorT2AA
set_option linter.unusedVariables false
set_option linter.unusedSimpArgs false
set_option linter.unusedSectionVars false
namespace Go.Proofs.YtccdnieoaejgdaaGreatDoor
open Go.RowKit Go.Lib

theorem tWithin_any (n lo hi : Int) (w : World) :
    Calls Tryz.prog 80 #[.int .i64 n, .int .i64 lo, .int .i64 hi] w (Same (.bool (decide (lo ≤ n) && decide (n ≤ hi))) w) := by
  go_enter Tryz.func80, Tryz.ntmps80
  go_wp2 <;> go_ret <;> refine ⟨?_, rfl⟩ <;> simp_all
  omega
theorem tWithin_yes (n lo hi : Int) (w : World) (h : lo ≤ n ∧ n ≤ hi) : Calls Tryz.prog 80 #[.int .i64 n, .int .i64 lo, .int .i64 hi] w (Same (.bool true) w) :=
  (tWithin_any n lo hi w).mono fun _ _ ⟨he, hw⟩ => ⟨by rw [he]; simp [h], hw⟩
theorem tWithin_no (n lo hi : Int) (w : World) (h : ¬ (lo ≤ n ∧ n ≤ hi)) : Calls Tryz.prog 80 #[.int .i64 n, .int .i64 lo, .int .i64 hi] w (Same (.bool false) w) :=
  (tWithin_any n lo hi w).mono fun _ _ ⟨he, hw⟩ => ⟨by rw [he]; congr 2; rw [Bool.and_eq_false_iff, decide_eq_false_iff_not, decide_eq_false_iff_not]; omega, hw⟩
theorem isWord1_any (r : Nat) (hr : r ≤ 1114111) (w : World) :
    Calls Tryz.prog 111 #[.int .i32 r] w fun e w' => e = .returned (.bool (noPrint r)) ∧ w = w' := by
  by_cases h : (r : Int) < 33
  · go_enter Tryz.func111, Tryz.ntmps111
    go_wp2
    go_ret
    exact ⟨by simp [noPrint, h], rfl⟩
  · go_enter Tryz.func111, Tryz.ntmps111
    go_wp2
    go_ret
    have h' : decide ((r : Int) < 33) = false := decide_eq_false (by omega)
    exact ⟨by unfold noPrint; rw [h']; rfl, rfl⟩
theorem isWord1_grows (w : World) : PredGrows Tryz.prog 111 #[] noPrint w :=
  fun W x hx _ => (isWord1_any x hx W).mono fun _ _ ⟨he, hw⟩ => ⟨he, hw ▸ Below.refl _ _⟩
set_option maxRecDepth 100000 in
theorem isWord_any (s : ByteArray) (w : World) (hs : s.size ≤ 9223372036854775807) : Calls Tryz.prog 69 #[.string s] w (Ret (.bool (wordB s)) w) := by
  have CI := Lib.hid fun W => Tryz.strings_IndexFunc_grows 111 #[] (fun _ _ => by kernel_rfl) noPrint s W (isWord1_grows W)
  by_cases hz : 1 ≤ s.size ∧ s.size ≤ 30
  · have hi : 1 ≤ (s.size : Int) ∧ (s.size : Int) ≤ 30 := by omega
    have HW : Hid (decide (Lib.idxFunc noPrint true s < 0) = wordB s) := Lib.hid (by
      have h := contains_print s
      unfold wordB
      rw [decide_eq_true hz.1, decide_eq_true hz.2, Bool.true_and, Bool.true_and]
      by_cases hj : 0 ≤ Lib.idxFunc noPrint true s
      · rw [decide_eq_true hj] at h
        rw [decide_eq_false (by omega)]
        cases hp : printable s
        · rfl
        · rw [hp] at h; cases h
      · rw [decide_eq_false hj] at h
        rw [decide_eq_true (by omega)]
        cases hp : printable s
        · rw [hp] at h; cases h
        · rfl)
    generalize Lib.idxFunc noPrint true s = j at *
    go_enter Tryz.func69, Tryz.ntmps69
    go_wp2_with (first | (go_at_call 80; refine Calls.mono (tWithin_yes _ _ _ _ ?_) ?_; (omega); rintro e w1 ⟨rfl, rfl⟩) | (go_at_call 80; refine Calls.mono (tWithin_no _ _ _ _ ?_) ?_; (omega); rintro e w1 ⟨rfl, rfl⟩) | (go_at_call 110; refine Calls.mono (CI.out _) ?_; rintro e w1 ⟨rfl, hb⟩))
    go_ret
    exact Ret.mk' (by rw [← HW.out]; rfl) hb
  · have hi : ¬ (1 ≤ (s.size : Int) ∧ (s.size : Int) ≤ 30) := by omega
    have HW : Hid (wordB s = false) := Lib.hid (by
      unfold wordB
      rw [Bool.and_eq_false_iff, Bool.and_eq_false_iff, decide_eq_false_iff_not, decide_eq_false_iff_not]; left; omega)
    go_enter Tryz.func69, Tryz.ntmps69
    go_wp2_with (first | (go_at_call 80; refine Calls.mono (tWithin_yes _ _ _ _ ?_) ?_; (omega); rintro e w1 ⟨rfl, rfl⟩) | (go_at_call 80; refine Calls.mono (tWithin_no _ _ _ _ ?_) ?_; (omega); rintro e w1 ⟨rfl, rfl⟩))
    go_ret
    exact Ret.mk' (by rw [HW.out]; rfl) (Ext.refl _)
theorem isSmall_any (c : Int) (w : World) : Calls Tryz.prog 141 #[.int .u8 c] w (Same (.bool (smC c)) w) := by
  by_cases h1 : 97 ≤ c
  · have HS : Hid (smC c = decide (c ≤ 122)) := Lib.hid (by unfold smC; rw [decide_eq_true h1]; rfl)
    go_enter Tryz.func141, Tryz.ntmps141
    go_wp2
    go_ret
    exact ⟨by rw [HS.out]; rfl, rfl⟩
  · have HS : Hid (smC c = false) := Lib.hid (by unfold smC; rw [decide_eq_false h1]; rfl)
    go_enter Tryz.func141, Tryz.ntmps141
    go_wp2
    go_ret
    exact ⟨by rw [HS.out]; rfl, rfl⟩
/-- The first n bytes are small letters. -/
def smTo (l : List UInt8) (n : Nat) : Bool := (List.range n).all fun k => smC (bya l k)
theorem smTo_succ (l : List UInt8) (n : Nat) : smTo l (n + 1) = (smTo l n && smC (bya l n)) := by unfold smTo; rw [List.range_succ, List.all_append]; simp
theorem smTo_all : ∀ (l : List UInt8), smTo l l.length = smallL l := by
  intro l
  unfold smTo smallL
  rw [Bool.eq_iff_iff, List.all_eq_true, List.all_eq_true]
  constructor
  · intro h b hb
    obtain ⟨k, hk, rfl⟩ := List.getElem_of_mem hb
    have := h k (List.mem_range.2 hk)
    unfold bya at this
    rwa [List.getD_eq_getElem?_getD, List.getElem?_eq_getElem hk] at this
  · intro h k hk
    have hk := List.mem_range.1 hk
    unfold bya
    rw [List.getD_eq_getElem?_getD, List.getElem?_eq_getElem hk]
    exact h _ (List.getElem_mem _)
theorem smTo_bad {l : List UInt8} {k : Nat} (hk : k < l.length) (h : smC (bya l k) = false) : smallL l = false := by
  rw [← smTo_all]
  unfold smTo
  rw [List.all_eq_false]
  exact ⟨k, List.mem_range.2 hk, by rw [h]; simp⟩
/-- A word of small letters, not too long. -/
def smWord (s : ByteArray) : Bool := smallL s.data.toList && (decide (1 ≤ s.size) && decide (s.size ≤ 30))
set_option maxRecDepth 100000 in
theorem isSmallWord_any (s : ByteArray) (w : World) (hs : s.size ≤ 1000000) : Calls Tryz.prog 107 #[.string s] w (Same (.bool (smWord s)) w) := by
  have hs' : s.size ≤ 9223372036854775807 := by omega
  have CS := Lib.hid fun c W => isSmall_any c W
  go_enter Tryz.func107, Tryz.ntmps107
  go_wp2
  go_loopw [6] (fun v6 wr => ∃ k : Nat, k ≤ s.size ∧ v6 = .int .i64 (k : Int) ∧ Hid (smTo s.data.toList k = true) ∧ w = wr) (fun v6 _ => s.size - (intOf v6).toNat)
  case atStart => exact ⟨0, Nat.zero_le _, rfl, Lib.hid rfl, rfl⟩
  case round =>
    obtain ⟨k, hk, rfl, HT, rfl⟩ := hrel
    by_cases hlt : k < s.size
    case pos =>
      have ik : (k : Int) < (s.size : Int) := by omega
      have HB := Lib.hid (bya_byte s k hlt)
      generalize hx : (s[k].toNat : Int) = c at *
      cases hc : smC c
      case true =>
        have HC := Lib.hid hc
        have CS' := Lib.hid (CS.out c w)
        rw [hc] at CS'
        clear CS
        go_wp2_with (first | (go_at_call 141; refine Calls.mono CS'.out ?_; rintro e w1 ⟨rfl, rfl⟩))
        go_roundw
        case rel => exact ⟨k + 1, by omega, by go_num, Lib.hid (by rw [smTo_succ, HT.out, ← HB.out, HC.out]; rfl), by trivial⟩
        case measure => simp [intOf]; omega
      case false =>
        have HC : Hid (smWord s = false) := Lib.hid (by unfold smWord; rw [smTo_bad (k := k) (by simpa using hlt) (by rw [← HB.out]; exact hc)]; rfl)
        have CS' := Lib.hid (CS.out c w)
        rw [hc] at CS'
        clear CS
        go_wp2_with (first | (go_at_call 141; refine Calls.mono CS'.out ?_; rintro e w1 ⟨rfl, rfl⟩))
        go_ret
        exact ⟨by rw [HC.out]; rfl, rfl⟩
    case neg =>
      obtain rfl : k = s.size := by omega
      have ik : ¬ (s.size : Int) < (s.size : Int) := by omega
      have HW : Hid (smWord s = (decide (1 ≤ s.size) && decide (s.size ≤ 30))) := Lib.hid (by
        unfold smWord; rw [← smTo_all, show s.data.toList.length = s.size by simp, HT.out]; rfl)
      by_cases hz : 1 ≤ (s.size : Int) ∧ (s.size : Int) ≤ 30
      · have HX : Hid (smWord s = true) := Lib.hid (by rw [HW.out, decide_eq_true (by omega), decide_eq_true (by omega)]; rfl)
        clear HW
        go_wp2_with (first | (go_at_call 80; refine Calls.mono (tWithin_yes _ _ _ _ ?_) ?_; (omega); rintro e w1 ⟨rfl, rfl⟩) | (go_at_call 80; refine Calls.mono (tWithin_no _ _ _ _ ?_) ?_; (omega); rintro e w1 ⟨rfl, rfl⟩))
        go_ret
        exact ⟨by rw [HX.out]; rfl, rfl⟩
      · have HX : Hid (smWord s = false) := Lib.hid (by rw [HW.out, Bool.and_eq_false_iff, decide_eq_false_iff_not, decide_eq_false_iff_not]; omega)
        clear HW
        go_wp2_with (first | (go_at_call 80; refine Calls.mono (tWithin_yes _ _ _ _ ?_) ?_; (omega); rintro e w1 ⟨rfl, rfl⟩) | (go_at_call 80; refine Calls.mono (tWithin_no _ _ _ _ ?_) ?_; (omega); rintro e w1 ⟨rfl, rfl⟩))
        go_ret
        exact ⟨by rw [HX.out]; rfl, rfl⟩
theorem rIsByte_any (c : Int) (w : World) : Calls Tryz.prog 75 #[.int .u8 c] w (Same (.bool (decide (33 ≤ c) && decide (c ≤ 126))) w) := by
  by_cases h1 : 33 ≤ c
  · have HS : Hid ((decide (33 ≤ c) && decide (c ≤ 126)) = decide (c ≤ 126)) := Lib.hid (by rw [decide_eq_true h1]; rfl)
    go_enter Tryz.func75, Tryz.ntmps75
    go_wp2
    go_ret
    exact ⟨by rw [HS.out]; rfl, rfl⟩
  · have HS : Hid ((decide (33 ≤ c) && decide (c ≤ 126)) = false) := Lib.hid (by rw [decide_eq_false h1]; rfl)
    go_enter Tryz.func75, Tryz.ntmps75
    go_wp2
    go_ret
    exact ⟨by rw [HS.out]; rfl, rfl⟩
theorem rIsSmall_any (c : Int) (w : World) : Calls Tryz.prog 109 #[.int .u8 c] w (Same (.bool (smC c)) w) := by
  by_cases h1 : 97 ≤ c
  · have HS : Hid (smC c = decide (c ≤ 122)) := Lib.hid (by unfold smC; rw [decide_eq_true h1]; rfl)
    go_enter Tryz.func109, Tryz.ntmps109
    go_wp2
    go_ret
    exact ⟨by rw [HS.out]; rfl, rfl⟩
  · have HS : Hid (smC c = false) := Lib.hid (by unfold smC; rw [decide_eq_false h1]; rfl)
    go_enter Tryz.func109, Tryz.ntmps109
    go_wp2
    go_ret
    exact ⟨by rw [HS.out]; rfl, rfl⟩
theorem rIsLetter_any (c : Int) (w : World) : Calls Tryz.prog 67 #[.int .u8 c] w (Same (.bool (letC c)) w) := by
  have CS := Lib.hid fun W => rIsSmall_any c W
  cases h1 : smC c
  · rw [h1] at CS
    by_cases h2 : 65 ≤ c
    · have HS : Hid (letC c = decide (c ≤ 90)) := Lib.hid (by unfold smC at h1; unfold letC; rw [h1, decide_eq_true h2]; rfl)
      go_enter Tryz.func67, Tryz.ntmps67
      go_wp2_with (first | (go_at_call 109; refine Calls.mono (CS.out _) ?_; rintro e w1 ⟨rfl, rfl⟩))
      go_ret
      exact ⟨by rw [HS.out]; rfl, rfl⟩
    · have HS : Hid (letC c = false) := Lib.hid (by unfold smC at h1; unfold letC; rw [h1, decide_eq_false h2]; rfl)
      go_enter Tryz.func67, Tryz.ntmps67
      go_wp2_with (first | (go_at_call 109; refine Calls.mono (CS.out _) ?_; rintro e w1 ⟨rfl, rfl⟩))
      go_ret
      exact ⟨by rw [HS.out]; rfl, rfl⟩
  · rw [h1] at CS
    have HS : Hid (letC c = true) := Lib.hid (by unfold smC at h1; unfold letC; rw [h1]; rfl)
    go_enter Tryz.func67, Tryz.ntmps67
    go_wp2_with (first | (go_at_call 109; refine Calls.mono (CS.out _) ?_; rintro e w1 ⟨rfl, rfl⟩))
    go_ret
    exact ⟨by rw [HS.out]; rfl, rfl⟩
/-- The first n bytes may stand in a word. -/
def prTo (l : List UInt8) (n : Nat) : Bool := (List.range n).all fun k => decide (33 ≤ bya l k) && decide (bya l k ≤ 126)
theorem prTo_succ (l : List UInt8) (n : Nat) : prTo l (n + 1) = (prTo l n && (decide (33 ≤ bya l n) && decide (bya l n ≤ 126))) := by unfold prTo; rw [List.range_succ, List.all_append]; simp
theorem prTo_all (l : List UInt8) : prTo l l.length = printL l := by
  unfold prTo printL
  rw [Bool.eq_iff_iff, List.all_eq_true, List.all_eq_true]
  constructor
  · intro h b hb
    obtain ⟨k, hk, rfl⟩ := List.getElem_of_mem hb
    have := h k (List.mem_range.2 hk)
    unfold bya at this
    rwa [List.getD_eq_getElem?_getD, List.getElem?_eq_getElem hk] at this
  · intro h k hk
    have hk := List.mem_range.1 hk
    unfold bya
    rw [List.getD_eq_getElem?_getD, List.getElem?_eq_getElem hk]
    exact h _ (List.getElem_mem _)
theorem prTo_bad {l : List UInt8} {k : Nat} (hk : k < l.length) (h : (decide (33 ≤ bya l k) && decide (bya l k ≤ 126)) = false) : printL l = false := by
  rw [← prTo_all]
  unfold prTo
  rw [List.all_eq_false]
  exact ⟨k, List.mem_range.2 hk, by rw [h]; simp⟩
theorem wordB_eq (s : ByteArray) : wordB s = (printL s.data.toList && (decide (1 ≤ s.size) && decide (s.size ≤ 30))) := by
  rw [Bool.and_comm]; rfl
set_option maxRecDepth 100000 in
theorem rIsWord_any (s : ByteArray) (w : World) (hs : s.size ≤ 1000000) : Calls Tryz.prog 28 #[.string s] w (Same (.bool (wordB s)) w) := by
  have hs' : s.size ≤ 9223372036854775807 := by omega
  have CS := Lib.hid fun c W => rIsByte_any c W
  have HE := Lib.hid (wordB_eq s)
  go_enter Tryz.func28, Tryz.ntmps28
  go_wp2
  go_loopw [3] (fun v3 wr => ∃ k : Nat, k ≤ s.size ∧ v3 = .int .i64 (k : Int) ∧ Hid (prTo s.data.toList k = true) ∧ w = wr) (fun v3 _ => s.size - (intOf v3).toNat)
  case atStart => exact ⟨0, Nat.zero_le _, rfl, Lib.hid rfl, rfl⟩
  case round =>
    obtain ⟨k, hk, rfl, HT, rfl⟩ := hrel
    by_cases hlt : k < s.size
    case pos =>
      have ik : (k : Int) < (s.size : Int) := by omega
      have HB := Lib.hid (bya_byte s k hlt)
      generalize hx : (s[k].toNat : Int) = c at *
      have CS' := Lib.hid (CS.out c w)
      have HC : Hid ((decide (33 ≤ bya s.data.toList k) && decide (bya s.data.toList k ≤ 126)) = (decide (33 ≤ c) && decide (c ≤ 126))) := Lib.hid (by rw [HB.out])
      cases hc : (decide (33 ≤ c) && decide (c ≤ 126))
      case true =>
        rw [hc] at CS' HC
        clear CS hc
        go_wp2_with (first | (go_at_call 75; refine Calls.mono CS'.out ?_; rintro e w1 ⟨rfl, rfl⟩))
        go_roundw
        case rel => exact ⟨k + 1, by omega, by go_num, Lib.hid (by rw [prTo_succ, HT.out, HC.out]; rfl), by trivial⟩
        case measure => simp [intOf]; omega
      case false =>
        rw [hc] at CS' HC
        have HW : Hid (wordB s = false) := Lib.hid (by rw [HE.out, prTo_bad (k := k) (by simpa using hlt) HC.out]; rfl)
        clear CS hc
        go_wp2_with (first | (go_at_call 75; refine Calls.mono CS'.out ?_; rintro e w1 ⟨rfl, rfl⟩))
        go_ret
        exact ⟨by rw [HW.out]; rfl, rfl⟩
    case neg =>
      obtain rfl : k = s.size := by omega
      have ik : ¬ (s.size : Int) < (s.size : Int) := by omega
      have HW : Hid (wordB s = (decide (1 ≤ s.size) && decide (s.size ≤ 30))) := Lib.hid (by
        rw [HE.out, ← prTo_all, show s.data.toList.length = s.size by simp, HT.out]; rfl)
      by_cases hz : 1 ≤ (s.size : Int) ∧ (s.size : Int) ≤ 30
      · have HX : Hid (wordB s = true) := Lib.hid (by rw [HW.out, decide_eq_true (by omega), decide_eq_true (by omega)]; rfl)
        clear HW
        go_wp2_with (first | (go_at_call 57; refine Calls.mono (bWithin_yes _ _ _ _ ?_) ?_; (omega); rintro e w1 ⟨rfl, rfl⟩) | (go_at_call 57; refine Calls.mono (bWithin_no _ _ _ _ ?_) ?_; (omega); rintro e w1 ⟨rfl, rfl⟩))
        go_ret
        exact ⟨by rw [HX.out]; rfl, rfl⟩
      · have HX : Hid (wordB s = false) := Lib.hid (by rw [HW.out, Bool.and_eq_false_iff, decide_eq_false_iff_not, decide_eq_false_iff_not]; omega)
        clear HW
        go_wp2_with (first | (go_at_call 57; refine Calls.mono (bWithin_yes _ _ _ _ ?_) ?_; (omega); rintro e w1 ⟨rfl, rfl⟩) | (go_at_call 57; refine Calls.mono (bWithin_no _ _ _ _ ?_) ?_; (omega); rintro e w1 ⟨rfl, rfl⟩))
        go_ret
        exact ⟨by rw [HX.out]; rfl, rfl⟩
/-- Bytes in a block of their own, that may be written. -/
structure OB (W : World) (g : Nat) (l : List UInt8) : Prop where
  at_ : ∀ (j : Nat) (h : j < l.length), W.cell? ⟨g, j, none⟩ = some (.int .u8 (l[j].toNat : Int))
  free : ∀ j, j < l.length → W.frozen? ⟨g, j, none⟩ = false
  lt : g < W.heap.size
theorem OB.set_ {W : World} {g : Nat} {l : List UInt8} (h : OB W g l) (k : Nat) (hk : k < l.length) (b : UInt8) : OB (W.setCell ⟨g, k, none⟩ (.int .u8 (b.toNat : Int))) g (l.set k b) := by
  refine ⟨fun j hj => ?_, fun j hj => ?_, by simpa [World.setCell] using h.lt⟩
  · have hj' : j < l.length := by rwa [List.length_set] at hj
    by_cases hjk : j = k
    · subst hjk
      rw [World.cell?_setCell_same W _ _ (h.at_ j hj'), List.getElem_set_self]
    · rw [World.cell?_setCell_other W ⟨g, k, none⟩ ⟨g, j, none⟩ _ (fun e => hjk (by injection e with _ e; exact e.symm)), h.at_ j hj', List.getElem_set_ne (fun e => hjk e.symm)]
  · rw [List.length_set] at hj
    rw [World.frozen?_setCell]; exact h.free j hj
theorem OB.made (w : World) (s : ByteArray) (cap : Nat) (T : TypeId) : OB (w.alloc (.cells (bytesRow s cap) T ((bytesRow s cap).size, (bytesRow s cap).size + 1))) w.heap.size s.data.toList := by
  refine ⟨fun j hj => ?_, fun j hj => ?_, by simp⟩
  · rw [World.cell?_alloc_mark, bytesRow_at s cap j (by simpa using hj)]; rfl
  · rw [World.frozen?_alloc_mark]
    have : j < (bytesRow s cap).size := by
      have h1 : (bytesRow s cap)[j]? ≠ none := by rw [bytesRow_at s cap j (by simpa using hj)]; simp
      rcases Nat.lt_or_ge j (bytesRow s cap).size with h | h
      · exact h
      · exact absurd (Array.getElem?_eq_none h) h1
    rw [decide_eq_false (by omega)]; rfl
/-- The first n bytes are small, the others as they were. -/
def lowTo (l : List UInt8) : Nat → List UInt8
  | 0 => l
  | n + 1 => (lowTo l n).set n (lowB (l.getD n 0))
theorem lowTo_len (l : List UInt8) : ∀ n, (lowTo l n).length = l.length
  | 0 => rfl
  | n + 1 => by rw [lowTo, List.length_set, lowTo_len l n]
theorem lowTo_at (l : List UInt8) : ∀ (n k : Nat), k < l.length → (lowTo l n).getD k 0 = if k < n then lowB (l.getD k 0) else l.getD k 0
  | 0, k, hk => by simp [lowTo]
  | n + 1, k, hk => by
    have ih := lowTo_at l n k hk
    rw [lowTo, List.getD_eq_getElem?_getD, List.getElem?_set]
    by_cases h1 : n = k
    · subst h1
      rw [if_pos rfl, if_pos (c := n < _) (by rw [lowTo_len]; exact hk), if_pos (by omega)]; rfl
    · rw [if_neg h1, ← List.getD_eq_getElem?_getD, ih]
      by_cases h2 : k < n
      · rw [if_pos h2, if_pos (by omega)]
      · rw [if_neg h2, if_neg (by omega)]
theorem lowTo_all (l : List UInt8) : lowTo l l.length = low l := by
  apply List.ext_getElem?
  intro k
  by_cases hk : k < l.length
  · have h := lowTo_at l l.length k hk
    rw [if_pos hk, List.getD_eq_getElem?_getD, List.getElem?_eq_getElem (by rw [lowTo_len]; exact hk)] at h
    rw [List.getElem?_eq_getElem (by rw [lowTo_len]; exact hk), List.getElem?_eq_getElem (by rw [low_len]; exact hk)]
    simp only [Option.getD_some] at h
    rw [h, List.getD_eq_getElem?_getD, List.getElem?_eq_getElem hk]
    simp [low]
  · rw [List.getElem?_eq_none (by rw [lowTo_len]; omega), List.getElem?_eq_none (by rw [low_len]; omega)]
theorem lowTo_skip {l : List UInt8} {n : Nat} (hn : n < l.length) (h : ¬ (65 ≤ bya l n ∧ bya l n ≤ 90)) : lowTo l (n + 1) = lowTo l n := by
  have hl : lowB (l.getD n 0) = (lowTo l n).getD n 0 := by
    rw [lowTo_at l n n hn, if_neg (by omega)]
    unfold lowB
    unfold bya at h
    rw [if_neg (by omega)]
  have hk : n < (lowTo l n).length := by rw [lowTo_len]; exact hn
  rw [lowTo, hl, List.getD_eq_getElem?_getD, List.getElem?_eq_getElem hk]
  simp
theorem lowB_val {b : UInt8} (h : 65 ≤ (b.toNat : Int) ∧ (b.toNat : Int) ≤ 90) : ((lowB b).toNat : Int) = (b.toNat : Int) + 32 := by
  unfold lowB
  rw [if_pos (by omega), UInt8.toNat_add]
  have : (32 : UInt8).toNat = 32 := rfl
  omega
set_option maxRecDepth 100000 in
theorem small_any (s : ByteArray) (w : World) (hs : s.size ≤ 1000000) : Calls Tryz.prog 84 #[.string s] w (Ret (.string ⟨(low s.data.toList).toArray⟩) w) := by
  have hs' : s.size ≤ 9223372036854775807 := by omega
  have hcv := fun W => run_bytes_of_string (P := Tryz.prog) W 9 157 5 s Tryz.underlying9 Tryz.underlying157 Tryz.underlying5
  have CB := Lib.hid fun (W : World) g cap (l : List UInt8) (h : OB W g l) => run_convert_bytes_back (P := Tryz.prog) W 157 9 5 ⟨g, 0, none⟩ cap l Tryz.underlying157 Tryz.underlying5 Tryz.underlying9 (fun j hj => by
    have h1 := h.at_ j hj
    unfold Addr.add
    by_cases h0 : j = 0
    · subst h0; exact h1
    · rw [if_neg h0, Nat.zero_add]; exact h1)
  have HX := Lib.hid (Ext.refl w)
  go_enter Tryz.func84, Tryz.ntmps84
  go_upto_region 2 with fail
  clear hcv
  have HO : Hid (OB (w.alloc (.cells (bytesRow s (grownCap w s.size 0 5)) 5 ((bytesRow s (grownCap w s.size 0 5)).size, (bytesRow s (grownCap w s.size 0 5)).size + 1))).drew w.heap.size s.data.toList) := Lib.hid (OB.made w.drew s (grownCap w s.size 0 5) 5)
  have HX0 : Hid (Ext w (w.alloc (.cells (bytesRow s (grownCap w s.size 0 5)) 5 ((bytesRow s (grownCap w s.size 0 5)).size, (bytesRow s (grownCap w s.size 0 5)).size + 1))).drew) := Lib.hid (by repeat (first | exact Ext.refl _ | assumption | refine Ext.alloc ?_ _ | refine Ext.drew ?_ | refine Ext.drewN ?_ _ | (refine Ext.setCell ?_ (by simp <;> omega) _) | refine Ext.trans ?_ (by assumption)))
  generalize (w.alloc (.cells (bytesRow s (grownCap w s.size 0 5)) 5 ((bytesRow s (grownCap w s.size 0 5)).size, (bytesRow s (grownCap w s.size 0 5)).size + 1))).drew = w0 at *
  generalize grownCap w s.size 0 5 = cap at *
  have HG := Lib.hid (Nat.le_refl w.heap.size)
  have HGE : Hid (∃ g, g = w.heap.size) := Lib.hid ⟨_, rfl⟩
  obtain ⟨g, hg⟩ := HGE.out
  have HGL : Hid (w.heap.size ≤ g) := Lib.hid (by omega)
  rw [← hg] at HO ⊢
  clear hg HGE HG HX
  go_wp2
  go_loopw [10] (fun v10 wr => ∃ k : Nat, k ≤ s.size ∧ v10 = .int .i64 (k : Int) ∧ Hid (OB wr g (lowTo s.data.toList k)) ∧ Hid (Ext w wr)) (fun v10 _ => s.size - (intOf v10).toNat)
  case atStart => exact ⟨0, Nat.zero_le _, rfl, HO, HX0⟩
  case round =>
    obtain ⟨k, hk, rfl, HO, HX⟩ := hrel
    have HLN : Hid ((lowTo s.data.toList k).length = s.size) := Lib.hid (by rw [lowTo_len]; simp)
    by_cases hlt : k < s.size
    case pos =>
      have ik : (k : Int) < (s.size : Int) := by omega
      have hkl : k < s.data.toList.length := by simpa using hlt
      have c0 := HO.out.at_ k (by rw [lowTo_len]; exact hkl)
      have hv : ((lowTo s.data.toList k)[k]'(by rw [lowTo_len]; exact hkl)).toNat = (s.data.toList.getD k 0).toNat := by
        have h := lowTo_at s.data.toList k k hkl
        rw [if_neg (by omega), List.getD_eq_getElem?_getD, List.getElem?_eq_getElem (by rw [lowTo_len]; exact hkl)] at h
        simp only [Option.getD_some] at h
        rw [h]
      rw [hv] at c0
      have cl := HO.out.lt
      have cf := HO.out.free k (by rw [lowTo_len]; exact hkl)
      have HBV := Lib.hid (show ((s.data.toList.getD k 0).toNat : Int) = bya s.data.toList k from rfl)
      have HBB := Lib.hid (bya_nonneg s.data.toList k)
      by_cases h1 : 65 ≤ bya s.data.toList k ∧ bya s.data.toList k ≤ 90
      · have h65 := h1.1
        have h90 := h1.2
        have HN : Hid (OB (wr.setCell ⟨g, k, none⟩ (.int .u8 (bya s.data.toList k + 32))) g (lowTo s.data.toList (k + 1))) := Lib.hid (by
          have h := HO.out.set_ k (by rw [lowTo_len]; exact hkl) (lowB (s.data.toList.getD k 0))
          rw [lowB_val (by unfold bya at h1; exact h1), HBV.out] at h
          exact h)
        have u1 : IntKind.u8.wrap (bya s.data.toList k - 65) = bya s.data.toList k - 65 := IntWalk.u8_in _ (by omega)
        have u2 : IntKind.u8.wrap (bya s.data.toList k - 65 + 97) = bya s.data.toList k + 32 := by rw [IntWalk.u8_in _ (by omega)]; omega
        rw [HBV.out] at c0
        generalize bya s.data.toList k = c at *
        have hx1 := Lib.hid (HX.out.setCell (p := ⟨g, k, none⟩) HGL.out (.int .u8 (c + 32)))
        clear hv h1
        go_wp2
        go_roundw
        case rel => exact ⟨k + 1, by omega, by go_num, HN, hx1⟩
        case measure => simp [intOf]; omega
      · have HN : Hid (OB wr g (lowTo s.data.toList (k + 1))) := Lib.hid (by rw [lowTo_skip hkl h1]; exact HO.out)
        rw [HBV.out] at c0
        generalize bya s.data.toList k = c at *
        by_cases h65 : 65 ≤ c
        · have h90 : ¬ c ≤ 90 := by omega
          clear hv h1
          go_wp2
          go_roundw
          case rel => exact ⟨k + 1, by omega, by go_num, HN, HX⟩
          case measure => simp [intOf]; omega
        · clear hv h1
          go_wp2
          go_roundw
          case rel => exact ⟨k + 1, by omega, by go_num, HN, HX⟩
          case measure => simp [intOf]; omega
    case neg =>
      obtain rfl : k = s.size := by omega
      have ik : ¬ (s.size : Int) < (s.size : Int) := by omega
      have hcb := CB.out wr g cap _ HO.out
      rw [HLN.out, show s.size = s.data.toList.length by simp, lowTo_all] at hcb
      rw [show s.data.toList.length = s.size by simp] at hcb
      go_wp2
      go_ret
      exact Ret.mk' rfl HX.out
set_option maxRecDepth 100000 in
theorem rSmall_any (s : ByteArray) (w : World) (hs : s.size ≤ 1000000) : Calls Tryz.prog 66 #[.string s] w (Ret (.string ⟨(low s.data.toList).toArray⟩) w) := by
  have hs' : s.size ≤ 9223372036854775807 := by omega
  have hcv := fun W => run_bytes_of_string (P := Tryz.prog) W 9 157 5 s Tryz.underlying9 Tryz.underlying157 Tryz.underlying5
  have CB := Lib.hid fun (W : World) g cap (l : List UInt8) (h : OB W g l) => run_convert_bytes_back (P := Tryz.prog) W 157 9 5 ⟨g, 0, none⟩ cap l Tryz.underlying157 Tryz.underlying5 Tryz.underlying9 (fun j hj => by
    have h1 := h.at_ j hj
    unfold Addr.add
    by_cases h0 : j = 0
    · subst h0; exact h1
    · rw [if_neg h0, Nat.zero_add]; exact h1)
  have HX := Lib.hid (Ext.refl w)
  go_enter Tryz.func66, Tryz.ntmps66
  go_upto_region 2 with fail
  clear hcv
  have HO : Hid (OB (w.alloc (.cells (bytesRow s (grownCap w s.size 0 5)) 5 ((bytesRow s (grownCap w s.size 0 5)).size, (bytesRow s (grownCap w s.size 0 5)).size + 1))).drew w.heap.size s.data.toList) := Lib.hid (OB.made w.drew s (grownCap w s.size 0 5) 5)
  have HX0 : Hid (Ext w (w.alloc (.cells (bytesRow s (grownCap w s.size 0 5)) 5 ((bytesRow s (grownCap w s.size 0 5)).size, (bytesRow s (grownCap w s.size 0 5)).size + 1))).drew) := Lib.hid (by repeat (first | exact Ext.refl _ | assumption | refine Ext.alloc ?_ _ | refine Ext.drew ?_ | refine Ext.drewN ?_ _ | (refine Ext.setCell ?_ (by simp <;> omega) _) | refine Ext.trans ?_ (by assumption)))
  generalize (w.alloc (.cells (bytesRow s (grownCap w s.size 0 5)) 5 ((bytesRow s (grownCap w s.size 0 5)).size, (bytesRow s (grownCap w s.size 0 5)).size + 1))).drew = w0 at *
  generalize grownCap w s.size 0 5 = cap at *
  have HG := Lib.hid (Nat.le_refl w.heap.size)
  have HGE : Hid (∃ g, g = w.heap.size) := Lib.hid ⟨_, rfl⟩
  obtain ⟨g, hg⟩ := HGE.out
  have HGL : Hid (w.heap.size ≤ g) := Lib.hid (by omega)
  rw [← hg] at HO ⊢
  clear hg HGE HG HX
  go_wp2
  go_loopw [4] (fun v4 wr => ∃ k : Nat, k ≤ s.size ∧ v4 = .int .i64 (k : Int) ∧ Hid (OB wr g (lowTo s.data.toList k)) ∧ Hid (Ext w wr)) (fun v4 _ => s.size - (intOf v4).toNat)
  case atStart => exact ⟨0, Nat.zero_le _, rfl, HO, HX0⟩
  case round =>
    obtain ⟨k, hk, rfl, HO, HX⟩ := hrel
    have HLN : Hid ((lowTo s.data.toList k).length = s.size) := Lib.hid (by rw [lowTo_len]; simp)
    by_cases hlt : k < s.size
    case pos =>
      have ik : (k : Int) < (s.size : Int) := by omega
      have hkl : k < s.data.toList.length := by simpa using hlt
      have c0 := HO.out.at_ k (by rw [lowTo_len]; exact hkl)
      have hv : ((lowTo s.data.toList k)[k]'(by rw [lowTo_len]; exact hkl)).toNat = (s.data.toList.getD k 0).toNat := by
        have h := lowTo_at s.data.toList k k hkl
        rw [if_neg (by omega), List.getD_eq_getElem?_getD, List.getElem?_eq_getElem (by rw [lowTo_len]; exact hkl)] at h
        simp only [Option.getD_some] at h
        rw [h]
      rw [hv] at c0
      have cl := HO.out.lt
      have cf := HO.out.free k (by rw [lowTo_len]; exact hkl)
      have HBV := Lib.hid (show ((s.data.toList.getD k 0).toNat : Int) = bya s.data.toList k from rfl)
      have HBB := Lib.hid (bya_nonneg s.data.toList k)
      by_cases h1 : 65 ≤ bya s.data.toList k ∧ bya s.data.toList k ≤ 90
      · have h65 := h1.1
        have h90 := h1.2
        have HN : Hid (OB (wr.setCell ⟨g, k, none⟩ (.int .u8 (bya s.data.toList k + 32))) g (lowTo s.data.toList (k + 1))) := Lib.hid (by
          have h := HO.out.set_ k (by rw [lowTo_len]; exact hkl) (lowB (s.data.toList.getD k 0))
          rw [lowB_val (by unfold bya at h1; exact h1), HBV.out] at h
          exact h)
        have u1 : IntKind.u8.wrap (bya s.data.toList k + 97) = bya s.data.toList k + 97 := IntWalk.u8_in _ (by omega)
        have u2 : IntKind.u8.wrap (bya s.data.toList k + 97 - 65) = bya s.data.toList k + 32 := by rw [IntWalk.u8_in _ (by omega)]; omega
        rw [HBV.out] at c0
        generalize bya s.data.toList k = c at *
        have hx1 := Lib.hid (HX.out.setCell (p := ⟨g, k, none⟩) HGL.out (.int .u8 (c + 32)))
        clear hv h1
        go_wp2
        go_roundw
        case rel => exact ⟨k + 1, by omega, by go_num, HN, hx1⟩
        case measure => simp [intOf]; omega
      · have HN : Hid (OB wr g (lowTo s.data.toList (k + 1))) := Lib.hid (by rw [lowTo_skip hkl h1]; exact HO.out)
        rw [HBV.out] at c0
        generalize bya s.data.toList k = c at *
        by_cases h65 : 65 ≤ c
        · have h90 : ¬ c ≤ 90 := by omega
          clear hv h1
          go_wp2
          go_roundw
          case rel => exact ⟨k + 1, by omega, by go_num, HN, HX⟩
          case measure => simp [intOf]; omega
        · clear hv h1
          go_wp2
          go_roundw
          case rel => exact ⟨k + 1, by omega, by go_num, HN, HX⟩
          case measure => simp [intOf]; omega
    case neg =>
      obtain rfl : k = s.size := by omega
      have ik : ¬ (s.size : Int) < (s.size : Int) := by omega
      have hcb := CB.out wr g cap _ HO.out
      rw [HLN.out, show s.size = s.data.toList.length by simp, lowTo_all] at hcb
      rw [show s.data.toList.length = s.size by simp] at hcb
      go_wp2
      go_ret
      exact Ret.mk' rfl HX.out
end Go.Proofs.YtccdnieoaejgdaaGreatDoor
