/-
  Walks: what sorts of a kind print (the program's prints).
-/
import Derived.Test.YtaopcpfgmjpliaaDoorSpec
import Derived.Test.YtaopcpfgmjpliaaDoorNames
import Derived.Test.YtaopcpfgmjpliaaDoorShelf
namespace Go.Proofs.YtaopcpfgmjpliaaDoor
open Go.RowKit Go.Lib

def noPrint (r : Nat) : Bool := decide ((r : Int) < 33) || decide (126 < (r : Int))
theorem noPrint_iff (r : Nat) : noPrint r = true ↔ r < 33 ∨ 126 < r := by unfold noPrint; simp; omega
theorem idx_nonneg (p : Nat → Bool) (s : ByteArray) : ∀ (f pos : Nat), -1 ≤ Lib.idxFuncFrom p true s f pos
  | 0, pos => by simp [Lib.idxFuncFrom]
  | f + 1, pos => by
    unfold Lib.idxFuncFrom
    split
    · split
      · omega
      · exact idx_nonneg p s f _
    · omega
theorem idx_print (s : ByteArray) : ∀ (f pos : Nat), s.size ≤ pos + f → ((0 ≤ Lib.idxFuncFrom noPrint true s f pos) ↔ ∃ (j : Nat) (h : j < s.size), pos ≤ j ∧ noPrint s[j].toNat = true)
  | 0, pos => fun hf => by
    simp only [Lib.idxFuncFrom]
    constructor
    · intro h; omega
    · rintro ⟨j, h, hp, _⟩; omega
  | f + 1, pos => fun hf => by
    unfold Lib.idxFuncFrom
    by_cases hps : pos < s.size
    · rw [if_pos hps]
      by_cases hb : s[pos].toNat < 128
      · rw [decode_ascii s pos hps hb]
        simp only
        by_cases hn : noPrint s[pos].toNat = true
        · rw [if_pos hn]
          exact ⟨fun _ => ⟨pos, hps, Nat.le_refl _, hn⟩, fun _ => by omega⟩
        · rw [if_neg hn, idx_print s f (pos + 1) (by omega)]
          constructor
          · rintro ⟨j, h, hp, hj⟩; exact ⟨j, h, by omega, hj⟩
          · rintro ⟨j, h, hp, hj⟩
            refine ⟨j, h, ?_, hj⟩
            rcases Nat.eq_or_lt_of_le hp with e | e
            · subst e; exact absurd hj hn
            · omega
      · have hh := (decode_high s pos hps (by omega)).1
        rw [if_pos ((noPrint_iff _).2 (by omega))]
        exact ⟨fun _ => ⟨pos, hps, Nat.le_refl _, (noPrint_iff _).2 (by omega)⟩, fun _ => by omega⟩
    · rw [if_neg hps]
      constructor
      · intro h; omega
      · rintro ⟨j, h, hp, _⟩; omega
theorem printable_iff (s : ByteArray) : printable s = true ↔ ∀ (j : Nat) (h : j < s.size), noPrint s[j].toNat = false := by
  unfold printable
  rw [List.all_eq_true]
  constructor
  · intro h j hj
    have := h s[j] (by have e : s[j] = s.data.toList[j]'(by simpa using hj) := rfl; rw [e]; exact List.getElem_mem _)
    rw [Bool.and_eq_true, decide_eq_true_eq, decide_eq_true_eq] at this
    rw [Bool.eq_false_iff]; intro hn; rw [noPrint_iff] at hn; omega
  · intro h b hb
    obtain ⟨j, hj, rfl⟩ := List.getElem_of_mem hb
    have := h j (by simpa using hj)
    have e : s[j]'(by simpa using hj) = s.data.toList[j] := rfl
    rw [e, Bool.eq_false_iff] at this
    rw [Bool.and_eq_true, decide_eq_true_eq, decide_eq_true_eq]
    have h2 := mt (noPrint_iff _).2 this
    omega
theorem contains_print (s : ByteArray) : decide (0 ≤ Lib.idxFunc noPrint true s) = !printable s := by
  rw [Bool.eq_iff_iff]
  unfold Lib.idxFunc
  rw [decide_eq_true_eq, idx_print s s.size 0 (by omega), Bool.not_eq_true', Bool.eq_false_iff, Ne, printable_iff]
  constructor
  · rintro ⟨j, h, _, hj⟩ hall; rw [hall j h] at hj; cases hj
  · intro hn
    apply Classical.byContradiction
    intro hno
    apply hn
    intro j h
    rw [Bool.eq_false_iff]
    exact fun hj => hno ⟨j, h, Nat.zero_le _, hj⟩

theorem prints1_any (r : Nat) (hr : r ≤ 1114111) (w : World) :
    Calls Tryd.prog 68 #[.int .i32 r] w fun e w' => e = .returned (.bool (noPrint r)) ∧ w = w' := by
  by_cases h : (r : Int) < 33
  · go_enter Tryd.func68, Tryd.ntmps68
    go_wp2
    go_ret
    exact ⟨by simp [noPrint, h], rfl⟩
  · go_enter Tryd.func68, Tryd.ntmps68
    go_wp2
    go_ret
    have h' : decide ((r : Int) < 33) = false := decide_eq_false (by omega)
    exact ⟨by unfold noPrint; rw [h']; rfl, rfl⟩
theorem prints1_grows (w : World) : PredGrows Tryd.prog 68 #[] noPrint w :=
  fun W x hx _ => (prints1_any x hx W).mono fun _ _ ⟨he, hw⟩ => ⟨he, hw ▸ Below.refl _ _⟩
theorem contains_any (s : ByteArray) (w : World) :
    Calls Tryd.prog 67 #[.string s, .func (.func 68) #[] #[]] w (Ret (.bool (!printable s)) w) :=
  (Tryd.strings_ContainsFunc_grows 68 #[] (fun _ _ => by kernel_rfl) noPrint s w (prints1_grows w)).mono fun _ _ ⟨he, hb⟩ => ⟨by rw [he, contains_print], hb⟩

set_option maxHeartbeats 1000000 in
theorem prints_any (k : Int) (s : ByteArray) (w : World) (hk : 1 ≤ k ∧ k ≤ 3) (hs : s.size ≤ maxLen) :
    Calls Tryd.prog 60 #[.int .i64 k, .string s] w (Ret (.bool (printsB k s)) w) := by
  have hs' := hs
  unfold maxLen at hs'
  have i1 : ∀ w, (Instr.index 109 (.agg #[.int .i64 0, .int .i64 0, .int .i64 1, .int .i64 1, .int .i64 2, .int .i64 4, .int .i64 0, .int .i64 0]) (.int .i64 1)).run Tryd.prog w = .ok (.agg #[.int .i64 1, .int .i64 1]) w := fun _ => by kernel_rfl
  have i2 : ∀ w, (Instr.index 109 (.agg #[.int .i64 0, .int .i64 0, .int .i64 1, .int .i64 1, .int .i64 2, .int .i64 4, .int .i64 0, .int .i64 0]) (.int .i64 2)).run Tryd.prog w = .ok (.agg #[.int .i64 2, .int .i64 4]) w := fun _ => by kernel_rfl
  have i3 : ∀ w, (Instr.index 109 (.agg #[.int .i64 0, .int .i64 0, .int .i64 1, .int .i64 1, .int .i64 2, .int .i64 4, .int .i64 0, .int .i64 0]) (.int .i64 3)).run Tryd.prog w = .ok (.agg #[.int .i64 0, .int .i64 0]) w := fun _ => by kernel_rfl
  have hk3 : k = 1 ∨ k = 2 ∨ k = 3 := by omega
  by_cases hin : printLo k ≤ (s.size : Int) ∧ (s.size : Int) ≤ printHi k
  · have HP : Hid (printsB k s = printable s) := Lib.hid (by unfold printsB; simp [hin])
    rcases hk3 with rfl | rfl | rfl
    · replace hin : (1 : Int) ≤ (s.size : Int) ∧ (s.size : Int) ≤ 1 := hin
      go_enter Tryd.func60, Tryd.ntmps60
      go_wp2_with (first | (go_at_call 35; refine Calls.mono (within_yes _ _ _ _ ?_) ?_; (omega); rintro e w1 ⟨rfl, rfl⟩) | (go_at_call 35; refine Calls.mono (within_no _ _ _ _ ?_) ?_; (omega); rintro e w1 ⟨rfl, rfl⟩) | (go_at_call 67; refine Calls.mono (contains_any _ _) ?_; rintro e w1 ⟨rfl, hb⟩; obtain ⟨hc, hf⟩ := hb.rules; have hz := hb.size; (try simp only [World.size_alloc] at hz)))
      go_ret
      exact Ret.mk' (by rw [HP.out]; simp) (by repeat (first | exact Ext.refl _ | assumption | refine Ext.alloc ?_ _ | refine Ext.drew ?_ | refine Ext.drewN ?_ _ | (refine Ext.setCell ?_ (by simp <;> omega) _) | refine Ext.trans ?_ (by assumption)))
    · replace hin : (2 : Int) ≤ (s.size : Int) ∧ (s.size : Int) ≤ 4 := hin
      go_enter Tryd.func60, Tryd.ntmps60
      go_wp2_with (first | (go_at_call 35; refine Calls.mono (within_yes _ _ _ _ ?_) ?_; (omega); rintro e w1 ⟨rfl, rfl⟩) | (go_at_call 35; refine Calls.mono (within_no _ _ _ _ ?_) ?_; (omega); rintro e w1 ⟨rfl, rfl⟩) | (go_at_call 67; refine Calls.mono (contains_any _ _) ?_; rintro e w1 ⟨rfl, hb⟩; obtain ⟨hc, hf⟩ := hb.rules; have hz := hb.size; (try simp only [World.size_alloc] at hz)))
      go_ret
      exact Ret.mk' (by rw [HP.out]; simp) (by repeat (first | exact Ext.refl _ | assumption | refine Ext.alloc ?_ _ | refine Ext.drew ?_ | refine Ext.drewN ?_ _ | (refine Ext.setCell ?_ (by simp <;> omega) _) | refine Ext.trans ?_ (by assumption)))
    · replace hin : (0 : Int) ≤ (s.size : Int) ∧ (s.size : Int) ≤ 0 := hin
      go_enter Tryd.func60, Tryd.ntmps60
      go_wp2_with (first | (go_at_call 35; refine Calls.mono (within_yes _ _ _ _ ?_) ?_; (omega); rintro e w1 ⟨rfl, rfl⟩) | (go_at_call 35; refine Calls.mono (within_no _ _ _ _ ?_) ?_; (omega); rintro e w1 ⟨rfl, rfl⟩) | (go_at_call 67; refine Calls.mono (contains_any _ _) ?_; rintro e w1 ⟨rfl, hb⟩; obtain ⟨hc, hf⟩ := hb.rules; have hz := hb.size; (try simp only [World.size_alloc] at hz)))
      go_ret
      exact Ret.mk' (by rw [HP.out]; simp) (by repeat (first | exact Ext.refl _ | assumption | refine Ext.alloc ?_ _ | refine Ext.drew ?_ | refine Ext.drewN ?_ _ | (refine Ext.setCell ?_ (by simp <;> omega) _) | refine Ext.trans ?_ (by assumption)))
  · have HP : Hid (printsB k s = false) := Lib.hid (by unfold printsB; rw [Bool.and_eq_false_iff, Bool.and_eq_false_iff, decide_eq_false_iff_not, decide_eq_false_iff_not]; omega)
    rcases hk3 with rfl | rfl | rfl
    · replace hin : ¬ ((1 : Int) ≤ (s.size : Int) ∧ (s.size : Int) ≤ 1) := hin
      go_enter Tryd.func60, Tryd.ntmps60
      go_wp2_with (first | (go_at_call 35; refine Calls.mono (within_yes _ _ _ _ ?_) ?_; (omega); rintro e w1 ⟨rfl, rfl⟩) | (go_at_call 35; refine Calls.mono (within_no _ _ _ _ ?_) ?_; (omega); rintro e w1 ⟨rfl, rfl⟩) | (go_at_call 67; refine Calls.mono (contains_any _ _) ?_; rintro e w1 ⟨rfl, hb⟩; obtain ⟨hc, hf⟩ := hb.rules; have hz := hb.size; (try simp only [World.size_alloc] at hz)))
      go_ret
      exact Ret.mk' (by rw [HP.out]; rfl) (by repeat (first | exact Ext.refl _ | assumption | refine Ext.alloc ?_ _ | refine Ext.drew ?_ | refine Ext.drewN ?_ _ | (refine Ext.setCell ?_ (by simp <;> omega) _) | refine Ext.trans ?_ (by assumption)))
    · replace hin : ¬ ((2 : Int) ≤ (s.size : Int) ∧ (s.size : Int) ≤ 4) := hin
      go_enter Tryd.func60, Tryd.ntmps60
      go_wp2_with (first | (go_at_call 35; refine Calls.mono (within_yes _ _ _ _ ?_) ?_; (omega); rintro e w1 ⟨rfl, rfl⟩) | (go_at_call 35; refine Calls.mono (within_no _ _ _ _ ?_) ?_; (omega); rintro e w1 ⟨rfl, rfl⟩) | (go_at_call 67; refine Calls.mono (contains_any _ _) ?_; rintro e w1 ⟨rfl, hb⟩; obtain ⟨hc, hf⟩ := hb.rules; have hz := hb.size; (try simp only [World.size_alloc] at hz)))
      go_ret
      exact Ret.mk' (by rw [HP.out]; rfl) (by repeat (first | exact Ext.refl _ | assumption | refine Ext.alloc ?_ _ | refine Ext.drew ?_ | refine Ext.drewN ?_ _ | (refine Ext.setCell ?_ (by simp <;> omega) _) | refine Ext.trans ?_ (by assumption)))
    · replace hin : ¬ ((0 : Int) ≤ (s.size : Int) ∧ (s.size : Int) ≤ 0) := hin
      go_enter Tryd.func60, Tryd.ntmps60
      go_wp2_with (first | (go_at_call 35; refine Calls.mono (within_yes _ _ _ _ ?_) ?_; (omega); rintro e w1 ⟨rfl, rfl⟩) | (go_at_call 35; refine Calls.mono (within_no _ _ _ _ ?_) ?_; (omega); rintro e w1 ⟨rfl, rfl⟩) | (go_at_call 67; refine Calls.mono (contains_any _ _) ?_; rintro e w1 ⟨rfl, hb⟩; obtain ⟨hc, hf⟩ := hb.rules; have hz := hb.size; (try simp only [World.size_alloc] at hz)))
      go_ret
      exact Ret.mk' (by rw [HP.out]; rfl) (by repeat (first | exact Ext.refl _ | assumption | refine Ext.alloc ?_ _ | refine Ext.drew ?_ | refine Ext.drewN ?_ _ | (refine Ext.setCell ?_ (by simp <;> omega) _) | refine Ext.trans ?_ (by assumption)))
end Go.Proofs.YtaopcpfgmjpliaaDoor
