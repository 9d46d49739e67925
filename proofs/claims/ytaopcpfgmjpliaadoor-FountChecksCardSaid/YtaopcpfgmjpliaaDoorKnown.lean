/-
  Walks: what is known of the sorts so far (two maps).
-/
import Derived.Test.YtaopcpfgmjpliaaDoorMaps
import Derived.Test.YtaopcpfgmjpliaaDoorIsName
import Derived.Test.YtaopcpfgmjpliaaDoorPrints
namespace Go.Proofs.YtaopcpfgmjpliaaDoor
open Go.RowKit

/-- Two maps of this call's own. -/
def Known (w : World) (b1 b2 n : Nat) (f g : List UInt8 → Option Int) : Prop := KM w b1 n f ∧ KM w b2 n g
def knownV (b1 b2 : Nat) : Value := .agg #[.map (some b1), .map (some b2)]
theorem KM.mono {w : World} {b n m : Nat} {f : List UInt8 → Option Int} (h : KM w b n f) (hn : n ≤ m) : KM w b m f := by
  obtain ⟨D, ho, hm⟩ := h
  exact ⟨D, ho.mono hn, hm⟩

def NewKnown (w : World) (e : Ending) (w' : World) : Prop :=
  ∃ b1 b2, e = .returned (knownV b1 b2) ∧ b1 ≠ b2 ∧ w.heap.size ≤ b1 ∧ w.heap.size ≤ b2 ∧ KM w' b1 0 (fun _ => none) ∧ KM w' b2 0 (fun _ => none) ∧ Ext w w'
set_option maxHeartbeats 1000000 in
theorem newKnown_any (w : World) : Calls Tryd.prog 40 #[] w (NewKnown w) := by
  have hmm := @run_makeMap Tryd.prog
  go_enter Tryd.func40, Tryd.ntmps40
  go_wp2
  refine bodyPost_ret (v := knownV (w.heap.size + 1) (w.heap.size + 1 + 1)) (by simp [results, Tryd.results40, go_sem, knownV]) rfl ⟨_, _, rfl, by omega, by omega, by omega, ?_, ?_, (by repeat (first | exact Ext.refl _ | assumption | refine Ext.alloc ?_ _ | refine Ext.drew ?_ | refine Ext.drewN ?_ _ | (refine Ext.setCell ?_ (by simp <;> omega) _) | refine Ext.trans ?_ (by assumption)))⟩
  · have h := KM.made (w.alloc (.cells #[.map (some (w.heap.size + 1)), .map (some (w.heap.size + 1 + 1))] 51))
    rw [World.size_alloc] at h
    exact h.ext (by repeat (first | exact Ext.refl _ | assumption | refine Ext.alloc ?_ _ | refine Ext.drew ?_ | refine Ext.drewN ?_ _ | (refine Ext.setCell ?_ (by simp <;> omega) _) | refine Ext.trans ?_ (by assumption)))
  · have h := KM.made ((w.alloc (.cells #[.map (some (w.heap.size + 1)), .map (some (w.heap.size + 1 + 1))] 51)).alloc (.map #[] 0))
    rw [World.size_alloc, World.size_alloc] at h
    exact h

def nameE (f : List UInt8 → Option Int) (s : ByteArray) : Int := if nameB s = false then 4 else if (f s.data.toList).isSome = true then 5 else 0
def textE (g : List UInt8 → Option Int) (k : Int) (s : ByteArray) : Int := if printsB k s = false then 3 else if k ≠ 3 ∧ (g s.data.toList).isSome = true then 13 else 0
set_option maxHeartbeats 1000000 in
theorem name_any (b1 b2 n : Nat) (f : List UInt8 → Option Int) (s : ByteArray) (w : World) (h1 : KM w b1 n f) (hs : s.size ≤ maxLen) :
    Calls Tryd.prog 51 #[knownV b1 b2, .string s] w (Ret (.int .i64 (nameE f s)) w) := by
  unfold knownV
  by_cases hn : nameB s = true
  · have HV : Hid (nameE f s = if (f s.data.toList).isSome = true then 5 else 0) := Lib.hid (by unfold nameE; simp [hn])
    have HN := Lib.hid hn; clear hn
    cases hv : (f s.data.toList)
    all_goals
      rw [hv] at HV
      have HF := Lib.hid hv; clear hv
      go_enter Tryd.func51, Tryd.ntmps51
      go_wp2_with (first | (go_at_call 41; refine Calls.mono (isName_any _ _ hs) ?_; rw [HN.out]; rintro e w1 ⟨rfl, hb⟩; obtain ⟨hc, hf⟩ := hb.rules; have hl := (h1.ext (Ext.trans (by repeat (first | exact Ext.refl _ | assumption | refine Ext.alloc ?_ _ | refine Ext.drew ?_ | refine Ext.drewN ?_ _ | (refine Ext.setCell ?_ (by simp <;> omega) _) | refine Ext.trans ?_ (by assumption))) hb)).look s hs; rw [HF.out] at hl))
      go_ret
      exact Ret.mk' (by rw [HV.out]; rfl) (by repeat (first | exact Ext.refl _ | assumption | refine Ext.alloc ?_ _ | refine Ext.drew ?_ | refine Ext.drewN ?_ _ | (refine Ext.setCell ?_ (by simp <;> omega) _) | refine Ext.trans ?_ (by assumption)))
  · have HV : Hid (nameE f s = 4) := Lib.hid (by unfold nameE; simp [hn])
    have HN : Hid (nameB s = false) := Lib.hid (by simpa using hn)
    clear hn
    go_enter Tryd.func51, Tryd.ntmps51
    go_wp2_with (first | (go_at_call 41; refine Calls.mono (isName_any _ _ hs) ?_; rw [HN.out]; rintro e w1 ⟨rfl, hb⟩))
    go_ret
    exact Ret.mk' (by rw [HV.out]; rfl) (by repeat (first | exact Ext.refl _ | assumption | refine Ext.alloc ?_ _ | refine Ext.drew ?_ | refine Ext.drewN ?_ _ | (refine Ext.setCell ?_ (by simp <;> omega) _) | refine Ext.trans ?_ (by assumption)))

set_option maxHeartbeats 1000000 in
theorem text_any (b1 b2 n : Nat) (g : List UInt8 → Option Int) (k : Int) (s : ByteArray) (w : World) (hk : 1 ≤ k ∧ k ≤ 3) (h2 : KM w b2 n g) (hs : s.size ≤ maxLen) :
    Calls Tryd.prog 52 #[knownV b1 b2, .int .i64 k, .string s] w (Ret (.int .i64 (textE g k s)) w) := by
  unfold knownV
  by_cases hn : printsB k s = true
  · have HV : Hid (textE g k s = if k ≠ 3 ∧ (g s.data.toList).isSome = true then 13 else 0) := Lib.hid (by unfold textE; simp [hn])
    have HN := Lib.hid hn; clear hn
    cases hv : (g s.data.toList)
    · rw [hv] at HV
      have HF := Lib.hid hv; clear hv
      go_enter Tryd.func52, Tryd.ntmps52
      go_wp2_with (first | (go_at_call 60; refine Calls.mono (prints_any _ _ _ hk hs) ?_; rw [HN.out]; rintro e w1 ⟨rfl, hb⟩; obtain ⟨hc, hf⟩ := hb.rules; have hl := (h2.ext (Ext.trans (by repeat (first | exact Ext.refl _ | assumption | refine Ext.alloc ?_ _ | refine Ext.drew ?_ | refine Ext.drewN ?_ _ | (refine Ext.setCell ?_ (by simp <;> omega) _) | refine Ext.trans ?_ (by assumption))) hb)).look s hs; rw [HF.out] at hl))
      go_ret
      exact Ret.mk' (by rw [HV.out]; simp) (by repeat (first | exact Ext.refl _ | assumption | refine Ext.alloc ?_ _ | refine Ext.drew ?_ | refine Ext.drewN ?_ _ | (refine Ext.setCell ?_ (by simp <;> omega) _) | refine Ext.trans ?_ (by assumption)))
    · rw [hv] at HV
      have HF := Lib.hid hv; clear hv
      by_cases h3 : k = 3
      · subst h3
        go_enter Tryd.func52, Tryd.ntmps52
        go_wp2_with (first | (go_at_call 60; refine Calls.mono (prints_any _ _ _ hk hs) ?_; rw [HN.out]; rintro e w1 ⟨rfl, hb⟩; obtain ⟨hc, hf⟩ := hb.rules; have hl := (h2.ext (Ext.trans (by repeat (first | exact Ext.refl _ | assumption | refine Ext.alloc ?_ _ | refine Ext.drew ?_ | refine Ext.drewN ?_ _ | (refine Ext.setCell ?_ (by simp <;> omega) _) | refine Ext.trans ?_ (by assumption))) hb)).look s hs; rw [HF.out] at hl))
        go_ret
        exact Ret.mk' (by rw [HV.out]; simp) (by repeat (first | exact Ext.refl _ | assumption | refine Ext.alloc ?_ _ | refine Ext.drew ?_ | refine Ext.drewN ?_ _ | (refine Ext.setCell ?_ (by simp <;> omega) _) | refine Ext.trans ?_ (by assumption)))
      · have e3 : (k != 3) = true := by simpa using h3
        go_enter Tryd.func52, Tryd.ntmps52
        go_wp2_with (first | (go_at_call 60; refine Calls.mono (prints_any _ _ _ hk hs) ?_; rw [HN.out]; rintro e w1 ⟨rfl, hb⟩; obtain ⟨hc, hf⟩ := hb.rules; have hl := (h2.ext (Ext.trans (by repeat (first | exact Ext.refl _ | assumption | refine Ext.alloc ?_ _ | refine Ext.drew ?_ | refine Ext.drewN ?_ _ | (refine Ext.setCell ?_ (by simp <;> omega) _) | refine Ext.trans ?_ (by assumption))) hb)).look s hs; rw [HF.out] at hl))
        go_ret
        exact Ret.mk' (by rw [HV.out]; simp [h3]) (by repeat (first | exact Ext.refl _ | assumption | refine Ext.alloc ?_ _ | refine Ext.drew ?_ | refine Ext.drewN ?_ _ | (refine Ext.setCell ?_ (by simp <;> omega) _) | refine Ext.trans ?_ (by assumption)))
  · have HV : Hid (textE g k s = 3) := Lib.hid (by unfold textE; simp [hn])
    have HN : Hid (printsB k s = false) := Lib.hid (by simpa using hn)
    clear hn
    go_enter Tryd.func52, Tryd.ntmps52
    go_wp2_with (first | (go_at_call 60; refine Calls.mono (prints_any _ _ _ hk hs) ?_; rw [HN.out]; rintro e w1 ⟨rfl, hb⟩))
    go_ret
    exact Ret.mk' (by rw [HV.out]; rfl) (by repeat (first | exact Ext.refl _ | assumption | refine Ext.alloc ?_ _ | refine Ext.drew ?_ | refine Ext.drewN ?_ _ | (refine Ext.setCell ?_ (by simp <;> omega) _) | refine Ext.trans ?_ (by assumption)))

/-- The error of a sort, by what is known. -/
def knownErr (f g : List UInt8 → Option Int) (x : TS) : Int :=
  if nameE f x.name ≠ 0 then nameE f x.name else if ¬ (1 ≤ x.kind ∧ x.kind ≤ 3) then 15 else if ¬ (1 ≤ x.width ∧ x.width ≤ 100000) then 2 else textE g x.kind x.text
set_option maxHeartbeats 2000000 in
theorem sort_any (b1 b2 n : Nat) (f g : List UInt8 → Option Int) (x : TS) (w : World) (h1 : KM w b1 n f) (h2 : KM w b2 n g) (hn : x.name.size ≤ maxLen) (ht : x.text.size ≤ maxLen) :
    Calls Tryd.prog 42 #[knownV b1 b2, x.val] w (Ret (.int .i64 (knownErr f g x)) w) := by
  obtain ⟨nm, tx, k, wd⟩ := x
  simp only [TS.val, knownV] at *
  have HV : Hid (knownErr f g ⟨nm, tx, k, wd⟩ = if nameE f nm ≠ 0 then nameE f nm else if ¬ (1 ≤ k ∧ k ≤ 3) then 15 else if ¬ (1 ≤ wd ∧ wd ≤ 100000) then 2 else textE g k tx) := Lib.hid rfl
  have cn := fun W h => name_any b1 b2 n f nm W h hn
  have ct := fun W h hk => text_any b1 b2 n g k tx W hk h ht
  unfold knownV at cn ct
  generalize nameE f nm = z at *
  have CN := Lib.hid cn; clear cn
  have CT := Lib.hid ct; clear ct
  by_cases hz : z = 0
  · subst hz
    by_cases hk : 1 ≤ k ∧ k ≤ 3
    · by_cases hw : 1 ≤ wd ∧ wd ≤ 100000
      · go_enter Tryd.func42, Tryd.ntmps42
        go_wp2_with (first | (go_at_call 35; refine Calls.mono (within_yes _ _ _ _ ?_) ?_; (omega); rintro e w1 ⟨rfl, rfl⟩) | (go_at_call 35; refine Calls.mono (within_no _ _ _ _ ?_) ?_; (omega); rintro e w1 ⟨rfl, rfl⟩) | (go_at_call 51; refine Calls.mono (CN.out _ ?_) ?_; (exact h1.ext (by repeat (first | exact Ext.refl _ | assumption | refine Ext.alloc ?_ _ | refine Ext.drew ?_ | refine Ext.drewN ?_ _ | (refine Ext.setCell ?_ (by simp <;> omega) _) | refine Ext.trans ?_ (by assumption)))); rintro e w1 ⟨rfl, hb⟩; obtain ⟨hc, hf⟩ := hb.rules) | (go_at_call 52; refine Calls.mono (CT.out _ ?_ ?_) ?_; (exact h2.ext (Ext.trans (by repeat (first | exact Ext.refl _ | assumption | refine Ext.alloc ?_ _ | refine Ext.drew ?_ | refine Ext.drewN ?_ _ | (refine Ext.setCell ?_ (by simp <;> omega) _) | refine Ext.trans ?_ (by assumption))) hb)); (exact hk); rintro e w2 ⟨rfl, hb2⟩))
        go_ret
        exact Ret.mk' (by rw [HV.out]; simp [hk, hw]) ((Ext.trans (by repeat (first | exact Ext.refl _ | assumption | refine Ext.alloc ?_ _ | refine Ext.drew ?_ | refine Ext.drewN ?_ _ | (refine Ext.setCell ?_ (by simp <;> omega) _) | refine Ext.trans ?_ (by assumption))) hb).trans hb2)
      · go_enter Tryd.func42, Tryd.ntmps42
        go_wp2_with (first | (go_at_call 35; refine Calls.mono (within_yes _ _ _ _ ?_) ?_; (omega); rintro e w1 ⟨rfl, rfl⟩) | (go_at_call 35; refine Calls.mono (within_no _ _ _ _ ?_) ?_; (omega); rintro e w1 ⟨rfl, rfl⟩) | (go_at_call 51; refine Calls.mono (CN.out _ ?_) ?_; (exact h1.ext (by repeat (first | exact Ext.refl _ | assumption | refine Ext.alloc ?_ _ | refine Ext.drew ?_ | refine Ext.drewN ?_ _ | (refine Ext.setCell ?_ (by simp <;> omega) _) | refine Ext.trans ?_ (by assumption)))); rintro e w1 ⟨rfl, hb⟩; obtain ⟨hc, hf⟩ := hb.rules))
        go_ret
        exact Ret.mk' (by rw [HV.out]; simp [hk, hw]) (by repeat (first | exact Ext.refl _ | assumption | refine Ext.alloc ?_ _ | refine Ext.drew ?_ | refine Ext.drewN ?_ _ | (refine Ext.setCell ?_ (by simp <;> omega) _) | refine Ext.trans ?_ (by assumption)))
    · go_enter Tryd.func42, Tryd.ntmps42
      go_wp2_with (first | (go_at_call 35; refine Calls.mono (within_yes _ _ _ _ ?_) ?_; (omega); rintro e w1 ⟨rfl, rfl⟩) | (go_at_call 35; refine Calls.mono (within_no _ _ _ _ ?_) ?_; (omega); rintro e w1 ⟨rfl, rfl⟩) | (go_at_call 51; refine Calls.mono (CN.out _ ?_) ?_; (exact h1.ext (by repeat (first | exact Ext.refl _ | assumption | refine Ext.alloc ?_ _ | refine Ext.drew ?_ | refine Ext.drewN ?_ _ | (refine Ext.setCell ?_ (by simp <;> omega) _) | refine Ext.trans ?_ (by assumption)))); rintro e w1 ⟨rfl, hb⟩; obtain ⟨hc, hf⟩ := hb.rules))
      go_ret
      exact Ret.mk' (by rw [HV.out]; simp [hk]) (by repeat (first | exact Ext.refl _ | assumption | refine Ext.alloc ?_ _ | refine Ext.drew ?_ | refine Ext.drewN ?_ _ | (refine Ext.setCell ?_ (by simp <;> omega) _) | refine Ext.trans ?_ (by assumption)))
  · have e0 : (z != 0) = true := by simpa using hz
    go_enter Tryd.func42, Tryd.ntmps42
    go_wp2_with (first | (go_at_call 51; refine Calls.mono (CN.out _ ?_) ?_; (exact h1.ext (by repeat (first | exact Ext.refl _ | assumption | refine Ext.alloc ?_ _ | refine Ext.drew ?_ | refine Ext.drewN ?_ _ | (refine Ext.setCell ?_ (by simp <;> omega) _) | refine Ext.trans ?_ (by assumption)))); rintro e w1 ⟨rfl, hb⟩; obtain ⟨hc, hf⟩ := hb.rules))
    go_ret
    exact Ret.mk' (by rw [HV.out]; simp [hz]) (by repeat (first | exact Ext.refl _ | assumption | refine Ext.alloc ?_ _ | refine Ext.drew ?_ | refine Ext.drewN ?_ _ | (refine Ext.setCell ?_ (by simp <;> omega) _) | refine Ext.trans ?_ (by assumption)))

theorem knownErr_eq (ss : List TS) (n : Nat) (x : TS) (h : n ≤ ss.length) : knownErr (lookN ss n) (lookT ss n) x = sortErr ss n x := by
  unfold knownErr sortErr nameE textE textErr
  rw [lookN_some ss x.name n h, lookT_some ss x.text n h]
  by_cases h1 : nameB x.name = false
  · rw [if_pos h1, if_pos h1]; rfl
  · rw [if_neg h1, if_neg h1]
    by_cases h2 : hasName ss n x.name = true
    · rw [if_pos h2, if_pos h2]; rfl
    · rw [if_neg h2, if_neg h2]; rfl
end Go.Proofs.YtaopcpfgmjpliaaDoor
