/-
  Walks: what is known of the sorts so far (two maps).
  Walk: a sort is made known.
  Walk: a fount is checked (the program's read and CheckFount).
-/
import Derived.Test.YtccdnieoaejgdaaGreatDoorT2AA
set_option linter.unusedVariables false
set_option linter.unusedSimpArgs false
set_option linter.unusedSectionVars false
namespace Go.Proofs.YtccdnieoaejgdaaGreatDoor
open Go.RowKit

def knownV (b1 b2 : Nat) : Value := .agg #[.map (some b1), .map (some b2)]
theorem KM.mono {w : World} {b n m : Nat} {f : List UInt8 → Option Int} (h : KM w b n f) (hn : n ≤ m) : KM w b m f := by
  obtain ⟨D, ho, hm⟩ := h
  exact ⟨D, ho.mono hn, hm⟩

def NewKnown (w : World) (e : Ending) (w' : World) : Prop :=
  ∃ b1 b2, e = .returned (knownV b1 b2) ∧ b1 ≠ b2 ∧ w.heap.size ≤ b1 ∧ w.heap.size ≤ b2 ∧ KM w' b1 0 (fun _ => none) ∧ KM w' b2 0 (fun _ => none) ∧ Ext w w'
set_option maxHeartbeats 1000000 in
theorem newKnown_any (w : World) : Calls Tryz.prog 130 #[] w (NewKnown w) := by
  have hmm := @run_makeMap Tryz.prog
  go_enter Tryz.func130, Tryz.ntmps130
  go_wp2
  refine bodyPost_ret (v := knownV (w.heap.size + 1) (w.heap.size + 1 + 1)) (by simp [results, Tryz.results130, go_sem, knownV]) rfl ⟨_, _, rfl, by omega, by omega, by omega, ?_, ?_, (by repeat (first | exact Ext.refl _ | assumption | refine Ext.alloc ?_ _ | refine Ext.drew ?_ | refine Ext.drewN ?_ _ | (refine Ext.setCell ?_ (by simp <;> omega) _) | refine Ext.trans ?_ (by assumption)))⟩
  · have h := KM.made (w.alloc (.cells #[.map (some (w.heap.size + 1)), .map (some (w.heap.size + 1 + 1))] 168))
    rw [World.size_alloc] at h
    exact h.ext (by repeat (first | exact Ext.refl _ | assumption | refine Ext.alloc ?_ _ | refine Ext.drew ?_ | refine Ext.drewN ?_ _ | (refine Ext.setCell ?_ (by simp <;> omega) _) | refine Ext.trans ?_ (by assumption)))
  · have h := KM.made ((w.alloc (.cells #[.map (some (w.heap.size + 1)), .map (some (w.heap.size + 1 + 1))] 168)).alloc (.map #[] 0))
    rw [World.size_alloc, World.size_alloc] at h
    exact h

def nameE (f : List UInt8 → Option Int) (s : ByteArray) : Int := if nameB s = false then 4 else if (f s.data.toList).isSome = true then 5 else 0
def textE (g : List UInt8 → Option Int) (k : Int) (s : ByteArray) : Int := if printsB k s = false then 3 else if k ≠ 3 ∧ (g s.data.toList).isSome = true then 13 else 0
set_option maxHeartbeats 1000000 in
theorem name_any (b1 b2 n : Nat) (f : List UInt8 → Option Int) (s : ByteArray) (w : World) (h1 : KM w b1 n f) (hs : s.size ≤ maxLen) :
    Calls Tryz.prog 153 #[knownV b1 b2, .string s] w (Ret (.int .i64 (nameE f s)) w) := by
  unfold knownV
  by_cases hn : nameB s = true
  · have HV : Hid (nameE f s = if (f s.data.toList).isSome = true then 5 else 0) := Lib.hid (by unfold nameE; simp [hn])
    have HN := Lib.hid hn; clear hn
    cases hv : (f s.data.toList)
    all_goals
      rw [hv] at HV
      have HF := Lib.hid hv; clear hv
      go_enter Tryz.func153, Tryz.ntmps153
      go_wp2_with (first | (go_at_call 131; refine Calls.mono (isName_any _ _ hs) ?_; rw [HN.out]; rintro e w1 ⟨rfl, hb⟩; obtain ⟨hc, hf⟩ := hb.rules; have hl := (h1.ext (Ext.trans (by repeat (first | exact Ext.refl _ | assumption | refine Ext.alloc ?_ _ | refine Ext.drew ?_ | refine Ext.drewN ?_ _ | (refine Ext.setCell ?_ (by simp <;> omega) _) | refine Ext.trans ?_ (by assumption))) hb)).look s hs; rw [HF.out] at hl))
      go_ret
      exact Ret.mk' (by rw [HV.out]; rfl) (by repeat (first | exact Ext.refl _ | assumption | refine Ext.alloc ?_ _ | refine Ext.drew ?_ | refine Ext.drewN ?_ _ | (refine Ext.setCell ?_ (by simp <;> omega) _) | refine Ext.trans ?_ (by assumption)))
  · have HV : Hid (nameE f s = 4) := Lib.hid (by unfold nameE; simp [hn])
    have HN : Hid (nameB s = false) := Lib.hid (by simpa using hn)
    clear hn
    go_enter Tryz.func153, Tryz.ntmps153
    go_wp2_with (first | (go_at_call 131; refine Calls.mono (isName_any _ _ hs) ?_; rw [HN.out]; rintro e w1 ⟨rfl, hb⟩))
    go_ret
    exact Ret.mk' (by rw [HV.out]; rfl) (by repeat (first | exact Ext.refl _ | assumption | refine Ext.alloc ?_ _ | refine Ext.drew ?_ | refine Ext.drewN ?_ _ | (refine Ext.setCell ?_ (by simp <;> omega) _) | refine Ext.trans ?_ (by assumption)))

set_option maxHeartbeats 1000000 in
theorem text_any (b1 b2 n : Nat) (g : List UInt8 → Option Int) (k : Int) (s : ByteArray) (w : World) (hk : 1 ≤ k ∧ k ≤ 3) (h2 : KM w b2 n g) (hs : s.size ≤ maxLen) :
    Calls Tryz.prog 154 #[knownV b1 b2, .int .i64 k, .string s] w (Ret (.int .i64 (textE g k s)) w) := by
  unfold knownV
  by_cases hn : printsB k s = true
  · have HV : Hid (textE g k s = if k ≠ 3 ∧ (g s.data.toList).isSome = true then 13 else 0) := Lib.hid (by unfold textE; simp [hn])
    have HN := Lib.hid hn; clear hn
    cases hv : (g s.data.toList)
    · rw [hv] at HV
      have HF := Lib.hid hv; clear hv
      go_enter Tryz.func154, Tryz.ntmps154
      go_wp2_with (first | (go_at_call 161; refine Calls.mono (prints_any _ _ _ hk hs) ?_; rw [HN.out]; rintro e w1 ⟨rfl, hb⟩; obtain ⟨hc, hf⟩ := hb.rules; have hl := (h2.ext (Ext.trans (by repeat (first | exact Ext.refl _ | assumption | refine Ext.alloc ?_ _ | refine Ext.drew ?_ | refine Ext.drewN ?_ _ | (refine Ext.setCell ?_ (by simp <;> omega) _) | refine Ext.trans ?_ (by assumption))) hb)).look s hs; rw [HF.out] at hl))
      go_ret
      exact Ret.mk' (by rw [HV.out]; simp) (by repeat (first | exact Ext.refl _ | assumption | refine Ext.alloc ?_ _ | refine Ext.drew ?_ | refine Ext.drewN ?_ _ | (refine Ext.setCell ?_ (by simp <;> omega) _) | refine Ext.trans ?_ (by assumption)))
    · rw [hv] at HV
      have HF := Lib.hid hv; clear hv
      by_cases h3 : k = 3
      · subst h3
        go_enter Tryz.func154, Tryz.ntmps154
        go_wp2_with (first | (go_at_call 161; refine Calls.mono (prints_any _ _ _ hk hs) ?_; rw [HN.out]; rintro e w1 ⟨rfl, hb⟩; obtain ⟨hc, hf⟩ := hb.rules; have hl := (h2.ext (Ext.trans (by repeat (first | exact Ext.refl _ | assumption | refine Ext.alloc ?_ _ | refine Ext.drew ?_ | refine Ext.drewN ?_ _ | (refine Ext.setCell ?_ (by simp <;> omega) _) | refine Ext.trans ?_ (by assumption))) hb)).look s hs; rw [HF.out] at hl))
        go_ret
        exact Ret.mk' (by rw [HV.out]; simp) (by repeat (first | exact Ext.refl _ | assumption | refine Ext.alloc ?_ _ | refine Ext.drew ?_ | refine Ext.drewN ?_ _ | (refine Ext.setCell ?_ (by simp <;> omega) _) | refine Ext.trans ?_ (by assumption)))
      · have e3 : (k != 3) = true := by simpa using h3
        go_enter Tryz.func154, Tryz.ntmps154
        go_wp2_with (first | (go_at_call 161; refine Calls.mono (prints_any _ _ _ hk hs) ?_; rw [HN.out]; rintro e w1 ⟨rfl, hb⟩; obtain ⟨hc, hf⟩ := hb.rules; have hl := (h2.ext (Ext.trans (by repeat (first | exact Ext.refl _ | assumption | refine Ext.alloc ?_ _ | refine Ext.drew ?_ | refine Ext.drewN ?_ _ | (refine Ext.setCell ?_ (by simp <;> omega) _) | refine Ext.trans ?_ (by assumption))) hb)).look s hs; rw [HF.out] at hl))
        go_ret
        exact Ret.mk' (by rw [HV.out]; simp [h3]) (by repeat (first | exact Ext.refl _ | assumption | refine Ext.alloc ?_ _ | refine Ext.drew ?_ | refine Ext.drewN ?_ _ | (refine Ext.setCell ?_ (by simp <;> omega) _) | refine Ext.trans ?_ (by assumption)))
  · have HV : Hid (textE g k s = 3) := Lib.hid (by unfold textE; simp [hn])
    have HN : Hid (printsB k s = false) := Lib.hid (by simpa using hn)
    clear hn
    go_enter Tryz.func154, Tryz.ntmps154
    go_wp2_with (first | (go_at_call 161; refine Calls.mono (prints_any _ _ _ hk hs) ?_; rw [HN.out]; rintro e w1 ⟨rfl, hb⟩))
    go_ret
    exact Ret.mk' (by rw [HV.out]; rfl) (by repeat (first | exact Ext.refl _ | assumption | refine Ext.alloc ?_ _ | refine Ext.drew ?_ | refine Ext.drewN ?_ _ | (refine Ext.setCell ?_ (by simp <;> omega) _) | refine Ext.trans ?_ (by assumption)))

/-- The error of a sort, by what is known. -/
def knownErr (f g : List UInt8 → Option Int) (x : TS) : Int :=
  if nameE f x.name ≠ 0 then nameE f x.name else if ¬ (1 ≤ x.kind ∧ x.kind ≤ 3) then 15 else if ¬ (1 ≤ x.width ∧ x.width ≤ 100000) then 2 else textE g x.kind x.text
set_option maxHeartbeats 2000000 in
theorem sort_any (b1 b2 n : Nat) (f g : List UInt8 → Option Int) (x : TS) (w : World) (h1 : KM w b1 n f) (h2 : KM w b2 n g) (hn : x.name.size ≤ maxLen) (ht : x.text.size ≤ maxLen) :
    Calls Tryz.prog 133 #[knownV b1 b2, x.val] w (Ret (.int .i64 (knownErr f g x)) w) := by
  obtain ⟨nm, tx, k, wd⟩ := x
  simp only [TS.val, knownV] at *
  have HV : Hid (knownErr f g ⟨nm, tx, k, wd⟩ = if nameE f nm ≠ 0 then nameE f nm else if ¬ (1 ≤ k ∧ k ≤ 3) then 15 else if ¬ (1 ≤ wd ∧ wd ≤ 100000) then 2 else textE g k tx) := Lib.hid rfl
  have cn := fun W h => name_any b1 b2 n f nm W h hn
  have ct := fun W h hk => text_any b1 b2 n g k tx W hk h ht
  unfold knownV at cn ct
  generalize nameE f nm = z at *
  have CN := Lib.hid cn; clear cn
  have CT := Lib.hid ct; clear ct
  by_cases hz : z = 0
  · subst hz
    by_cases hk : 1 ≤ k ∧ k ≤ 3
    · by_cases hw : 1 ≤ wd ∧ wd ≤ 100000
      · go_enter Tryz.func133, Tryz.ntmps133
        go_wp2_with (first | (go_at_call 132; refine Calls.mono (within_yes _ _ _ _ ?_) ?_; (omega); rintro e w1 ⟨rfl, rfl⟩) | (go_at_call 132; refine Calls.mono (within_no _ _ _ _ ?_) ?_; (omega); rintro e w1 ⟨rfl, rfl⟩) | (go_at_call 153; refine Calls.mono (CN.out _ ?_) ?_; (exact h1.ext (by repeat (first | exact Ext.refl _ | assumption | refine Ext.alloc ?_ _ | refine Ext.drew ?_ | refine Ext.drewN ?_ _ | (refine Ext.setCell ?_ (by simp <;> omega) _) | refine Ext.trans ?_ (by assumption)))); rintro e w1 ⟨rfl, hb⟩; obtain ⟨hc, hf⟩ := hb.rules) | (go_at_call 154; refine Calls.mono (CT.out _ ?_ ?_) ?_; (exact h2.ext (Ext.trans (by repeat (first | exact Ext.refl _ | assumption | refine Ext.alloc ?_ _ | refine Ext.drew ?_ | refine Ext.drewN ?_ _ | (refine Ext.setCell ?_ (by simp <;> omega) _) | refine Ext.trans ?_ (by assumption))) hb)); (exact hk); rintro e w2 ⟨rfl, hb2⟩))
        go_ret
        exact Ret.mk' (by rw [HV.out]; simp [hk, hw]) ((Ext.trans (by repeat (first | exact Ext.refl _ | assumption | refine Ext.alloc ?_ _ | refine Ext.drew ?_ | refine Ext.drewN ?_ _ | (refine Ext.setCell ?_ (by simp <;> omega) _) | refine Ext.trans ?_ (by assumption))) hb).trans hb2)
      · go_enter Tryz.func133, Tryz.ntmps133
        go_wp2_with (first | (go_at_call 132; refine Calls.mono (within_yes _ _ _ _ ?_) ?_; (omega); rintro e w1 ⟨rfl, rfl⟩) | (go_at_call 132; refine Calls.mono (within_no _ _ _ _ ?_) ?_; (omega); rintro e w1 ⟨rfl, rfl⟩) | (go_at_call 153; refine Calls.mono (CN.out _ ?_) ?_; (exact h1.ext (by repeat (first | exact Ext.refl _ | assumption | refine Ext.alloc ?_ _ | refine Ext.drew ?_ | refine Ext.drewN ?_ _ | (refine Ext.setCell ?_ (by simp <;> omega) _) | refine Ext.trans ?_ (by assumption)))); rintro e w1 ⟨rfl, hb⟩; obtain ⟨hc, hf⟩ := hb.rules))
        go_ret
        exact Ret.mk' (by rw [HV.out]; simp [hk, hw]) (by repeat (first | exact Ext.refl _ | assumption | refine Ext.alloc ?_ _ | refine Ext.drew ?_ | refine Ext.drewN ?_ _ | (refine Ext.setCell ?_ (by simp <;> omega) _) | refine Ext.trans ?_ (by assumption)))
    · go_enter Tryz.func133, Tryz.ntmps133
      go_wp2_with (first | (go_at_call 132; refine Calls.mono (within_yes _ _ _ _ ?_) ?_; (omega); rintro e w1 ⟨rfl, rfl⟩) | (go_at_call 132; refine Calls.mono (within_no _ _ _ _ ?_) ?_; (omega); rintro e w1 ⟨rfl, rfl⟩) | (go_at_call 153; refine Calls.mono (CN.out _ ?_) ?_; (exact h1.ext (by repeat (first | exact Ext.refl _ | assumption | refine Ext.alloc ?_ _ | refine Ext.drew ?_ | refine Ext.drewN ?_ _ | (refine Ext.setCell ?_ (by simp <;> omega) _) | refine Ext.trans ?_ (by assumption)))); rintro e w1 ⟨rfl, hb⟩; obtain ⟨hc, hf⟩ := hb.rules))
      go_ret
      exact Ret.mk' (by rw [HV.out]; simp [hk]) (by repeat (first | exact Ext.refl _ | assumption | refine Ext.alloc ?_ _ | refine Ext.drew ?_ | refine Ext.drewN ?_ _ | (refine Ext.setCell ?_ (by simp <;> omega) _) | refine Ext.trans ?_ (by assumption)))
  · have e0 : (z != 0) = true := by simpa using hz
    go_enter Tryz.func133, Tryz.ntmps133
    go_wp2_with (first | (go_at_call 153; refine Calls.mono (CN.out _ ?_) ?_; (exact h1.ext (by repeat (first | exact Ext.refl _ | assumption | refine Ext.alloc ?_ _ | refine Ext.drew ?_ | refine Ext.drewN ?_ _ | (refine Ext.setCell ?_ (by simp <;> omega) _) | refine Ext.trans ?_ (by assumption)))); rintro e w1 ⟨rfl, hb⟩; obtain ⟨hc, hf⟩ := hb.rules))
    go_ret
    exact Ret.mk' (by rw [HV.out]; simp [hz]) (by repeat (first | exact Ext.refl _ | assumption | refine Ext.alloc ?_ _ | refine Ext.drew ?_ | refine Ext.drewN ?_ _ | (refine Ext.setCell ?_ (by simp <;> omega) _) | refine Ext.trans ?_ (by assumption)))

theorem knownErr_eq (ss : List TS) (n : Nat) (x : TS) (h : n ≤ ss.length) : knownErr (lookN ss n) (lookT ss n) x = sortErr ss n x := by
  unfold knownErr sortErr nameE textE textErr
  rw [lookN_some ss x.name n h, lookT_some ss x.text n h]
  by_cases h1 : nameB x.name = false
  · rw [if_pos h1, if_pos h1]; rfl
  · rw [if_neg h1, if_neg h1]
    by_cases h2 : hasName ss n x.name = true
    · rw [if_pos h2, if_pos h2]; rfl
    · rw [if_neg h2, if_neg h2]; rfl
end Go.Proofs.YtccdnieoaejgdaaGreatDoor
namespace Go.Proofs.YtccdnieoaejgdaaGreatDoor
open Go.RowKit

def putF (f : List UInt8 → Option Int) (s : ByteArray) (z : Int) : List UInt8 → Option Int := fun t => if t = s.data.toList then some z else f t
def putT (g : List UInt8 → Option Int) (x : TS) (z : Int) : List UInt8 → Option Int := if x.kind = 3 then g else putF g x.text z
def AddPost (b1 b2 n : Nat) (f g : List UInt8 → Option Int) (w : World) (e : Ending) (w' : World) : Prop :=
  e = .returned (.tuple #[]) ∧ KM w' b1 n f ∧ KM w' b2 n g ∧ But [b1, b2] w w'
set_option maxHeartbeats 2000000 in
theorem add_any (b1 b2 n : Nat) (f g : List UInt8 → Option Int) (x : TS) (z : Int) (w : World) (h1 : KM w b1 n f) (h2 : KM w b2 n g) (hne : b1 ≠ b2) (hn : x.name.size ≤ maxLen) (ht : x.text.size ≤ maxLen) (hz : I64 z) (hm : n + 1 < maxLen) :
    Calls Tryz.prog 134 #[knownV b1 b2, x.val, .int .i64 z] w (AddPost b1 b2 (n + 1) (putF f x.name z) (putT g x z) w) := by
  obtain ⟨nm, tx, k, wd⟩ := x
  simp only [TS.val, knownV] at *
  have l1 := h1.lt
  have l2 := h2.lt
  have hW : Ext w ((w.alloc (.cells #[.map (some b1), .map (some b2)] 168)).alloc (.cells #[.string nm, .string tx, .int .i64 k, .int .i64 wd] 88)) := (by repeat (first | exact Ext.refl _ | assumption | refine Ext.alloc ?_ _ | refine Ext.drew ?_ | refine Ext.drewN ?_ _ | (refine Ext.setCell ?_ (by simp <;> omega) _) | refine Ext.trans ?_ (by assumption)))
  obtain ⟨w1, hrun1, k1, g1⟩ := (h1.ext hW).put nm hn z hz (by omega)
  have B1 := (But.of_ext hW [b1, b2]).trans (But.grown (L := [b1, b2]) g1 (by simp))
  have k2 : KM w1 b2 n g := (h2.ext hW).kept g1 (by simp; omega)
  have a0 : Blk w1 w.heap.size 168 #[.map (some b1), .map (some b2)] := (((Blk.new w _ _).alloc _).but (But.grown (L := [b1, b2]) g1 (by simp)) (by simp; omega))
  have a1 : Blk w1 (w.heap.size + 1) 88 #[.string nm, .string tx, .int .i64 k, .int .i64 wd] := by
    have h := Blk.new (w.alloc (.cells #[.map (some b1), .map (some b2)] 168)) 88 #[.string nm, .string tx, .int .i64 k, .int .i64 wd]
    rw [World.size_alloc] at h
    exact h.but (But.grown (L := [b1, b2]) g1 (by simp)) (by simp; omega)
  have d0 := a0.cell 1 _ rfl
  have d1 := a1.cell 1 _ rfl
  have d2 := a1.cell 2 _ rfl
  clear a0 a1 hW
  have HT : Hid (putT g ⟨nm, tx, k, wd⟩ z = if k = 3 then g else putF g tx z) := Lib.hid rfl
  generalize putT g ⟨nm, tx, k, wd⟩ z = g' at *
  have K1 := Lib.hid k1; have K2 := Lib.hid k2; have b1' := Lib.hid B1; clear k1 k2 B1 g1 h1 h2
  by_cases h3 : k = 3
  · subst h3
    go_enter Tryz.func134, Tryz.ntmps134
    go_wp2
    go_end0
    exact ⟨rfl, K1.out, by rw [HT.out]; simpa using K2.out.mono (by omega), b1'.out⟩
  · have e3 : (k != 3) = true := by simpa using h3
    obtain ⟨w2, hrun2, k3, g2⟩ := K2.out.put tx ht z hz (by omega)
    have B2 := Lib.hid (b1'.out.trans (But.grown (L := [b1, b2]) g2 (by simp)))
    have K4 := Lib.hid (K1.out.kept g2 (by simp; omega))
    have K3 := Lib.hid k3; clear k3 g2
    go_enter Tryz.func134, Tryz.ntmps134
    go_wp2
    go_end0
    exact ⟨rfl, K4.out, by rw [HT.out, if_neg h3]; exact K3.out, B2.out⟩
end Go.Proofs.YtccdnieoaejgdaaGreatDoor
namespace Go.Proofs.YtccdnieoaejgdaaGreatDoor
open Go.RowKit

def ReadPost (f : FT) (n z : Int) (w : World) (e : Ending) (w' : World) : Prop :=
  ∃ b1 b2, e = .returned (.tuple #[knownV b1 b2, .int .i64 n, .int .i64 z]) ∧ Ext w w' ∧ (z = 0 → KM w' b1 f.sorts.length (lookN f.sorts f.sorts.length) ∧ KM w' b2 f.sorts.length (lookT f.sorts f.sorts.length))
set_option maxHeartbeats 4000000 in
set_option maxRecDepth 100000 in
theorem read_early (f : FT) (A : Option Addr) (c : Nat) (w : World) (hf : FR w A c f) (hbad : nameB f.name = false ∨ ¬ (1 ≤ f.body ∧ f.body ≤ 144) ∨ f.sorts.length = 0 ∨ 120 < f.sorts.length) :
    Calls Tryz.prog 102 #[f.val A c] w (ReadPost f (chk f).1 (chk f).2 w) := by
  obtain ⟨name, body, ss⟩ := f
  have hnm := hf.nm
  have hbig := hf.rt.big
  simp only [FT.val] at *
  by_cases h1 : nameB name = false
  · have HC : Hid (chk ⟨name, body, ss⟩ = (0, 4)) := Lib.hid (by unfold chk; simp [h1])
    rw [HC.out]
    have HN := Lib.hid h1; clear h1 hbad hf
    go_enter Tryz.func102, Tryz.ntmps102
    go_wp2_with (first | (go_at_call 130; refine Calls.mono (newKnown_any _) ?_; rintro e w1 ⟨b1, b2, rfl, hne, l1, l2, k1, k2, hb⟩; unfold knownV; have F1 := ((Blk.new _ _ _).alloc _).ext hb; have R1 := (Blk.new1 _ _ _ _).ext hb; have l1' := k1.lt; have l2' := k2.lt; obtain ⟨f0, f1, f2, fl⟩ := F1.c3; obtain ⟨r0, r1, r2, r3, rl⟩ := R1.c2) | (go_at_call 131; refine Calls.mono (isName_any _ _ hnm) ?_; rw [HN.out]; rintro e w2 ⟨rfl, hb2⟩; have F2 := (F1.alloc _).ext hb2; have R2 := (R1.alloc _).ext hb2; have K2 := (Blk.new _ _ _).ext hb2; obtain ⟨f0', f1', f2', fl'⟩ := F2.c3; obtain ⟨r0', r1', r2', r3', rl'⟩ := R2.c2; obtain ⟨k0', k1', k2', k3', kl'⟩ := K2.c2))
    refine bodyPost_ret (v := .tuple #[knownV b1 b2, .int .i64 0, .int .i64 4]) (by simp [results, Tryz.results102, go_sem, knownV, r0', r1']) rfl ⟨b1, b2, rfl, ?_, fun h => absurd h (by omega)⟩
    exact Ext.setCell (Ext.setCell (Ext.trans (Ext.alloc (Ext.trans (by repeat (first | exact Ext.refl _ | assumption | refine Ext.alloc ?_ _ | refine Ext.drew ?_ | refine Ext.drewN ?_ _ | (refine Ext.setCell ?_ (by simp <;> omega) _) | refine Ext.trans ?_ (by assumption))) hb) _) hb2) (by simp) _) (by simp) _
  have HN : Hid (nameB name = true) := Lib.hid (by simpa using h1)
  have e1 : ¬ nameB name = false := h1
  by_cases hb0 : 1 ≤ body ∧ body ≤ 144
  · rcases (show ss.length = 0 ∨ 120 < ss.length by rcases hbad with h | h | h | h; exact absurd h h1; exact absurd hb0 h; exact .inl h; exact .inr h) with hl | hl
    · have HC : Hid (chk ⟨name, body, ss⟩ = (0, 10)) := Lib.hid (by unfold chk; simp [e1, hb0, hl])
      rw [HC.out]
      clear h1 e1 hbad hf HC
      rw [hl]; clear hl hbig
      go_enter Tryz.func102, Tryz.ntmps102
      go_wp2_with (first | (go_at_call 132; refine Calls.mono (within_yes _ _ _ _ ?_) ?_; (omega); rintro e w1 ⟨rfl, rfl⟩) | (go_at_call 132; refine Calls.mono (within_no _ _ _ _ ?_) ?_; (omega); rintro e w1 ⟨rfl, rfl⟩) | (go_at_call 130; refine Calls.mono (newKnown_any _) ?_; rintro e w1 ⟨b1, b2, rfl, hne, l1, l2, k1, k2, hb⟩; unfold knownV; have F1 := ((Blk.new _ _ _).alloc _).ext hb; have R1 := (Blk.new1 _ _ _ _).ext hb; have l1' := k1.lt; have l2' := k2.lt; obtain ⟨f0, f1, f2, fl⟩ := F1.c3; obtain ⟨r0, r1, r2, r3, rl⟩ := R1.c2) | (go_at_call 131; refine Calls.mono (isName_any _ _ hnm) ?_; rw [HN.out]; rintro e w2 ⟨rfl, hb2⟩; have F2 := (F1.alloc _).ext hb2; have R2 := (R1.alloc _).ext hb2; have K2 := (Blk.new _ _ _).ext hb2; obtain ⟨f0', f1', f2', fl'⟩ := F2.c3; obtain ⟨r0', r1', r2', r3', rl'⟩ := R2.c2; obtain ⟨k0', k1', k2', k3', kl'⟩ := K2.c2))
      refine bodyPost_ret (v := .tuple #[knownV b1 b2, .int .i64 0, .int .i64 10]) (by simp [results, Tryz.results102, go_sem, knownV, r0', r1']) rfl ⟨b1, b2, rfl, ?_, fun h => absurd h (by omega)⟩
      exact Ext.setCell (Ext.setCell (Ext.trans (Ext.alloc (Ext.trans (by repeat (first | exact Ext.refl _ | assumption | refine Ext.alloc ?_ _ | refine Ext.drew ?_ | refine Ext.drewN ?_ _ | (refine Ext.setCell ?_ (by simp <;> omega) _) | refine Ext.trans ?_ (by assumption))) hb) _) hb2) (by simp) _) (by simp) _
    · have HC : Hid (chk ⟨name, body, ss⟩ = (0, 8)) := Lib.hid (by unfold chk; simp only [if_neg e1, if_neg (show ¬ ¬ (1 ≤ body ∧ body ≤ 144) by simpa using hb0), if_neg (show ¬ ss.length = 0 by omega), if_pos hl])
      rw [HC.out]
      have hl1 : (120 : Int) < (ss.length : Int) := by omega
      have hl2 : ((ss.length : Int) == 0) = false := (by rw [beq_eq_false_iff_ne]; omega)
      clear h1 e1 hbad hf HC
      go_enter Tryz.func102, Tryz.ntmps102
      go_wp2_with (first | (go_at_call 132; refine Calls.mono (within_yes _ _ _ _ ?_) ?_; (omega); rintro e w1 ⟨rfl, rfl⟩) | (go_at_call 132; refine Calls.mono (within_no _ _ _ _ ?_) ?_; (omega); rintro e w1 ⟨rfl, rfl⟩) | (go_at_call 130; refine Calls.mono (newKnown_any _) ?_; rintro e w1 ⟨b1, b2, rfl, hne, l1, l2, k1, k2, hb⟩; unfold knownV; have F1 := ((Blk.new _ _ _).alloc _).ext hb; have R1 := (Blk.new1 _ _ _ _).ext hb; have l1' := k1.lt; have l2' := k2.lt; obtain ⟨f0, f1, f2, fl⟩ := F1.c3; obtain ⟨r0, r1, r2, r3, rl⟩ := R1.c2) | (go_at_call 131; refine Calls.mono (isName_any _ _ hnm) ?_; rw [HN.out]; rintro e w2 ⟨rfl, hb2⟩; have F2 := (F1.alloc _).ext hb2; have R2 := (R1.alloc _).ext hb2; have K2 := (Blk.new _ _ _).ext hb2; obtain ⟨f0', f1', f2', fl'⟩ := F2.c3; obtain ⟨r0', r1', r2', r3', rl'⟩ := R2.c2; obtain ⟨k0', k1', k2', k3', kl'⟩ := K2.c2))
      refine bodyPost_ret (v := .tuple #[knownV b1 b2, .int .i64 0, .int .i64 8]) (by simp [results, Tryz.results102, go_sem, knownV, r0', r1']) rfl ⟨b1, b2, rfl, ?_, fun h => absurd h (by omega)⟩
      exact Ext.setCell (Ext.setCell (Ext.trans (Ext.alloc (Ext.trans (by repeat (first | exact Ext.refl _ | assumption | refine Ext.alloc ?_ _ | refine Ext.drew ?_ | refine Ext.drewN ?_ _ | (refine Ext.setCell ?_ (by simp <;> omega) _) | refine Ext.trans ?_ (by assumption))) hb) _) hb2) (by simp) _) (by simp) _
  · have HC : Hid (chk ⟨name, body, ss⟩ = (0, 2)) := Lib.hid (by unfold chk; simp only [if_neg e1, if_pos hb0])
    rw [HC.out]
    clear h1 e1 hbad hf HC
    go_enter Tryz.func102, Tryz.ntmps102
    go_wp2_with (first | (go_at_call 132; refine Calls.mono (within_yes _ _ _ _ ?_) ?_; (omega); rintro e w1 ⟨rfl, rfl⟩) | (go_at_call 132; refine Calls.mono (within_no _ _ _ _ ?_) ?_; (omega); rintro e w1 ⟨rfl, rfl⟩) | (go_at_call 130; refine Calls.mono (newKnown_any _) ?_; rintro e w1 ⟨b1, b2, rfl, hne, l1, l2, k1, k2, hb⟩; unfold knownV; have F1 := ((Blk.new _ _ _).alloc _).ext hb; have R1 := (Blk.new1 _ _ _ _).ext hb; have l1' := k1.lt; have l2' := k2.lt; obtain ⟨f0, f1, f2, fl⟩ := F1.c3; obtain ⟨r0, r1, r2, r3, rl⟩ := R1.c2) | (go_at_call 131; refine Calls.mono (isName_any _ _ hnm) ?_; rw [HN.out]; rintro e w2 ⟨rfl, hb2⟩; have F2 := (F1.alloc _).ext hb2; have R2 := (R1.alloc _).ext hb2; have K2 := (Blk.new _ _ _).ext hb2; obtain ⟨f0', f1', f2', fl'⟩ := F2.c3; obtain ⟨r0', r1', r2', r3', rl'⟩ := R2.c2; obtain ⟨k0', k1', k2', k3', kl'⟩ := K2.c2))
    refine bodyPost_ret (v := .tuple #[knownV b1 b2, .int .i64 0, .int .i64 2]) (by simp [results, Tryz.results102, go_sem, knownV, r0', r1']) rfl ⟨b1, b2, rfl, ?_, fun h => absurd h (by omega)⟩
    exact Ext.setCell (Ext.setCell (Ext.trans (Ext.alloc (Ext.trans (by repeat (first | exact Ext.refl _ | assumption | refine Ext.alloc ?_ _ | refine Ext.drew ?_ | refine Ext.drewN ?_ _ | (refine Ext.setCell ?_ (by simp <;> omega) _) | refine Ext.trans ?_ (by assumption))) hb) _) hb2) (by simp) _) (by simp) _

theorem chk_ok {f : FT} (h1 : nameB f.name = true) (h2 : 1 ≤ f.body ∧ f.body ≤ 144) (h3 : 1 ≤ f.sorts.length) (h4 : f.sorts.length ≤ 120) :
    chk f = match firstBad f.sorts f.sorts.length with | some k => ((k : Int), sortErr f.sorts k (f.sorts.getD k TS.zero)) | none => (0, 0) := by
  unfold chk
  rw [if_neg (by simp [h1]), if_neg (by simpa using h2), if_neg (by omega), if_neg (by omega)]
  all_goals rfl

/-- What holds at each round's head. -/
structure ReadRel (w : World) (F K b1 b2 : Nat) (name : ByteArray) (body : Int) (ss : List TS) (A : Option Addr) (c k : Nat) (wr : World) : Prop where
  ext : Ext w wr
  fb : Blk wr w.heap.size F #[.string name, .int .i64 body, .slice A ss.length c]
  rb : Blk wr (w.heap.size + 1) K #[.map none, .map none]
  m1 : KM wr b1 k (lookN ss k)
  m2 : KM wr b2 k (lookT ss k)

set_option maxHeartbeats 4000000 in
set_option maxRecDepth 100000 in
theorem read_loop (f : FT) (A : Option Addr) (c : Nat) (w : World) (hf : FR w A c f) (h1 : nameB f.name = true) (h2 : 1 ≤ f.body ∧ f.body ≤ 144) (h3 : 1 ≤ f.sorts.length) (h4 : f.sorts.length ≤ 120) :
    Calls Tryz.prog 102 #[f.val A c] w (ReadPost f (chk f).1 (chk f).2 w) := by
  obtain ⟨name, body, ss⟩ := f
  have hnm := hf.nm
  have HC := Lib.hid (chk_ok h1 h2 h3 h4)
  simp only [FT.val] at *
  have HN := Lib.hid h1; clear h1
  have HF := Lib.hid hf; clear hf
  have hl1 : ¬ (120 : Int) < (ss.length : Int) := by omega
  have hl2 : ((ss.length : Int) == 0) = false := (by rw [beq_eq_false_iff_ne]; omega)
  generalize chk ⟨name, body, ss⟩ = ch at *
  go_enter Tryz.func102, Tryz.ntmps102
  go_wp2_with (first | (go_at_call 132; refine Calls.mono (within_yes _ _ _ _ ?_) ?_; (omega); rintro e w1 ⟨rfl, rfl⟩) | (go_at_call 132; refine Calls.mono (within_no _ _ _ _ ?_) ?_; (omega); rintro e w1 ⟨rfl, rfl⟩) | (go_at_call 130; refine Calls.mono (newKnown_any _) ?_; rintro e w1 ⟨b1, b2, rfl, hne, l1, l2, k1, k2, hb⟩; unfold knownV; have F1 := ((Blk.new _ _ _).alloc _).ext hb; have R1 := (Blk.new1 _ _ _ _).ext hb; have l1' := k1.lt; have l2' := k2.lt; obtain ⟨f0, f1, f2, fl⟩ := F1.c3; obtain ⟨r0, r1, r2, r3, rl⟩ := R1.c2) | (go_at_call 131; refine Calls.mono (isName_any _ _ hnm) ?_; rw [HN.out]; rintro e w2 ⟨rfl, hb2⟩; have F2 := (F1.alloc _).ext hb2; have R2 := (R1.alloc _).ext hb2; have K2 := (Blk.new _ _ _).ext hb2; obtain ⟨f0', f1', f2', fl'⟩ := F2.c3; obtain ⟨r0', r1', r2', r3', rl'⟩ := R2.c2; obtain ⟨k0', k1', k2', k3', kl'⟩ := K2.c2))
  have lb1 : w.heap.size + 1 + 1 ≤ b1 := by simpa using l1
  have lb2 : w.heap.size + 1 + 1 ≤ b2 := by simpa using l2
  have hx2 : Ext w w2 := (by repeat (first | exact Ext.refl _ | assumption | refine Ext.alloc ?_ _ | refine Ext.drew ?_ | refine Ext.drewN ?_ _ | (refine Ext.setCell ?_ (by simp <;> omega) _) | refine Ext.trans ?_ (by assumption)))
  have hx1 : w.heap.size + 1 + 1 ≤ w1.heap.size := by have := hb.size; simpa using this
  have hM := w1.heap.size
  clear f0 f1 f2 fl r0 r1 r2 r3 rl F1 R1 l1 l2 f0' f1' f2' fl' r0' r1' r2' r3' rl' k0' k1' k2' k3'
  go_loopw [37] (fun i wr => ∃ k : Nat, k ≤ ss.length ∧ i = .int .i64 k ∧ cleanTo ss k ∧ ReadRel w 42 168 b1 b2 name body ss A c k wr ∧ Blk wr w1.heap.size 168 #[.map (some b1), .map (some b2)]) (fun i _ => ss.length - (intOf i).toNat)
  case atStart => exact ⟨0, Nat.zero_le _, rfl, fun k hk => absurd hk (by omega), ⟨hx2, F2, R2, (k1.ext (Ext.trans (Ext.alloc (Ext.refl _) _) hb2)), (k2.ext (Ext.trans (Ext.alloc (Ext.refl _) _) hb2))⟩, K2⟩
  case round =>
    obtain ⟨k, hk, rfl, hcl, hR, hK⟩ := hrel
    have HCL := Lib.hid hcl; clear hcl
    have HR := Lib.hid hR
    obtain ⟨kc0, kc1, _, _, kl⟩ := hK.c2
    by_cases hlt : k < ss.length
    · obtain ⟨hn, ht, _, _⟩ := HF.out.sz k hlt
      obtain ⟨b, off, rfl, hbw, hcell⟩ := (HF.out.rt.ext hR.ext).2.2 (by show 0 < ss.length; omega)
      obtain ⟨c1, c2, c3, c4⟩ := hcell k hlt
      have HX := Lib.hid (knownErr_eq ss k (ss.getD k TS.zero) hk)
      have HZ : Hid (putF (lookN ss k) (ss.getD k TS.zero).name k = lookN ss (k + 1) ∧ putT (lookT ss k) (ss.getD k TS.zero) k = lookT ss (k + 1)) := Lib.hid ⟨rfl, rfl⟩
      generalize hxd : ss.getD k TS.zero = x at *
      have HXD := Lib.hid hxd; clear hxd
      have HE := Lib.hid hR.ext; have HFb := Lib.hid hR.fb; have HRb := Lib.hid hR.rb; have HM1 := Lib.hid hR.m1; have HM2 := Lib.hid hR.m2; have HKb := Lib.hid hK
      have l1'' := hR.m1.lt
      have l2'' := hR.m2.lt
      clear F2 R2 K2 k1 k2 hb hb2 hK hR hcell
      have cS := fun W a1 a2 => sort_any b1 b2 k (lookN ss k) (lookT ss k) x W a1 a2 hn ht
      have cA := fun W a1 a2 => add_any b1 b2 k (lookN ss k) (lookT ss k) x (k : Int) W a1 a2 hne hn ht (by unfold I64; omega) (by unfold maxLen; omega)
      simp only [knownV, TS.val] at cS cA
      generalize knownErr (lookN ss k) (lookT ss k) x = z at *
      have CS := Lib.hid cS; clear cS
      have CA := Lib.hid cA; clear cA
      by_cases hz : z = 0
      · subst hz
        go_wp2_with (first | (go_at_call 133; refine Calls.mono (CS.out _ ?_ ?_) ?_; (exact HM1.out.ext (by repeat (first | exact Ext.refl _ | assumption | refine Ext.alloc ?_ _ | refine Ext.drew ?_ | refine Ext.drewN ?_ _ | (refine Ext.setCell ?_ (by simp <;> omega) _) | refine Ext.trans ?_ (by assumption)))); (exact HM2.out.ext (by repeat (first | exact Ext.refl _ | assumption | refine Ext.alloc ?_ _ | refine Ext.drew ?_ | refine Ext.drewN ?_ _ | (refine Ext.setCell ?_ (by simp <;> omega) _) | refine Ext.trans ?_ (by assumption)))); rintro e w3 ⟨rfl, hb3⟩; have S3 := (Blk.new _ _ _).ext hb3; have K3 := (HKb.out.alloc _).ext hb3; obtain ⟨kk0, kk1, _, _, _⟩ := K3.c2; obtain ⟨s0, s1, s2, s3, sl⟩ := S3.c4) | (go_at_call 134; refine Calls.mono (CA.out _ ?_ ?_) ?_; (exact HM1.out.ext (Ext.trans (by repeat (first | exact Ext.refl _ | assumption | refine Ext.alloc ?_ _ | refine Ext.drew ?_ | refine Ext.drewN ?_ _ | (refine Ext.setCell ?_ (by simp <;> omega) _) | refine Ext.trans ?_ (by assumption))) hb3)); (exact HM2.out.ext (Ext.trans (by repeat (first | exact Ext.refl _ | assumption | refine Ext.alloc ?_ _ | refine Ext.drew ?_ | refine Ext.drewN ?_ _ | (refine Ext.setCell ?_ (by simp <;> omega) _) | refine Ext.trans ?_ (by assumption))) hb3)); rintro e w4 ⟨rfl, m1, m2, hB⟩))
        go_roundw
        case rel =>
          rw [HZ.out.1] at m1; rw [HZ.out.2] at m2
          have hy : Ext wr w3 := Ext.trans (by repeat (first | exact Ext.refl _ | assumption | refine Ext.alloc ?_ _ | refine Ext.drew ?_ | refine Ext.drewN ?_ _ | (refine Ext.setCell ?_ (by simp <;> omega) _) | refine Ext.trans ?_ (by assumption))) hb3
          refine ⟨k + 1, by omega, by go_num, cleanTo_succ HCL.out (by rw [HXD.out]; exact HX.out.symm), ⟨But.ext (HE.out.trans hy) hB (by simp; omega), (HFb.out.ext hy).but hB (by simp; omega), (HRb.out.ext hy).but hB (by simp; omega), m1, m2⟩, (HKb.out.ext hy).but hB (by simp; omega)⟩
        case measure => simp [intOf]; omega
      · have e0 : (z != 0) = true := by simpa using hz
        obtain ⟨r0, r1, r2, r3, rl⟩ := HRb.out.c2
        go_wp2_with (first | (go_at_call 133; refine Calls.mono (CS.out _ ?_ ?_) ?_; (exact HM1.out.ext (by repeat (first | exact Ext.refl _ | assumption | refine Ext.alloc ?_ _ | refine Ext.drew ?_ | refine Ext.drewN ?_ _ | (refine Ext.setCell ?_ (by simp <;> omega) _) | refine Ext.trans ?_ (by assumption)))); (exact HM2.out.ext (by repeat (first | exact Ext.refl _ | assumption | refine Ext.alloc ?_ _ | refine Ext.drew ?_ | refine Ext.drewN ?_ _ | (refine Ext.setCell ?_ (by simp <;> omega) _) | refine Ext.trans ?_ (by assumption)))); rintro e w3 ⟨rfl, hb3⟩; have S3 := (Blk.new _ _ _).ext hb3; have K3 := (HKb.out.alloc _).ext hb3; obtain ⟨kk0, kk1, _, _, _⟩ := K3.c2; have R3 := (HRb.out.alloc _).ext hb3; obtain ⟨rr0, rr1, rr2, rr3, _⟩ := R3.c2; obtain ⟨s0, s1, s2, s3, sl⟩ := S3.c4))
        have hch : ch = ((k : Int), z) := by
          rw [HC.out, firstBad_some HCL.out hlt (by rw [HXD.out, ← HX.out]; exact hz)]
          simp only
          rw [HXD.out, ← HX.out]
        rw [hch]
        refine bodyPost_ret (v := .tuple #[knownV b1 b2, .int .i64 k, .int .i64 z]) (by simp [results, Tryz.results102, go_sem, knownV, rr0, rr1]) rfl ⟨b1, b2, rfl, ?_, fun h => absurd h hz⟩
        exact Ext.setCell (Ext.setCell (HE.out.trans (Ext.trans (by repeat (first | exact Ext.refl _ | assumption | refine Ext.alloc ?_ _ | refine Ext.drew ?_ | refine Ext.drewN ?_ _ | (refine Ext.setCell ?_ (by simp <;> omega) _) | refine Ext.trans ?_ (by assumption))) hb3)) (by simp) _) (by simp) _
    · obtain rfl : k = ss.length := by omega
      have hrb := hR.rb
      obtain ⟨r0, r1, r2, r3, rl⟩ := hrb.c2
      clear F2 R2 K2 k1 k2 hb hb2 hK hR hrb
      go_wp2
      have hch : ch = (0, 0) := by rw [HC.out, firstBad_none HCL.out]
      rw [hch]
      refine bodyPost_ret (v := .tuple #[knownV b1 b2, .int .i64 0, .int .i64 0]) (by simp [results, Tryz.results102, go_sem, knownV, r0, r1]) rfl ⟨b1, b2, rfl, ?_, fun _ => ⟨?_, ?_⟩⟩
      · exact Ext.setCell (Ext.setCell HR.out.ext (by simp) _) (by simp) _
      · exact (HR.out.m1.but (But.setCell _ _ _) (by simp; omega)).but (But.setCell _ _ _) (by simp; omega)
      · exact (HR.out.m2.but (But.setCell _ _ _) (by simp; omega)).but (But.setCell _ _ _) (by simp; omega)

theorem read_any (f : FT) (A : Option Addr) (c : Nat) (w : World) (hf : FR w A c f) :
    Calls Tryz.prog 102 #[f.val A c] w (ReadPost f (chk f).1 (chk f).2 w) := by
  by_cases h1 : nameB f.name = true
  · by_cases h2 : 1 ≤ f.body ∧ f.body ≤ 144
    · by_cases h3 : 1 ≤ f.sorts.length ∧ f.sorts.length ≤ 120
      · exact read_loop f A c w hf h1 h2 h3.1 h3.2
      · exact read_early f A c w hf (by omega)
    · exact read_early f A c w hf (by omega)
  · exact read_early f A c w hf (.inl (by simpa using h1))

/-- What CheckFount returns. -/
def ChkV (f : FT) : Value := .tuple #[.int .i64 (chk f).1, .int .i64 (chk f).2]
set_option maxHeartbeats 1000000 in
theorem checkFount_any (f : FT) (A : Option Addr) (c : Nat) (w : World) (hf : FR w A c f) :
    Calls Tryz.prog 68 #[f.val A c] w (Ret (ChkV f) w) := by
  have cR := fun W h => read_any f A c W h
  unfold ChkV
  generalize (chk f).1 = n at *
  generalize (chk f).2 = z at *
  have HF := Lib.hid hf; clear hf
  obtain ⟨name, body, ss⟩ := f
  simp only [FT.val] at *
  have CR := Lib.hid cR; clear cR
  go_enter Tryz.func68, Tryz.ntmps68
  go_wp2_with (first | (go_at_call 102; refine Calls.mono (CR.out _ ?_) ?_; (exact HF.out.ext (by repeat (first | exact Ext.refl _ | assumption | refine Ext.alloc ?_ _ | refine Ext.drew ?_ | refine Ext.drewN ?_ _ | (refine Ext.setCell ?_ (by simp <;> omega) _) | refine Ext.trans ?_ (by assumption)))); rintro e w1 ⟨b1, b2, rfl, hb, hk⟩; unfold knownV; have F1 := (Blk.new _ _ _).ext hb; clear hk))
  go_ret2
  exact Ret.mk' rfl (by repeat (first | exact Ext.refl _ | assumption | refine Ext.alloc ?_ _ | refine Ext.drew ?_ | refine Ext.drewN ?_ _ | (refine Ext.setCell ?_ (by simp <;> omega) _) | refine Ext.trans ?_ (by assumption)))
end Go.Proofs.YtccdnieoaejgdaaGreatDoor
