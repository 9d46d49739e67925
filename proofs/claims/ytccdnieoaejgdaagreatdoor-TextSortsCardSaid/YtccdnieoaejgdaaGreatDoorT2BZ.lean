/-
  Walk: which founts chapter 2's statements look at.
-/
import Derived.Test.YtccdnieoaejgdaaGreatDoorT2AD
set_option linter.unusedVariables false
set_option linter.unusedSimpArgs false
set_option linter.unusedSectionVars false
namespace Go.Proofs.YtccdnieoaejgdaaGreatDoor
open Go.RowKit

/-- Few: at most 20 sorts, or too many, with short names and texts. -/
def shortTo2 (ss : List TS) (n : Nat) : Prop := ∀ k, k < n → (ss.getD k TS.zero).name.size ≤ 30 ∧ (ss.getD k TS.zero).text.size ≤ 10
def FewP2 (f : FT) : Prop := f.name.size ≤ 30 ∧ (f.sorts.length ≤ 20 ∨ (120 < f.sorts.length ∧ f.sorts.length ≤ 122)) ∧ shortTo2 f.sorts f.sorts.length
def fewB2 (f : FT) : Bool := decide (f.name.size ≤ 30) && (decide (f.sorts.length ≤ 20) || (decide (120 < f.sorts.length) && decide (f.sorts.length ≤ 122))) && (List.range f.sorts.length).all fun k => decide ((f.sorts.getD k TS.zero).name.size ≤ 30) && decide ((f.sorts.getD k TS.zero).text.size ≤ 10)
theorem fewB2_true {f : FT} : fewB2 f = true ↔ FewP2 f := by
  unfold fewB2 FewP2 shortTo2
  simp only [Bool.and_eq_true, Bool.or_eq_true, decide_eq_true_eq, List.all_eq_true, List.mem_range, and_assoc]
theorem fewB2_false {f : FT} : fewB2 f = false ↔ ¬ FewP2 f := by rw [← fewB2_true, Bool.not_eq_true]
set_option maxHeartbeats 2000000 in
set_option maxRecDepth 100000 in
theorem few2_any (f : FT) (A : Option Addr) (c : Nat) (w : World) (hf : FR w A c f) :
    Calls Tryz.prog 23 #[f.val A c] w (Ret (.bool (fewB2 f)) w) := by
  have HT := Lib.hid (@fewB2_true f)
  have HN := Lib.hid (@fewB2_false f)
  have hP : Hid (FewP2 f ↔ f.name.size ≤ 30 ∧ (f.sorts.length ≤ 20 ∨ (120 < f.sorts.length ∧ f.sorts.length ≤ 122)) ∧ shortTo2 f.sorts f.sorts.length) := Lib.hid Iff.rfl
  have hbig := hf.rt.big
  have hnm := hf.nm
  have HF := Lib.hid hf; clear hf
  generalize fewB2 f = r at *
  generalize FewP2 f = P at *
  obtain ⟨name, body, ss⟩ := f
  simp only [FT.val, maxLen] at *
  by_cases hs : name.size ≤ 30 ∧ (ss.length ≤ 20 ∨ (120 < ss.length ∧ ss.length ≤ 122))
  · obtain ⟨hs1, hs2⟩ := hs
    have i1 : ¬ (30 : Int) < (name.size : Int) := by omega
    have go : ∀ (u : Unit), Calls Tryz.prog 23 #[.agg #[.string name, .int .i64 body, .slice A ss.length c]] w (Ret (.bool r) w) := fun _ => by
      rcases hs2 with h2 | ⟨h2, h3⟩
      all_goals
        first
          | (have i2 : ¬ (20 : Int) < (ss.length : Int) := by omega
             have i3 : ¬ (122 : Int) < (ss.length : Int) := by omega)
          | (have i2 : (20 : Int) < (ss.length : Int) := by omega
             have i3 : ¬ (ss.length : Int) ≤ 120 := by omega
             have i4 : ¬ (122 : Int) < (ss.length : Int) := by omega)
        have HS : Hid (ss.length ≤ 20 ∨ (120 < ss.length ∧ ss.length ≤ 122)) := Lib.hid (by omega)
        go_enter Tryz.func23, Tryz.ntmps23
        go_wp2
        go_loop [3] (fun i => ∃ k : Nat, k ≤ ss.length ∧ i = .int .i64 k ∧ shortTo2 ss k) (fun i => ss.length - (intOf i).toNat)
        case atStart => exact ⟨0, Nat.zero_le _, rfl, fun j hj => absurd hj (by omega)⟩
        case round =>
          obtain ⟨k, hk, rfl, hsh⟩ := hrel
          have HSH := Lib.hid hsh; clear hsh
          by_cases hlt : k < ss.length
          · obtain ⟨b, off, rfl, hbw, hcell⟩ := (HF.out.rt.ext (by repeat (first | exact Ext.refl _ | assumption | refine Ext.alloc ?_ _ | refine Ext.drew ?_ | refine Ext.drewN ?_ _ | (refine Ext.setCell ?_ (by simp <;> omega) _) | refine Ext.trans ?_ (by assumption))) : RT (w.alloc (.cells #[.string name, .int .i64 body, .slice A ss.length c] 42)) A ss.length ss).2.2 (by show 0 < ss.length; omega)
            obtain ⟨c1, c2, _, _⟩ := hcell k hlt
            have hki : (k : Int) < (ss.length : Int) := by omega
            have HK : Hid ((ss.getD k TS.zero).name.size ≤ 30 ∧ (ss.getD k TS.zero).text.size ≤ 10 → shortTo2 ss (k + 1)) := Lib.hid (fun he j hj => by
              by_cases hj' : j < k
              · exact HSH.out j hj'
              · obtain rfl : j = k := by omega
                exact he)
            have HB : Hid (¬ ((ss.getD k TS.zero).name.size ≤ 30 ∧ (ss.getD k TS.zero).text.size ≤ 10) → r = false) := Lib.hid (fun he => HN.out.2 (fun h => he ((hP.out.1 h).2.2 k hlt)))
            generalize ss.getD k TS.zero = x at *
            clear hcell
            by_cases hx : x.name.size ≤ 30
            · have j1 : ¬ (30 : Int) < (x.name.size : Int) := by omega
              by_cases hy : x.text.size ≤ 10
              · have j2 : ¬ (10 : Int) < (x.text.size : Int) := by omega
                go_wp2
                go_round
                case rel => exact ⟨k + 1, by omega, by go_num, HK.out ⟨hx, hy⟩⟩
                case measure => simp [intOf]; omega
              · have j2 : (10 : Int) < (x.text.size : Int) := by omega
                go_wp2
                go_ret
                exact Ret.mk' (by rw [HB.out (fun h => hy h.2)]; rfl) (by repeat (first | exact Ext.refl _ | assumption | refine Ext.alloc ?_ _ | refine Ext.drew ?_ | refine Ext.drewN ?_ _ | (refine Ext.setCell ?_ (by simp <;> omega) _) | refine Ext.trans ?_ (by assumption)))
            · have j1 : (30 : Int) < (x.name.size : Int) := by omega
              go_wp2
              go_ret
              exact Ret.mk' (by rw [HB.out (fun h => hx h.1)]; rfl) (by repeat (first | exact Ext.refl _ | assumption | refine Ext.alloc ?_ _ | refine Ext.drew ?_ | refine Ext.drewN ?_ _ | (refine Ext.setCell ?_ (by simp <;> omega) _) | refine Ext.trans ?_ (by assumption)))
          · obtain rfl : k = ss.length := by omega
            have HR : Hid (r = true) := Lib.hid (HT.out.2 (hP.out.2 ⟨hs1, HS.out, HSH.out⟩))
            go_wp2
            go_ret
            exact Ret.mk' (by rw [HR.out]; rfl) (by repeat (first | exact Ext.refl _ | assumption | refine Ext.alloc ?_ _ | refine Ext.drew ?_ | refine Ext.drewN ?_ _ | (refine Ext.setCell ?_ (by simp <;> omega) _) | refine Ext.trans ?_ (by assumption)))
    exact go ()
  · have HR : Hid (r = false) := Lib.hid (HN.out.2 (fun h => hs ⟨(hP.out.1 h).1, (hP.out.1 h).2.1⟩))
    by_cases h1 : name.size ≤ 30
    · have i1 : ¬ (30 : Int) < (name.size : Int) := by omega
      by_cases h2 : ss.length ≤ 120
      · have i2 : (20 : Int) < (ss.length : Int) := by omega
        have i3 : (ss.length : Int) ≤ 120 := by omega
        go_enter Tryz.func23, Tryz.ntmps23
        go_wp2
        go_ret
        exact Ret.mk' (by rw [HR.out]; rfl) (by repeat (first | exact Ext.refl _ | assumption | refine Ext.alloc ?_ _ | refine Ext.drew ?_ | refine Ext.drewN ?_ _ | (refine Ext.setCell ?_ (by simp <;> omega) _) | refine Ext.trans ?_ (by assumption)))
      · have i2 : (20 : Int) < (ss.length : Int) := by omega
        have i3 : ¬ (ss.length : Int) ≤ 120 := by omega
        have i4 : (122 : Int) < (ss.length : Int) := by omega
        go_enter Tryz.func23, Tryz.ntmps23
        go_wp2
        go_ret
        exact Ret.mk' (by rw [HR.out]; rfl) (by repeat (first | exact Ext.refl _ | assumption | refine Ext.alloc ?_ _ | refine Ext.drew ?_ | refine Ext.drewN ?_ _ | (refine Ext.setCell ?_ (by simp <;> omega) _) | refine Ext.trans ?_ (by assumption)))
    · have i1 : (30 : Int) < (name.size : Int) := by omega
      go_enter Tryz.func23, Tryz.ntmps23
      go_wp2
      go_ret
      exact Ret.mk' (by rw [HR.out]; rfl) (by repeat (first | exact Ext.refl _ | assumption | refine Ext.alloc ?_ _ | refine Ext.drew ?_ | refine Ext.drewN ?_ _ | (refine Ext.setCell ?_ (by simp <;> omega) _) | refine Ext.trans ?_ (by assumption)))
end Go.Proofs.YtccdnieoaejgdaaGreatDoor
