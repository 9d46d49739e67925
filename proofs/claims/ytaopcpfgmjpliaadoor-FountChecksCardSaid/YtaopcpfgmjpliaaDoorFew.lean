/-
  Walks: the fount of the examples, and which founts a statement looks at.
-/
import Derived.Test.YtaopcpfgmjpliaaDoorBase
namespace Go.Proofs.YtaopcpfgmjpliaaDoor
open Go.RowKit

def roman : FT := ⟨⟨#[114, 111, 109]⟩, 10, [⟨⟨#[97]⟩, ⟨#[97]⟩, 1, 300⟩, ⟨⟨#[98]⟩, ⟨#[98]⟩, 1, 330⟩, ⟨⟨#[102, 105]⟩, ⟨#[102, 105]⟩, 2, 360⟩, ⟨⟨#[116, 104, 105, 99, 107]⟩, ⟨#[]⟩, 3, 200⟩, ⟨⟨#[116, 104, 105, 110]⟩, ⟨#[]⟩, 3, 120⟩]⟩
/-- The call hands back a fount that reads as f. -/
def RetF (f : FT) (w : World) (e : Ending) (w' : World) : Prop := ∃ A c, e = .returned (f.val A c) ∧ FR w' A c f ∧ Ext w w'
theorem roman_sz : ∀ k, k < 5 → (roman.sorts.getD k TS.zero).name.size ≤ maxLen ∧ (roman.sorts.getD k TS.zero).text.size ≤ maxLen ∧ I64 (roman.sorts.getD k TS.zero).kind ∧ I64 (roman.sorts.getD k TS.zero).width := by
  intro k hk
  rcases (show k = 0 ∨ k = 1 ∨ k = 2 ∨ k = 3 ∨ k = 4 by omega) with rfl | rfl | rfl | rfl | rfl <;> exact ⟨by decide, by decide, by unfold I64; decide, by unfold I64; decide⟩
set_option maxHeartbeats 1000000 in
theorem roman_any (w : World) : Calls Tryd.prog 15 #[] w (RetF roman w) := by
  go_enter Tryd.func15, Tryd.ntmps15
  go_wp2
  refine bodyPost_ret (v := roman.val (some ⟨w.heap.size + 1, 0, none⟩) 5) (by simp [results, Tryd.results15, go_sem, FT.val, roman]) rfl ⟨_, _, rfl, ⟨⟨rfl, by decide, fun _ => ⟨w.heap.size + 1, 0, rfl, by simp, ?_⟩⟩, by decide, roman_sz, by unfold I64; decide, by decide⟩, (by repeat (first | exact Ext.refl _ | assumption | refine Ext.alloc ?_ _ | refine Ext.drew ?_ | refine Ext.drewN ?_ _ | (refine Ext.setCell ?_ (by simp <;> omega) _) | refine Ext.trans ?_ (by assumption)))⟩
  intro k hk
  have hk : k < 5 := hk
  have hB := Blk.new1 w (.cells #[.string ⟨#[114, 111, 109]⟩, .int .i64 10, .slice (some ⟨w.heap.size + 1, 0, none⟩) 5 5] 24) 48 #[.string ⟨#[97]⟩, .string ⟨#[97]⟩, .int .i64 1, .int .i64 300, .string ⟨#[98]⟩, .string ⟨#[98]⟩, .int .i64 1, .int .i64 330, .string ⟨#[102, 105]⟩, .string ⟨#[102, 105]⟩, .int .i64 2, .int .i64 360, .string ⟨#[116, 104, 105, 99, 107]⟩, .string ⟨#[]⟩, .int .i64 3, .int .i64 200, .string ⟨#[116, 104, 105, 110]⟩, .string ⟨#[]⟩, .int .i64 3, .int .i64 120]
  rcases (show k = 0 ∨ k = 1 ∨ k = 2 ∨ k = 3 ∨ k = 4 by omega) with rfl | rfl | rfl | rfl | rfl <;> exact ⟨hB.cell _ _ rfl, hB.cell _ _ rfl, hB.cell _ _ rfl, hB.cell _ _ rfl⟩

/-- Few: at most 10 sorts, or too many, with short names and texts. -/
def shortTo (ss : List TS) (n : Nat) : Prop := ∀ k, k < n → (ss.getD k TS.zero).name.size ≤ 20 ∧ (ss.getD k TS.zero).text.size ≤ 10
def FewP (f : FT) : Prop := f.name.size ≤ 20 ∧ (f.sorts.length ≤ 10 ∨ (120 < f.sorts.length ∧ f.sorts.length ≤ 123)) ∧ shortTo f.sorts f.sorts.length
def fewB (f : FT) : Bool := decide (f.name.size ≤ 20) && (decide (f.sorts.length ≤ 10) || (decide (120 < f.sorts.length) && decide (f.sorts.length ≤ 123))) && (List.range f.sorts.length).all fun k => decide ((f.sorts.getD k TS.zero).name.size ≤ 20) && decide ((f.sorts.getD k TS.zero).text.size ≤ 10)
theorem fewB_true {f : FT} : fewB f = true ↔ FewP f := by
  unfold fewB FewP shortTo
  simp only [Bool.and_eq_true, Bool.or_eq_true, decide_eq_true_eq, List.all_eq_true, List.mem_range, and_assoc]
theorem fewB_false {f : FT} : fewB f = false ↔ ¬ FewP f := by rw [← fewB_true, Bool.not_eq_true]
set_option maxHeartbeats 2000000 in
set_option maxRecDepth 100000 in
theorem few_any (f : FT) (A : Option Addr) (c : Nat) (w : World) (hf : FR w A c f) :
    Calls Tryd.prog 5 #[f.val A c] w (Ret (.bool (fewB f)) w) := by
  have HT := Lib.hid (@fewB_true f)
  have HN := Lib.hid (@fewB_false f)
  have hP : Hid (FewP f ↔ f.name.size ≤ 20 ∧ (f.sorts.length ≤ 10 ∨ (120 < f.sorts.length ∧ f.sorts.length ≤ 123)) ∧ shortTo f.sorts f.sorts.length) := Lib.hid Iff.rfl
  have hbig := hf.rt.big
  have hnm := hf.nm
  have HF := Lib.hid hf; clear hf
  generalize fewB f = r at *
  generalize FewP f = P at *
  obtain ⟨name, body, ss⟩ := f
  simp only [FT.val, maxLen] at *
  by_cases hs : name.size ≤ 20 ∧ (ss.length ≤ 10 ∨ (120 < ss.length ∧ ss.length ≤ 123))
  · obtain ⟨hs1, hs2⟩ := hs
    have i1 : ¬ (20 : Int) < (name.size : Int) := by omega
    have go : ∀ (u : Unit), Calls Tryd.prog 5 #[.agg #[.string name, .int .i64 body, .slice A ss.length c]] w (Ret (.bool r) w) := fun _ => by
      rcases hs2 with h2 | ⟨h2, h3⟩
      all_goals
        first
          | (have i2 : ¬ (10 : Int) < (ss.length : Int) := by omega
             have i3 : ¬ (123 : Int) < (ss.length : Int) := by omega)
          | (have i2 : (10 : Int) < (ss.length : Int) := by omega
             have i3 : ¬ (ss.length : Int) ≤ 120 := by omega
             have i4 : ¬ (123 : Int) < (ss.length : Int) := by omega)
        have HS : Hid (ss.length ≤ 10 ∨ (120 < ss.length ∧ ss.length ≤ 123)) := Lib.hid (by omega)
        go_enter Tryd.func5, Tryd.ntmps5
        go_wp2
        go_loop [3] (fun i => ∃ k : Nat, k ≤ ss.length ∧ i = .int .i64 k ∧ shortTo ss k) (fun i => ss.length - (intOf i).toNat)
        case atStart => exact ⟨0, Nat.zero_le _, rfl, fun j hj => absurd hj (by omega)⟩
        case round =>
          obtain ⟨k, hk, rfl, hsh⟩ := hrel
          have HSH := Lib.hid hsh; clear hsh
          by_cases hlt : k < ss.length
          · obtain ⟨b, off, rfl, hbw, hcell⟩ := (HF.out.rt.ext (by repeat (first | exact Ext.refl _ | assumption | refine Ext.alloc ?_ _ | refine Ext.drew ?_ | refine Ext.drewN ?_ _ | (refine Ext.setCell ?_ (by simp <;> omega) _) | refine Ext.trans ?_ (by assumption))) : RT (w.alloc (.cells #[.string name, .int .i64 body, .slice A ss.length c] 24)) A ss.length ss).2.2 (by show 0 < ss.length; omega)
            obtain ⟨c1, c2, _, _⟩ := hcell k hlt
            have hki : (k : Int) < (ss.length : Int) := by omega
            have HK : Hid ((ss.getD k TS.zero).name.size ≤ 20 ∧ (ss.getD k TS.zero).text.size ≤ 10 → shortTo ss (k + 1)) := Lib.hid (fun he j hj => by
              by_cases hj' : j < k
              · exact HSH.out j hj'
              · obtain rfl : j = k := by omega
                exact he)
            have HB : Hid (¬ ((ss.getD k TS.zero).name.size ≤ 20 ∧ (ss.getD k TS.zero).text.size ≤ 10) → r = false) := Lib.hid (fun he => HN.out.2 (fun h => he ((hP.out.1 h).2.2 k hlt)))
            generalize ss.getD k TS.zero = x at *
            clear hcell
            by_cases hx : x.name.size ≤ 20
            · have j1 : ¬ (20 : Int) < (x.name.size : Int) := by omega
              by_cases hy : x.text.size ≤ 10
              · have j2 : ¬ (10 : Int) < (x.text.size : Int) := by omega
                go_wp2
                go_round
                case rel => exact ⟨k + 1, by omega, by go_num, HK.out ⟨hx, hy⟩⟩
                case measure => simp [intOf]; omega
              · have j2 : (10 : Int) < (x.text.size : Int) := by omega
                go_wp2
                go_ret
                exact Ret.mk' (by rw [HB.out (fun h => hy h.2)]; rfl) (by repeat (first | exact Ext.refl _ | assumption | refine Ext.alloc ?_ _ | refine Ext.drew ?_ | refine Ext.drewN ?_ _ | (refine Ext.setCell ?_ (by simp <;> omega) _) | refine Ext.trans ?_ (by assumption)))
            · have j1 : (20 : Int) < (x.name.size : Int) := by omega
              go_wp2
              go_ret
              exact Ret.mk' (by rw [HB.out (fun h => hx h.1)]; rfl) (by repeat (first | exact Ext.refl _ | assumption | refine Ext.alloc ?_ _ | refine Ext.drew ?_ | refine Ext.drewN ?_ _ | (refine Ext.setCell ?_ (by simp <;> omega) _) | refine Ext.trans ?_ (by assumption)))
          · obtain rfl : k = ss.length := by omega
            have HR : Hid (r = true) := Lib.hid (HT.out.2 (hP.out.2 ⟨hs1, HS.out, HSH.out⟩))
            go_wp2
            go_ret
            exact Ret.mk' (by rw [HR.out]; rfl) (by repeat (first | exact Ext.refl _ | assumption | refine Ext.alloc ?_ _ | refine Ext.drew ?_ | refine Ext.drewN ?_ _ | (refine Ext.setCell ?_ (by simp <;> omega) _) | refine Ext.trans ?_ (by assumption)))
    exact go ()
  · have HR : Hid (r = false) := Lib.hid (HN.out.2 (fun h => hs ⟨(hP.out.1 h).1, (hP.out.1 h).2.1⟩))
    by_cases h1 : name.size ≤ 20
    · have i1 : ¬ (20 : Int) < (name.size : Int) := by omega
      by_cases h2 : ss.length ≤ 120
      · have i2 : (10 : Int) < (ss.length : Int) := by omega
        have i3 : (ss.length : Int) ≤ 120 := by omega
        go_enter Tryd.func5, Tryd.ntmps5
        go_wp2
        go_ret
        exact Ret.mk' (by rw [HR.out]; rfl) (by repeat (first | exact Ext.refl _ | assumption | refine Ext.alloc ?_ _ | refine Ext.drew ?_ | refine Ext.drewN ?_ _ | (refine Ext.setCell ?_ (by simp <;> omega) _) | refine Ext.trans ?_ (by assumption)))
      · have i2 : (10 : Int) < (ss.length : Int) := by omega
        have i3 : ¬ (ss.length : Int) ≤ 120 := by omega
        have i4 : (123 : Int) < (ss.length : Int) := by omega
        go_enter Tryd.func5, Tryd.ntmps5
        go_wp2
        go_ret
        exact Ret.mk' (by rw [HR.out]; rfl) (by repeat (first | exact Ext.refl _ | assumption | refine Ext.alloc ?_ _ | refine Ext.drew ?_ | refine Ext.drewN ?_ _ | (refine Ext.setCell ?_ (by simp <;> omega) _) | refine Ext.trans ?_ (by assumption)))
    · have i1 : (20 : Int) < (name.size : Int) := by omega
      go_enter Tryd.func5, Tryd.ntmps5
      go_wp2
      go_ret
      exact Ret.mk' (by rw [HR.out]; rfl) (by repeat (first | exact Ext.refl _ | assumption | refine Ext.alloc ?_ _ | refine Ext.drew ?_ | refine Ext.drewN ?_ _ | (refine Ext.setCell ?_ (by simp <;> omega) _) | refine Ext.trans ?_ (by assumption)))
end Go.Proofs.YtaopcpfgmjpliaaDoor
