/-
  Walks: chapter 5: small helpers of the statements (Short, err).
-/
import Derived.Test.YtpkmapngdkkglaaGreatDoorOwnG
import Derived.Test.YtpkmapngdkkglaaGreatDoorAwake5
import Derived.Test.YtpkmapngdkkglaaGreatDoorPgRGal
import Derived.Test.YtpkmapngdkkglaaGreatDoorCopy
namespace Go.Proofs.YtpkmapngdkkglaaGreatDoor
open Go.RowKit

def ShP (n m : Nat) : Prop := (n ≤ 12 ∨ 200 < n ∧ n ≤ 202) ∧ (m ≤ 5 ∨ 40 < m ∧ m ≤ 42)
instance (n m : Nat) : Decidable (ShP n m) := by unfold ShP; infer_instance
def shortB (g : GT) : Bool := decide (ShP g.items.length g.notes.length)
theorem short_len {g : GT} (h : shortB g = true) : g.items.length ≤ 202 ∧ g.notes.length ≤ 42 := by
  have := of_decide_eq_true h
  unfold ShP at this
  omega
set_option maxRecDepth 100000 in
theorem short_any (g : GT) (a : GA) (w : World) : Calls Tryz.prog 10 #[g.val a] w (Ret (.bool (shortB g)) w) := by
  unfold GT.val shortB
  generalize g.items.length = n
  generalize g.notes.length = m
  rcases (show ((n : Int) ≤ 12) ∨ (¬ (n : Int) ≤ 12 ∧ (200 : Int) < n ∧ (n : Int) ≤ 202) ∨ (¬ (n : Int) ≤ 12 ∧ ¬ (200 : Int) < n) ∨ (¬ (n : Int) ≤ 12 ∧ (200 : Int) < n ∧ ¬ (n : Int) ≤ 202) by omega) with h1 | ⟨h1, h2, h3⟩ | ⟨h1, h2⟩ | ⟨h1, h2, h3⟩ <;>
  rcases (show ((m : Int) ≤ 5) ∨ (¬ (m : Int) ≤ 5 ∧ (40 : Int) < m ∧ (m : Int) ≤ 42) ∨ (¬ (m : Int) ≤ 5 ∧ ¬ (40 : Int) < m) ∨ (¬ (m : Int) ≤ 5 ∧ (40 : Int) < m ∧ ¬ (m : Int) ≤ 42) by omega) with k1 | ⟨k1, k2, k3⟩ | ⟨k1, k2⟩ | ⟨k1, k2, k3⟩
  all_goals
    have HV : Hid (ShP n m ↔ (n ≤ 12 ∨ 200 < n ∧ n ≤ 202) ∧ (m ≤ 5 ∨ 40 < m ∧ m ≤ 42)) := Lib.hid Iff.rfl
    go_enter Tryz.func10, Tryz.ntmps10
    go_wp2
    go_ret
    first
    | exact Ret.mk' (by rw [decide_eq_true (HV.out.2 (by omega))]; rfl) (by repeat (first | exact Ext.refl _ | assumption | refine Ext.alloc ?_ _ | refine Ext.drew ?_ | refine Ext.drewN ?_ _ | (refine Ext.setCell ?_ (by simp <;> omega) _) | refine Ext.trans ?_ (by assumption)))
    | exact Ret.mk' (by rw [decide_eq_false (fun h => by have := HV.out.1 h; omega)]; rfl) (by repeat (first | exact Ext.refl _ | assumption | refine Ext.alloc ?_ _ | refine Ext.drew ?_ | refine Ext.drewN ?_ _ | (refine Ext.setCell ?_ (by simp <;> omega) _) | refine Ext.trans ?_ (by assumption)))
set_option maxRecDepth 100000 in
theorem bErr_any (g : GT) (a : GA) (r : QT) (w : World) (hg : GR w a g) : Calls Tryz.prog 16 #[g.val a, r.val] w (Ret (.int .i64 (bookErr g r)) w) := by
  have cG := fun W h => rCheckGalley_any g a W h
  have cQ := fun W => rRules_any r W
  have HG := Lib.hid hg; clear hg
  unfold pairGV at cG
  by_cases hck : (chkG g).2 = 0
  case neg =>
    have HV : Hid (bookErr g r = (chkG g).2) := Lib.hid (by unfold bookErr; rw [if_pos hck])
    have e0 : ((chkG g).2 != 0) = true := by simpa using hck
    generalize bookErr g r = R at *
    generalize (chkG g).2 = z at *
    generalize (chkG g).1 = n1 at *
    simp only [GT.val, QT.val] at *
    have CG := Lib.hid cG; clear cG cQ hck
    go_enter Tryz.func16, Tryz.ntmps16
    go_wp2_with (first | (go_at_call 15; refine Calls.mono (CG.out _ (HG.out.ext (by repeat (first | exact Ext.refl _ | assumption | refine Ext.alloc ?_ _ | refine Ext.drew ?_ | refine Ext.drewN ?_ _ | (refine Ext.setCell ?_ (by simp <;> omega) _) | refine Ext.trans ?_ (by assumption))))) ?_; rintro e w1 ⟨rfl, hb⟩))
    go_ret
    exact Ret.mk' (by rw [HV.out]; rfl) (Ext.trans (by repeat (first | exact Ext.refl _ | assumption | refine Ext.alloc ?_ _ | refine Ext.drew ?_ | refine Ext.drewN ?_ _ | (refine Ext.setCell ?_ (by simp <;> omega) _) | refine Ext.trans ?_ (by assumption))) hb)
  case pos =>
    have HV : Hid (bookErr g r = chkQ r) := Lib.hid (by unfold bookErr; rw [if_neg (by simpa using hck)])
    rw [hck] at cG
    generalize bookErr g r = R at *
    generalize (chkG g).1 = n1 at *
    generalize chkQ r = z at *
    simp only [GT.val, QT.val] at *
    have CG := Lib.hid cG; have CQ := Lib.hid cQ; clear cG cQ hck
    go_enter Tryz.func16, Tryz.ntmps16
    go_wp2_with (first | (go_at_call 15; refine Calls.mono (CG.out _ (HG.out.ext (by repeat (first | exact Ext.refl _ | assumption | refine Ext.alloc ?_ _ | refine Ext.drew ?_ | refine Ext.drewN ?_ _ | (refine Ext.setCell ?_ (by simp <;> omega) _) | refine Ext.trans ?_ (by assumption))))) ?_; rintro e w1 ⟨rfl, hb⟩; have HX1 : Hid (Ext w w1) := Lib.hid (Ext.trans (by repeat (first | exact Ext.refl _ | assumption | refine Ext.alloc ?_ _ | refine Ext.drew ?_ | refine Ext.drewN ?_ _ | (refine Ext.setCell ?_ (by simp <;> omega) _) | refine Ext.trans ?_ (by assumption))) hb); have HBQ := Lib.hid ((Blk.new1 w _ 27 #[.int .i64 r.height, .int .i64 r.gap, .int .i64 r.widow, .int .i64 r.orphan]).ext hb); have q0 := HBQ.out.cell 0 _ rfl; have q1 := HBQ.out.cell 1 _ rfl; have q2 := HBQ.out.cell 2 _ rfl; have q3 := HBQ.out.cell 3 _ rfl; have ql := HBQ.out.lt; clear hb) | (go_at_call 59; refine Calls.mono (CQ.out _) ?_; rintro e w2 ⟨rfl, hb⟩))
    go_ret
    exact Ret.mk' (by rw [HV.out]; rfl) (HX1.out.trans hb)
end Go.Proofs.YtpkmapngdkkglaaGreatDoor
