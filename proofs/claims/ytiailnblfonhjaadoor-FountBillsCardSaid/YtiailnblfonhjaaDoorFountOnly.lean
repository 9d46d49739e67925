/-
  Walks: functions that only the fount's own laws reach (CheckCase, most).
-/
import Derived.Test.YtiailnblfonhjaaDoorOpen
namespace Go.Proofs.YtiailnblfonhjaaDoor
open Go.RowKit
set_option maxHeartbeats 1000000 in
theorem checkCase_any (f : FT) (A : Option Addr) (c : Nat) (B : Option Addr) (d : Nat) (zs : List Int) (w : World) (hf : FR w A c f) (h : RI w B zs.length zs) :
    Calls Tryd.prog 47 #[f.val A c, .slice B zs.length d] w (Ret (.int .i64 (caseErr f zs)) w) := by
  have cC := fun X W h1 h2 => check_any f A c X 1 1 [⟨B, d, zs⟩] W h1 h2
  rw [checkErr_one] at cC
  have HF := Lib.hid hf; have HR := Lib.hid h; clear hf h
  simp only at cC
  generalize caseErr f zs = z at *
  obtain ⟨name, body, ss⟩ := f
  simp only [FT.val] at *
  have CC := Lib.hid cC; clear cC
  go_enter Tryd.func47, Tryd.ntmps47
  go_wp2_with (first | (go_at_call 61; refine Calls.mono (CC.out _ _ ?_ ?_) ?_; (exact HF.out.ext (by repeat (first | exact Ext.refl _ | assumption | refine Ext.alloc ?_ _ | refine Ext.drew ?_ | refine Ext.drewN ?_ _ | (refine Ext.setCell ?_ (by simp <;> omega) _) | refine Ext.trans ?_ (by assumption)))); (exact RL.one (Blk.new1 _ _ _ _) (HR.out.ext (by repeat (first | exact Ext.refl _ | assumption | refine Ext.alloc ?_ _ | refine Ext.drew ?_ | refine Ext.drewN ?_ _ | (refine Ext.setCell ?_ (by simp <;> omega) _) | refine Ext.trans ?_ (by assumption))))); rintro e w1 ⟨rfl, hb⟩))
  go_ret
  exact Ret.mk' rfl (by repeat (first | exact Ext.refl _ | assumption | refine Ext.alloc ?_ _ | refine Ext.drew ?_ | refine Ext.drewN ?_ _ | (refine Ext.setCell ?_ (by simp <;> omega) _) | refine Ext.trans ?_ (by assumption)))

theorem most_any (x y : Int) (w : World) : Calls Tryd.prog 79 #[.int .i64 x, .int .i64 y] w (Same (.int .i64 (mostI x y)) w) := by
  have HL : Hid (mostI x y = max x y) := Lib.hid rfl
  generalize mostI x y = l at *
  go_enter Tryd.func79, Tryd.ntmps79
  go_wp2
  go_ret
  exact ⟨by rw [HL.out]; rfl, rfl⟩
end Go.Proofs.YtiailnblfonhjaaDoor
