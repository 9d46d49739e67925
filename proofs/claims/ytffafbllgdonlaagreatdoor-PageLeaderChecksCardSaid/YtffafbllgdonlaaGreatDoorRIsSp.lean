/-
  Walk: the reference's IsSpace.
-/
import Derived.Test.YtffafbllgdonlaaGreatDoorGF
namespace Go.Proofs.YtffafbllgdonlaaGreatDoor
open Go.RowKit

set_option maxRecDepth 100000 in
set_option maxHeartbeats 2000000 in
theorem rIsSp_any (f : FT) (A : Option Addr) (c : Nat) (j : Nat) (b : Bool) (w : World) (hf : FR w A c f) (hj : j < f.sorts.length) (hb : decide ((f.sorts.getD j TS.zero).kind = 3) = b) :
    Calls Tryz.prog 60 #[f.val A c, .int .i64 j] w (Ret (.bool b) w) := by
  obtain ⟨name, body, ss⟩ := f
  simp only [FT.val] at *
  obtain ⟨b', off', rfl, hbw', hcell'⟩ := hf.rt.2.2 (by show 0 < ss.length; omega)
  have c2 := (hcell' j hj).2.2.1
  have hji : (j : Int) < (ss.length : Int) := by omega
  clear hcell' hf
  generalize (ss.getD j TS.zero).kind = y at *
  cases b
  · have e0 : (y == 3) = false := by simpa using hb
    clear hb
    go_enter Tryz.func60, Tryz.ntmps60
    go_wp2
    go_ret
    exact Ret.mk' rfl (by repeat (first | exact Ext.refl _ | assumption | refine Ext.alloc ?_ _ | refine Ext.drew ?_ | refine Ext.drewN ?_ _ | (refine Ext.setCell ?_ (by simp <;> omega) _) | refine Ext.trans ?_ (by assumption)))
  · have e0 : y = 3 := by simpa using hb
    subst e0
    clear hb
    go_enter Tryz.func60, Tryz.ntmps60
    go_wp2
    go_ret
    exact Ret.mk' rfl (by repeat (first | exact Ext.refl _ | assumption | refine Ext.alloc ?_ _ | refine Ext.drew ?_ | refine Ext.drewN ?_ _ | (refine Ext.setCell ?_ (by simp <;> omega) _) | refine Ext.trans ?_ (by assumption)))
end Go.Proofs.YtffafbllgdonlaaGreatDoor
