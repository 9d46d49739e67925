/-
  Walks: the reference's IsSpace and TextOf.
-/
import Derived.Test.YtaopcpfgmjpliaaDoorNeed
namespace Go.Proofs.YtaopcpfgmjpliaaDoor
open Go.RowKit

set_option maxRecDepth 100000 in
set_option maxHeartbeats 2000000 in
theorem rIsSpace_any (f : FT) (A : Option Addr) (c : Nat) (j : Nat) (b : Bool) (w : World) (hf : FR w A c f) (hj : j < f.sorts.length) (hb : decide ((f.sorts.getD j TS.zero).kind = 3) = b) :
    Calls Tryd.prog 28 #[f.val A c, .int .i64 j] w (Ret (.bool b) w) := by
  obtain ⟨name, body, ss⟩ := f
  simp only [FT.val] at *
  obtain ⟨b', off', rfl, hbw', hcell'⟩ := hf.rt.2.2 (by show 0 < ss.length; omega)
  have c2 := (hcell' j hj).2.2.1
  have hji : (j : Int) < (ss.length : Int) := by omega
  clear hcell' hf
  generalize (ss.getD j TS.zero).kind = y at *
  cases b
  · have e0 : (y == 3) = false := by simpa using hb
    clear hb
    go_enter Tryd.func28, Tryd.ntmps28
    go_wp2
    go_ret
    exact Ret.mk' rfl (by repeat (first | exact Ext.refl _ | assumption | refine Ext.alloc ?_ _ | refine Ext.drew ?_ | refine Ext.drewN ?_ _ | (refine Ext.setCell ?_ (by simp <;> omega) _) | refine Ext.trans ?_ (by assumption)))
  · have e0 : y = 3 := by simpa using hb
    subst e0
    clear hb
    go_enter Tryd.func28, Tryd.ntmps28
    go_wp2
    go_ret
    exact Ret.mk' rfl (by repeat (first | exact Ext.refl _ | assumption | refine Ext.alloc ?_ _ | refine Ext.drew ?_ | refine Ext.drewN ?_ _ | (refine Ext.setCell ?_ (by simp <;> omega) _) | refine Ext.trans ?_ (by assumption)))
theorem text_nil {f : FT} (h : (chk f).2 = 0) {k : Nat} (hk : k < f.sorts.length) (h3 : (f.sorts.getD k TS.zero).kind = 3) : (f.sorts.getD k TS.zero).text.data.toList = [] := by
  have h5 := (sort_ok h hk).2.2.2.2
  generalize f.sorts.getD k TS.zero = x at *
  unfold textErr at h5
  by_cases hp : printsB x.kind x.text = false
  · rw [if_pos hp] at h5; exact absurd h5 (by decide)
  · have hp' : printsB x.kind x.text = true := by simpa using hp
    unfold printsB at hp'
    simp only [Bool.and_eq_true, decide_eq_true_eq] at hp'
    have h2 := hp'.1.2
    rw [h3] at h2
    have h6 : printHi 3 = 0 := rfl
    have h4 : x.text.size = 0 := by omega
    exact List.eq_nil_of_length_eq_zero h4
theorem cat_blank (a : ByteArray) : (a ++ ⟨#[32]⟩).data.toList = a.data.toList ++ [32] := strAdd a ⟨#[32]⟩
theorem cat_size (a b : ByteArray) : (a ++ b).size = a.size + b.size := ByteArray.size_append
end Go.Proofs.YtaopcpfgmjpliaaDoor
