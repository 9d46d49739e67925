/-
  Walk: the document's own fount, case and metal are as told (cast).
-/
import Derived.Test.YtphkffndhifdkaaPartedLaw
namespace Go.Proofs.Ytphkffndhifdkaa
open Go.RowKit

theorem roman_metal : metalOfV roman [1, 1, 0, 0, 0] = .tuple #[.int .i64 6300, .int .i64 0] := by kernel_rfl
theorem roman_cast : castV roman 20000 [1, 1, 0, 0, 0] = .tuple #[.int .i64 3, .int .i64 1100, .int .i64 0] := by kernel_rfl
theorem RI.blk {w : World} {g : Nat} {T : TypeId} {cs : Array Value} (zs : List Int) (hb : Blk w g T cs) (hl : zs.length ≤ 1000000) (h : ∀ k, k < zs.length → cs[k]? = some (.int .i64 (zs.getD k 0))) : RI w (some ⟨g, 0, none⟩) zs.length zs :=
  ⟨rfl, by omega, fun _ => ⟨g, 0, rfl, hb.lt, fun k hk => by rw [Nat.zero_add]; exact hb.cell k _ (h k hk)⟩⟩
theorem ri_cast {w : World} {g : Nat} {T : TypeId} (hb : Blk w g T #[.int .i64 1, .int .i64 1, .int .i64 0, .int .i64 0, .int .i64 0]) : RI w (some ⟨g, 0, none⟩) 5 [1, 1, 0, 0, 0] :=
  RI.blk [1, 1, 0, 0, 0] hb (by decide) fun k hk => by
    rcases (show k = 0 ∨ k = 1 ∨ k = 2 ∨ k = 3 ∨ k = 4 by simp at hk; omega) with rfl | rfl | rfl | rfl | rfl <;> rfl
set_option maxHeartbeats 1000000 in
theorem topCast_any (w : World) : Calls Try.prog 5 #[] w (Ret (.bool true) w) := by
  have cM := fun A c B d W h1 h2 => metalOf_any roman A c B d [1, 1, 0, 0, 0] W h1 h2
  have cC := fun A c B d W h1 h2 => cast_any roman A c 20000 B d [1, 1, 0, 0, 0] W h1 h2
  rw [roman_metal] at cM
  rw [roman_cast] at cC
  have CR := Lib.hid (fun W => roman_any W)
  generalize roman = r at *
  have CM := Lib.hid cM; have CC := Lib.hid cC; clear cM cC
  go_enter Try.func5, Try.ntmps5
  go_wp2_with (first | (go_at_call 18; refine Calls.mono (CR.out _) ?_; rintro e w1 ⟨A1, c1, rfl, hF, hb⟩; have HF := Lib.hid hF; clear hF) | (go_at_call 12; refine Calls.mono (CM.out _ _ _ _ _ ?_ ?_) ?_; (exact HF.out.ext (by repeat (first | exact Ext.refl _ | assumption | refine Ext.alloc ?_ _ | refine Ext.drew ?_ | refine Ext.drewN ?_ _ | (refine Ext.setCell ?_ (by simp <;> omega) _) | refine Ext.trans ?_ (by assumption)))); (exact ri_cast (Blk.new _ _ _)); rintro e w2 ⟨rfl, hb2⟩; have HX := Lib.hid (Ext.trans hb (Ext.trans (by repeat (first | exact Ext.refl _ | assumption | refine Ext.alloc ?_ _ | refine Ext.drew ?_ | refine Ext.drewN ?_ _ | (refine Ext.setCell ?_ (by simp <;> omega) _) | refine Ext.trans ?_ (by assumption))) hb2)); clear hb hb2 HF) | (go_at_call 16; refine Calls.mono (CC.out _ _ _ _ _ ?_ ?_) ?_; (exact HF.out.ext (by repeat (first | exact Ext.refl _ | assumption | refine Ext.alloc ?_ _ | refine Ext.drew ?_ | refine Ext.drewN ?_ _ | (refine Ext.setCell ?_ (by simp <;> omega) _) | refine Ext.trans ?_ (by assumption)))); (exact ri_cast (Blk.new _ _ _)); rintro e w2 ⟨rfl, hb2⟩))
  go_ret
  exact Ret.mk' rfl (HX.out.trans (Ext.trans hb (Ext.trans (by repeat (first | exact Ext.refl _ | assumption | refine Ext.alloc ?_ _ | refine Ext.drew ?_ | refine Ext.drewN ?_ _ | (refine Ext.setCell ?_ (by simp <;> omega) _) | refine Ext.trans ?_ (by assumption))) hb2)))
end Go.Proofs.Ytphkffndhifdkaa
