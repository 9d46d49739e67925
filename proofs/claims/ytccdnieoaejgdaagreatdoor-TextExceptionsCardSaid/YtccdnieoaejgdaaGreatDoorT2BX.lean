/-
  Walk: TextExceptions returns true.
-/
import Derived.Test.YtccdnieoaejgdaaGreatDoorT2BW
import Derived.Test.YtccdnieoaejgdaaGreatDoorT2BL
import Derived.Test.YtccdnieoaejgdaaGreatDoorT2BH
import Derived.Test.YtccdnieoaejgdaaGreatDoorT2BO
import Derived.Test.YtccdnieoaejgdaaGreatDoorT2BF
set_option linter.unusedVariables false
set_option linter.unusedSimpArgs false
set_option linter.unusedSectionVars false
namespace Go.Proofs.YtccdnieoaejgdaaGreatDoor.textexceptions
open Go.RowKit Go.Lib

set_option maxRecDepth 100000 in
set_option maxHeartbeats 16000000 in
theorem walk (r : RU) (a : RuA) (s m0 m1 : ByteArray) (W : World) (hr : RuR W a r) (hz : s.size ≤ maxLen) (hz0 : m0.size ≤ maxLen) (hz1 : m1.size ≤ maxLen) (_hT : True) : Calls Tryz.prog 5 #[r.val a, .string s, .agg #[.string m0, .string m1]] W (Ret (.bool true) W) := by
  have CSH := Lib.hid fun X (hx : Ext ((W.alloc (.cells #[.slice a.pa r.pats.length a.pc, .slice a.ea r.excs.length a.ec, .slice a.ba r.bars.length a.bc, .int .i64 r.left, .int .i64 r.right] 24)).alloc (.cells #[.string m0, .string m1] 55)) X) => Short_any r a X (hr.ext ((((Ext.refl W).alloc _).alloc _).trans hx))
  have HBC : Hid (∀ X, Ext ((W.alloc (.cells #[.slice a.pa r.pats.length a.pc, .slice a.ea r.excs.length a.ec, .slice a.ba r.bars.length a.bc, .int .i64 r.left, .int .i64 r.right] 24)).alloc (.cells #[.string m0, .string m1] 55)) X → ((X.cell? ⟨W.heap.size, 0, none⟩ = some (.slice a.pa r.pats.length a.pc) ∧ X.cell? ⟨W.heap.size, 1, none⟩ = some (.slice a.ea r.excs.length a.ec) ∧ X.cell? ⟨W.heap.size, 2, none⟩ = some (.slice a.ba r.bars.length a.bc)) ∧ X.cell? ⟨W.heap.size, 3, none⟩ = some (.int .i64 r.left) ∧ X.cell? ⟨W.heap.size, 4, none⟩ = some (.int .i64 r.right) ∧ W.heap.size < X.heap.size) ∧ X.cell? ⟨W.heap.size + 1, 0, none⟩ = some (.string m0) ∧ X.cell? ⟨W.heap.size + 1, 1, none⟩ = some (.string m1) ∧ W.heap.size + 1 < X.heap.size) := Lib.hid fun X hx => by
    have hb := ((Blk.new W 24 #[.slice a.pa r.pats.length a.pc, .slice a.ea r.excs.length a.ec, .slice a.ba r.bars.length a.bc, .int .i64 r.left, .int .i64 r.right]).alloc (.cells #[.string m0, .string m1] 55)).ext hx
    have h2 := (Blk.new1 W (.cells #[.slice a.pa r.pats.length a.pc, .slice a.ea r.excs.length a.ec, .slice a.ba r.bars.length a.bc, .int .i64 r.left, .int .i64 r.right] 24) 55 #[.string m0, .string m1]).ext hx
    exact ⟨⟨⟨hb.cell 0 _ rfl, hb.cell 1 _ rfl, hb.cell 2 _ rfl⟩, hb.cell 3 _ rfl, hb.cell 4 _ rfl, hb.lt⟩, h2.cell 0 _ rfl, h2.cell 1 _ rfl, h2.lt⟩
  have HX : Hid (Ext ((W.alloc (.cells #[.slice a.pa r.pats.length a.pc, .slice a.ea r.excs.length a.ec, .slice a.ba r.bars.length a.bc, .int .i64 r.left, .int .i64 r.right] 24)).alloc (.cells #[.string m0, .string m1] 55)) ((W.alloc (.cells #[.slice a.pa r.pats.length a.pc, .slice a.ea r.excs.length a.ec, .slice a.ba r.bars.length a.bc, .int .i64 r.left, .int .i64 r.right] 24)).alloc (.cells #[.string m0, .string m1] 55))) := Lib.hid (Ext.refl _)
  have HXW : Hid (Ext W ((W.alloc (.cells #[.slice a.pa r.pats.length a.pc, .slice a.ea r.excs.length a.ec, .slice a.ba r.bars.length a.bc, .int .i64 r.left, .int .i64 r.right] 24)).alloc (.cells #[.string m0, .string m1] 55))) := Lib.hid (((Ext.refl W).alloc _).alloc _)
  have hz9 : s.size ≤ 9223372036854775807 := by unfold maxLen at hz; omega
  have hz8 : m0.size ≤ 9223372036854775807 := by unfold maxLen at hz0; omega
  have hz7 : m1.size ≤ 9223372036854775807 := by unfold maxLen at hz1; omega
  have CRE := Lib.hid fun X (hs : ShortU r) (h9 : s.size ≤ 1000000) (hx : Ext ((W.alloc (.cells #[.slice a.pa r.pats.length a.pc, .slice a.ea r.excs.length a.ec, .slice a.ba r.bars.length a.bc, .int .i64 r.left, .int .i64 r.right] 24)).alloc (.cells #[.string m0, .string m1] 55)) X) => rulesErr_any r a s X (hr.ext ((((Ext.refl W).alloc _).alloc _).trans hx)) hs h9
  cases hsh : shortU r
  case false =>
    rw [hsh] at CSH
    clear hr hz hz0 hz1 hsh
    -- BEGIN A
    unfold RU.val at CSH CRE
    show Calls _ _ #[.agg #[.slice a.pa r.pats.length a.pc, .slice a.ea r.excs.length a.ec, .slice a.ba r.bars.length a.bc, .int .i64 r.left, .int .i64 r.right], .string s, .agg #[.string m0, .string m1]] _ _
    go_enter Tryz.func5, Tryz.ntmps5
    go_wp2_with (first | (go_at_call 13; refine Calls.mono (awake2_any _) ?_; rintro e w1 ⟨rfl, hx⟩; (try (have hq := HX5; clear hq; have HX6 := Lib.hid (HX5.out.trans (Ext.trans (by repeat (first | exact Ext.refl _ | assumption | refine Ext.alloc ?_ _ | refine Ext.drew ?_ | refine Ext.drewN ?_ _ | (refine Ext.setCell ?_ (by simp <;> omega) _) | refine Ext.trans ?_ (by assumption))) hx)); clear HX5; have HX5 := HX6; clear HX6)); have HX9 := Lib.hid (HX.out.trans (Ext.trans (by repeat (first | exact Ext.refl _ | assumption | refine Ext.alloc ?_ _ | refine Ext.drew ?_ | refine Ext.drewN ?_ _ | (refine Ext.setCell ?_ (by simp <;> omega) _) | refine Ext.trans ?_ (by assumption))) hx)); clear HX; have HX := HX9; clear HX9; obtain ⟨⟨⟨y0, y1, y2⟩, y3, y4, yl⟩, z0, z1, zl⟩ := HBC.out _ HX.out; clear hx) | (go_at_call 14; refine Calls.mono (CSH.out _ (HX.out.trans (by repeat (first | exact Ext.refl _ | assumption | refine Ext.alloc ?_ _ | refine Ext.drew ?_ | refine Ext.drewN ?_ _ | (refine Ext.setCell ?_ (by simp <;> omega) _) | refine Ext.trans ?_ (by assumption))))) ?_; rintro e w2 ⟨rfl, hx⟩; (try (have hq := HX5; clear hq; have HX6 := Lib.hid (HX5.out.trans (Ext.trans (by repeat (first | exact Ext.refl _ | assumption | refine Ext.alloc ?_ _ | refine Ext.drew ?_ | refine Ext.drewN ?_ _ | (refine Ext.setCell ?_ (by simp <;> omega) _) | refine Ext.trans ?_ (by assumption))) hx)); clear HX5; have HX5 := HX6; clear HX6)); have HX9 := Lib.hid (HX.out.trans (Ext.trans (by repeat (first | exact Ext.refl _ | assumption | refine Ext.alloc ?_ _ | refine Ext.drew ?_ | refine Ext.drewN ?_ _ | (refine Ext.setCell ?_ (by simp <;> omega) _) | refine Ext.trans ?_ (by assumption))) hx)); clear HX; have HX := HX9; clear HX9; obtain ⟨⟨⟨y0, y1, y2⟩, y3, y4, yl⟩, z0, z1, zl⟩ := HBC.out _ HX.out; clear hx) | (go_at_call 18; refine Calls.mono (CRE.out _ (HX.out.trans (by repeat (first | exact Ext.refl _ | assumption | refine Ext.alloc ?_ _ | refine Ext.drew ?_ | refine Ext.drewN ?_ _ | (refine Ext.setCell ?_ (by simp <;> omega) _) | refine Ext.trans ?_ (by assumption))))) ?_; rintro e w6 ⟨rfl, hx⟩; (try (have hq := HX5; clear hq; have HX6 := Lib.hid (HX5.out.trans (Ext.trans (by repeat (first | exact Ext.refl _ | assumption | refine Ext.alloc ?_ _ | refine Ext.drew ?_ | refine Ext.drewN ?_ _ | (refine Ext.setCell ?_ (by simp <;> omega) _) | refine Ext.trans ?_ (by assumption))) hx)); clear HX5; have HX5 := HX6; clear HX6)); have HX9 := Lib.hid (HX.out.trans (Ext.trans (by repeat (first | exact Ext.refl _ | assumption | refine Ext.alloc ?_ _ | refine Ext.drew ?_ | refine Ext.drewN ?_ _ | (refine Ext.setCell ?_ (by simp <;> omega) _) | refine Ext.trans ?_ (by assumption))) hx)); clear HX; have HX := HX9; clear HX9; obtain ⟨⟨⟨y0, y1, y2⟩, y3, y4, yl⟩, z0, z1, zl⟩ := HBC.out _ HX.out; clear hx))
    go_ret
    exact Ret.mk' rfl (HXW.out.trans HX.out)
    -- END A
  case true =>
    have HSU := Lib.hid (ShortU.of hsh)
    rw [hsh] at CSH
    by_cases h40 : 40 < s.size
    case pos =>
      have i40 : 40 < (s.size : Int) := by omega
      clear hr hz hz0 hz1 hsh HSU
      -- BEGIN B
      unfold RU.val at CSH CRE
      show Calls _ _ #[.agg #[.slice a.pa r.pats.length a.pc, .slice a.ea r.excs.length a.ec, .slice a.ba r.bars.length a.bc, .int .i64 r.left, .int .i64 r.right], .string s, .agg #[.string m0, .string m1]] _ _
      go_enter Tryz.func5, Tryz.ntmps5
      go_wp2_with (first | (go_at_call 13; refine Calls.mono (awake2_any _) ?_; rintro e w1 ⟨rfl, hx⟩; (try (have hq := HX5; clear hq; have HX6 := Lib.hid (HX5.out.trans (Ext.trans (by repeat (first | exact Ext.refl _ | assumption | refine Ext.alloc ?_ _ | refine Ext.drew ?_ | refine Ext.drewN ?_ _ | (refine Ext.setCell ?_ (by simp <;> omega) _) | refine Ext.trans ?_ (by assumption))) hx)); clear HX5; have HX5 := HX6; clear HX6)); have HX9 := Lib.hid (HX.out.trans (Ext.trans (by repeat (first | exact Ext.refl _ | assumption | refine Ext.alloc ?_ _ | refine Ext.drew ?_ | refine Ext.drewN ?_ _ | (refine Ext.setCell ?_ (by simp <;> omega) _) | refine Ext.trans ?_ (by assumption))) hx)); clear HX; have HX := HX9; clear HX9; obtain ⟨⟨⟨y0, y1, y2⟩, y3, y4, yl⟩, z0, z1, zl⟩ := HBC.out _ HX.out; clear hx) | (go_at_call 14; refine Calls.mono (CSH.out _ (HX.out.trans (by repeat (first | exact Ext.refl _ | assumption | refine Ext.alloc ?_ _ | refine Ext.drew ?_ | refine Ext.drewN ?_ _ | (refine Ext.setCell ?_ (by simp <;> omega) _) | refine Ext.trans ?_ (by assumption))))) ?_; rintro e w2 ⟨rfl, hx⟩; (try (have hq := HX5; clear hq; have HX6 := Lib.hid (HX5.out.trans (Ext.trans (by repeat (first | exact Ext.refl _ | assumption | refine Ext.alloc ?_ _ | refine Ext.drew ?_ | refine Ext.drewN ?_ _ | (refine Ext.setCell ?_ (by simp <;> omega) _) | refine Ext.trans ?_ (by assumption))) hx)); clear HX5; have HX5 := HX6; clear HX6)); have HX9 := Lib.hid (HX.out.trans (Ext.trans (by repeat (first | exact Ext.refl _ | assumption | refine Ext.alloc ?_ _ | refine Ext.drew ?_ | refine Ext.drewN ?_ _ | (refine Ext.setCell ?_ (by simp <;> omega) _) | refine Ext.trans ?_ (by assumption))) hx)); clear HX; have HX := HX9; clear HX9; obtain ⟨⟨⟨y0, y1, y2⟩, y3, y4, yl⟩, z0, z1, zl⟩ := HBC.out _ HX.out; clear hx) | (go_at_call 18; refine Calls.mono (CRE.out _ (HX.out.trans (by repeat (first | exact Ext.refl _ | assumption | refine Ext.alloc ?_ _ | refine Ext.drew ?_ | refine Ext.drewN ?_ _ | (refine Ext.setCell ?_ (by simp <;> omega) _) | refine Ext.trans ?_ (by assumption))))) ?_; rintro e w6 ⟨rfl, hx⟩; (try (have hq := HX5; clear hq; have HX6 := Lib.hid (HX5.out.trans (Ext.trans (by repeat (first | exact Ext.refl _ | assumption | refine Ext.alloc ?_ _ | refine Ext.drew ?_ | refine Ext.drewN ?_ _ | (refine Ext.setCell ?_ (by simp <;> omega) _) | refine Ext.trans ?_ (by assumption))) hx)); clear HX5; have HX5 := HX6; clear HX6)); have HX9 := Lib.hid (HX.out.trans (Ext.trans (by repeat (first | exact Ext.refl _ | assumption | refine Ext.alloc ?_ _ | refine Ext.drew ?_ | refine Ext.drewN ?_ _ | (refine Ext.setCell ?_ (by simp <;> omega) _) | refine Ext.trans ?_ (by assumption))) hx)); clear HX; have HX := HX9; clear HX9; obtain ⟨⟨⟨y0, y1, y2⟩, y3, y4, yl⟩, z0, z1, zl⟩ := HBC.out _ HX.out; clear hx))
      go_ret
      exact Ret.mk' rfl (HXW.out.trans HX.out)
      -- END B
    case neg =>
    have i40 : ¬ 40 < (s.size : Int) := by omega
    by_cases h41 : 40 < m0.size
    case pos =>
      have i41 : 40 < (m0.size : Int) := by omega
      clear hr hz hz0 hz1 hsh HSU
      -- BEGIN C
      unfold RU.val at CSH CRE
      show Calls _ _ #[.agg #[.slice a.pa r.pats.length a.pc, .slice a.ea r.excs.length a.ec, .slice a.ba r.bars.length a.bc, .int .i64 r.left, .int .i64 r.right], .string s, .agg #[.string m0, .string m1]] _ _
      go_enter Tryz.func5, Tryz.ntmps5
      go_wp2_with (first | (go_at_call 13; refine Calls.mono (awake2_any _) ?_; rintro e w1 ⟨rfl, hx⟩; (try (have hq := HX5; clear hq; have HX6 := Lib.hid (HX5.out.trans (Ext.trans (by repeat (first | exact Ext.refl _ | assumption | refine Ext.alloc ?_ _ | refine Ext.drew ?_ | refine Ext.drewN ?_ _ | (refine Ext.setCell ?_ (by simp <;> omega) _) | refine Ext.trans ?_ (by assumption))) hx)); clear HX5; have HX5 := HX6; clear HX6)); have HX9 := Lib.hid (HX.out.trans (Ext.trans (by repeat (first | exact Ext.refl _ | assumption | refine Ext.alloc ?_ _ | refine Ext.drew ?_ | refine Ext.drewN ?_ _ | (refine Ext.setCell ?_ (by simp <;> omega) _) | refine Ext.trans ?_ (by assumption))) hx)); clear HX; have HX := HX9; clear HX9; obtain ⟨⟨⟨y0, y1, y2⟩, y3, y4, yl⟩, z0, z1, zl⟩ := HBC.out _ HX.out; clear hx) | (go_at_call 14; refine Calls.mono (CSH.out _ (HX.out.trans (by repeat (first | exact Ext.refl _ | assumption | refine Ext.alloc ?_ _ | refine Ext.drew ?_ | refine Ext.drewN ?_ _ | (refine Ext.setCell ?_ (by simp <;> omega) _) | refine Ext.trans ?_ (by assumption))))) ?_; rintro e w2 ⟨rfl, hx⟩; (try (have hq := HX5; clear hq; have HX6 := Lib.hid (HX5.out.trans (Ext.trans (by repeat (first | exact Ext.refl _ | assumption | refine Ext.alloc ?_ _ | refine Ext.drew ?_ | refine Ext.drewN ?_ _ | (refine Ext.setCell ?_ (by simp <;> omega) _) | refine Ext.trans ?_ (by assumption))) hx)); clear HX5; have HX5 := HX6; clear HX6)); have HX9 := Lib.hid (HX.out.trans (Ext.trans (by repeat (first | exact Ext.refl _ | assumption | refine Ext.alloc ?_ _ | refine Ext.drew ?_ | refine Ext.drewN ?_ _ | (refine Ext.setCell ?_ (by simp <;> omega) _) | refine Ext.trans ?_ (by assumption))) hx)); clear HX; have HX := HX9; clear HX9; obtain ⟨⟨⟨y0, y1, y2⟩, y3, y4, yl⟩, z0, z1, zl⟩ := HBC.out _ HX.out; clear hx) | (go_at_call 18; refine Calls.mono (CRE.out _ (HX.out.trans (by repeat (first | exact Ext.refl _ | assumption | refine Ext.alloc ?_ _ | refine Ext.drew ?_ | refine Ext.drewN ?_ _ | (refine Ext.setCell ?_ (by simp <;> omega) _) | refine Ext.trans ?_ (by assumption))))) ?_; rintro e w6 ⟨rfl, hx⟩; (try (have hq := HX5; clear hq; have HX6 := Lib.hid (HX5.out.trans (Ext.trans (by repeat (first | exact Ext.refl _ | assumption | refine Ext.alloc ?_ _ | refine Ext.drew ?_ | refine Ext.drewN ?_ _ | (refine Ext.setCell ?_ (by simp <;> omega) _) | refine Ext.trans ?_ (by assumption))) hx)); clear HX5; have HX5 := HX6; clear HX6)); have HX9 := Lib.hid (HX.out.trans (Ext.trans (by repeat (first | exact Ext.refl _ | assumption | refine Ext.alloc ?_ _ | refine Ext.drew ?_ | refine Ext.drewN ?_ _ | (refine Ext.setCell ?_ (by simp <;> omega) _) | refine Ext.trans ?_ (by assumption))) hx)); clear HX; have HX := HX9; clear HX9; obtain ⟨⟨⟨y0, y1, y2⟩, y3, y4, yl⟩, z0, z1, zl⟩ := HBC.out _ HX.out; clear hx))
      go_ret
      exact Ret.mk' rfl (HXW.out.trans HX.out)
      -- END C
    case neg =>
    have i41 : ¬ 40 < (m0.size : Int) := by omega
    by_cases h42 : 40 < m1.size
    case pos =>
      have i42 : 40 < (m1.size : Int) := by omega
      clear hr hz hz0 hz1 hsh HSU
      -- BEGIN D
      unfold RU.val at CSH CRE
      show Calls _ _ #[.agg #[.slice a.pa r.pats.length a.pc, .slice a.ea r.excs.length a.ec, .slice a.ba r.bars.length a.bc, .int .i64 r.left, .int .i64 r.right], .string s, .agg #[.string m0, .string m1]] _ _
      go_enter Tryz.func5, Tryz.ntmps5
      go_wp2_with (first | (go_at_call 13; refine Calls.mono (awake2_any _) ?_; rintro e w1 ⟨rfl, hx⟩; (try (have hq := HX5; clear hq; have HX6 := Lib.hid (HX5.out.trans (Ext.trans (by repeat (first | exact Ext.refl _ | assumption | refine Ext.alloc ?_ _ | refine Ext.drew ?_ | refine Ext.drewN ?_ _ | (refine Ext.setCell ?_ (by simp <;> omega) _) | refine Ext.trans ?_ (by assumption))) hx)); clear HX5; have HX5 := HX6; clear HX6)); have HX9 := Lib.hid (HX.out.trans (Ext.trans (by repeat (first | exact Ext.refl _ | assumption | refine Ext.alloc ?_ _ | refine Ext.drew ?_ | refine Ext.drewN ?_ _ | (refine Ext.setCell ?_ (by simp <;> omega) _) | refine Ext.trans ?_ (by assumption))) hx)); clear HX; have HX := HX9; clear HX9; obtain ⟨⟨⟨y0, y1, y2⟩, y3, y4, yl⟩, z0, z1, zl⟩ := HBC.out _ HX.out; clear hx) | (go_at_call 14; refine Calls.mono (CSH.out _ (HX.out.trans (by repeat (first | exact Ext.refl _ | assumption | refine Ext.alloc ?_ _ | refine Ext.drew ?_ | refine Ext.drewN ?_ _ | (refine Ext.setCell ?_ (by simp <;> omega) _) | refine Ext.trans ?_ (by assumption))))) ?_; rintro e w2 ⟨rfl, hx⟩; (try (have hq := HX5; clear hq; have HX6 := Lib.hid (HX5.out.trans (Ext.trans (by repeat (first | exact Ext.refl _ | assumption | refine Ext.alloc ?_ _ | refine Ext.drew ?_ | refine Ext.drewN ?_ _ | (refine Ext.setCell ?_ (by simp <;> omega) _) | refine Ext.trans ?_ (by assumption))) hx)); clear HX5; have HX5 := HX6; clear HX6)); have HX9 := Lib.hid (HX.out.trans (Ext.trans (by repeat (first | exact Ext.refl _ | assumption | refine Ext.alloc ?_ _ | refine Ext.drew ?_ | refine Ext.drewN ?_ _ | (refine Ext.setCell ?_ (by simp <;> omega) _) | refine Ext.trans ?_ (by assumption))) hx)); clear HX; have HX := HX9; clear HX9; obtain ⟨⟨⟨y0, y1, y2⟩, y3, y4, yl⟩, z0, z1, zl⟩ := HBC.out _ HX.out; clear hx) | (go_at_call 18; refine Calls.mono (CRE.out _ (HX.out.trans (by repeat (first | exact Ext.refl _ | assumption | refine Ext.alloc ?_ _ | refine Ext.drew ?_ | refine Ext.drewN ?_ _ | (refine Ext.setCell ?_ (by simp <;> omega) _) | refine Ext.trans ?_ (by assumption))))) ?_; rintro e w6 ⟨rfl, hx⟩; (try (have hq := HX5; clear hq; have HX6 := Lib.hid (HX5.out.trans (Ext.trans (by repeat (first | exact Ext.refl _ | assumption | refine Ext.alloc ?_ _ | refine Ext.drew ?_ | refine Ext.drewN ?_ _ | (refine Ext.setCell ?_ (by simp <;> omega) _) | refine Ext.trans ?_ (by assumption))) hx)); clear HX5; have HX5 := HX6; clear HX6)); have HX9 := Lib.hid (HX.out.trans (Ext.trans (by repeat (first | exact Ext.refl _ | assumption | refine Ext.alloc ?_ _ | refine Ext.drew ?_ | refine Ext.drewN ?_ _ | (refine Ext.setCell ?_ (by simp <;> omega) _) | refine Ext.trans ?_ (by assumption))) hx)); clear HX; have HX := HX9; clear HX9; obtain ⟨⟨⟨y0, y1, y2⟩, y3, y4, yl⟩, z0, z1, zl⟩ := HBC.out _ HX.out; clear hx))
      go_ret
      exact Ret.mk' rfl (HXW.out.trans HX.out)
      -- END D
    case neg =>
    have i42 : ¬ 40 < (m1.size : Int) := by omega
    have CRF := Lib.hid fun X (hx : Ext ((W.alloc (.cells #[.slice a.pa r.pats.length a.pc, .slice a.ea r.excs.length a.ec, .slice a.ba r.bars.length a.bc, .int .i64 r.left, .int .i64 r.right] 24)).alloc (.cells #[.string m0, .string m1] 55)) X) => CRE.out X HSU.out (by omega) hx
    clear CRE
    have CRE := CRF
    clear CRF
    by_cases hre : ruledE r s = 0
    case neg =>
      generalize ruledE r s = c at *
      have b0 : (c != 0) = true := by simpa using hre
      clear hr hz hz0 hz1 hsh HSU
      -- BEGIN E
      unfold RU.val at CSH CRE
      show Calls _ _ #[.agg #[.slice a.pa r.pats.length a.pc, .slice a.ea r.excs.length a.ec, .slice a.ba r.bars.length a.bc, .int .i64 r.left, .int .i64 r.right], .string s, .agg #[.string m0, .string m1]] _ _
      go_enter Tryz.func5, Tryz.ntmps5
      go_wp2_with (first | (go_at_call 13; refine Calls.mono (awake2_any _) ?_; rintro e w1 ⟨rfl, hx⟩; (try (have hq := HX5; clear hq; have HX6 := Lib.hid (HX5.out.trans (Ext.trans (by repeat (first | exact Ext.refl _ | assumption | refine Ext.alloc ?_ _ | refine Ext.drew ?_ | refine Ext.drewN ?_ _ | (refine Ext.setCell ?_ (by simp <;> omega) _) | refine Ext.trans ?_ (by assumption))) hx)); clear HX5; have HX5 := HX6; clear HX6)); have HX9 := Lib.hid (HX.out.trans (Ext.trans (by repeat (first | exact Ext.refl _ | assumption | refine Ext.alloc ?_ _ | refine Ext.drew ?_ | refine Ext.drewN ?_ _ | (refine Ext.setCell ?_ (by simp <;> omega) _) | refine Ext.trans ?_ (by assumption))) hx)); clear HX; have HX := HX9; clear HX9; obtain ⟨⟨⟨y0, y1, y2⟩, y3, y4, yl⟩, z0, z1, zl⟩ := HBC.out _ HX.out; clear hx) | (go_at_call 14; refine Calls.mono (CSH.out _ (HX.out.trans (by repeat (first | exact Ext.refl _ | assumption | refine Ext.alloc ?_ _ | refine Ext.drew ?_ | refine Ext.drewN ?_ _ | (refine Ext.setCell ?_ (by simp <;> omega) _) | refine Ext.trans ?_ (by assumption))))) ?_; rintro e w2 ⟨rfl, hx⟩; (try (have hq := HX5; clear hq; have HX6 := Lib.hid (HX5.out.trans (Ext.trans (by repeat (first | exact Ext.refl _ | assumption | refine Ext.alloc ?_ _ | refine Ext.drew ?_ | refine Ext.drewN ?_ _ | (refine Ext.setCell ?_ (by simp <;> omega) _) | refine Ext.trans ?_ (by assumption))) hx)); clear HX5; have HX5 := HX6; clear HX6)); have HX9 := Lib.hid (HX.out.trans (Ext.trans (by repeat (first | exact Ext.refl _ | assumption | refine Ext.alloc ?_ _ | refine Ext.drew ?_ | refine Ext.drewN ?_ _ | (refine Ext.setCell ?_ (by simp <;> omega) _) | refine Ext.trans ?_ (by assumption))) hx)); clear HX; have HX := HX9; clear HX9; obtain ⟨⟨⟨y0, y1, y2⟩, y3, y4, yl⟩, z0, z1, zl⟩ := HBC.out _ HX.out; clear hx) | (go_at_call 18; refine Calls.mono (CRE.out _ (HX.out.trans (by repeat (first | exact Ext.refl _ | assumption | refine Ext.alloc ?_ _ | refine Ext.drew ?_ | refine Ext.drewN ?_ _ | (refine Ext.setCell ?_ (by simp <;> omega) _) | refine Ext.trans ?_ (by assumption))))) ?_; rintro e w6 ⟨rfl, hx⟩; (try (have hq := HX5; clear hq; have HX6 := Lib.hid (HX5.out.trans (Ext.trans (by repeat (first | exact Ext.refl _ | assumption | refine Ext.alloc ?_ _ | refine Ext.drew ?_ | refine Ext.drewN ?_ _ | (refine Ext.setCell ?_ (by simp <;> omega) _) | refine Ext.trans ?_ (by assumption))) hx)); clear HX5; have HX5 := HX6; clear HX6)); have HX9 := Lib.hid (HX.out.trans (Ext.trans (by repeat (first | exact Ext.refl _ | assumption | refine Ext.alloc ?_ _ | refine Ext.drew ?_ | refine Ext.drewN ?_ _ | (refine Ext.setCell ?_ (by simp <;> omega) _) | refine Ext.trans ?_ (by assumption))) hx)); clear HX; have HX := HX9; clear HX9; obtain ⟨⟨⟨y0, y1, y2⟩, y3, y4, yl⟩, z0, z1, zl⟩ := HBC.out _ HX.out; clear hx))
      go_ret
      exact Ret.mk' rfl (HXW.out.trans HX.out)
      -- END E
    case pos =>
      have hRR := RightU.of (ruledE_rule hre)
      have hs30 := ruledE_size hre
      have hln := short_good (by unfold shortU at hsh; simp only [Bool.and_eq_true] at hsh; exact hsh.1.1)
      have hle := short_good (by unfold shortU at hsh; simp only [Bool.and_eq_true] at hsh; exact hsh.1.2)
      have CCR := Lib.hid fun X (hx : Ext ((W.alloc (.cells #[.slice a.pa r.pats.length a.pc, .slice a.ea r.excs.length a.ec, .slice a.ba r.bars.length a.bc, .int .i64 r.left, .int .i64 r.right] 24)).alloc (.cells #[.string m0, .string m1] 55)) X) => copyRulesX_any r a X (hr.ext ((((Ext.refl W).alloc _).alloc _).trans hx)) ⟨by have := HSU.out.p.1; omega, by have := HSU.out.e.1; omega, by have := HSU.out.b.1; omega⟩
      have CHY := Lib.hid fun a' X (h : RuR X a' r) => Hyphens_any r a' s X h HSU.out (by omega)
      have CLV := Lib.hid fun a' X (h : RuR X a' r) => LevelsOf_any r a' s X h HSU.out (by omega)
      rw [if_pos hre, hre] at CHY CLV
      rw [hre] at CRE
      clear hr hz hz0 hz1
      -- BEGIN F
      unfold RU.val at CSH CRE CCR CHY CLV
      show Calls _ _ #[.agg #[.slice a.pa r.pats.length a.pc, .slice a.ea r.excs.length a.ec, .slice a.ba r.bars.length a.bc, .int .i64 r.left, .int .i64 r.right], .string s, .agg #[.string m0, .string m1]] _ _
      go_enter Tryz.func5, Tryz.ntmps5
      go_upto_region 9 with (first | (go_at_call 13; refine Calls.mono (awake2_any _) ?_; rintro e w1 ⟨rfl, hx⟩; (try (have hq := HX5; clear hq; have HX6 := Lib.hid (HX5.out.trans (Ext.trans (by repeat (first | exact Ext.refl _ | assumption | refine Ext.alloc ?_ _ | refine Ext.drew ?_ | refine Ext.drewN ?_ _ | (refine Ext.setCell ?_ (by simp <;> omega) _) | refine Ext.trans ?_ (by assumption))) hx)); clear HX5; have HX5 := HX6; clear HX6)); have HX9 := Lib.hid (HX.out.trans (Ext.trans (by repeat (first | exact Ext.refl _ | assumption | refine Ext.alloc ?_ _ | refine Ext.drew ?_ | refine Ext.drewN ?_ _ | (refine Ext.setCell ?_ (by simp <;> omega) _) | refine Ext.trans ?_ (by assumption))) hx)); clear HX; have HX := HX9; clear HX9; obtain ⟨⟨⟨y0, y1, y2⟩, y3, y4, yl⟩, z0, z1, zl⟩ := HBC.out _ HX.out; clear hx) | (go_at_call 14; refine Calls.mono (CSH.out _ (HX.out.trans (by repeat (first | exact Ext.refl _ | assumption | refine Ext.alloc ?_ _ | refine Ext.drew ?_ | refine Ext.drewN ?_ _ | (refine Ext.setCell ?_ (by simp <;> omega) _) | refine Ext.trans ?_ (by assumption))))) ?_; rintro e w2 ⟨rfl, hx⟩; (try (have hq := HX5; clear hq; have HX6 := Lib.hid (HX5.out.trans (Ext.trans (by repeat (first | exact Ext.refl _ | assumption | refine Ext.alloc ?_ _ | refine Ext.drew ?_ | refine Ext.drewN ?_ _ | (refine Ext.setCell ?_ (by simp <;> omega) _) | refine Ext.trans ?_ (by assumption))) hx)); clear HX5; have HX5 := HX6; clear HX6)); have HX9 := Lib.hid (HX.out.trans (Ext.trans (by repeat (first | exact Ext.refl _ | assumption | refine Ext.alloc ?_ _ | refine Ext.drew ?_ | refine Ext.drewN ?_ _ | (refine Ext.setCell ?_ (by simp <;> omega) _) | refine Ext.trans ?_ (by assumption))) hx)); clear HX; have HX := HX9; clear HX9; obtain ⟨⟨⟨y0, y1, y2⟩, y3, y4, yl⟩, z0, z1, zl⟩ := HBC.out _ HX.out; clear hx) | (go_at_call 18; refine Calls.mono (CRE.out _ (HX.out.trans (by repeat (first | exact Ext.refl _ | assumption | refine Ext.alloc ?_ _ | refine Ext.drew ?_ | refine Ext.drewN ?_ _ | (refine Ext.setCell ?_ (by simp <;> omega) _) | refine Ext.trans ?_ (by assumption))))) ?_; rintro e w6 ⟨rfl, hx⟩; (try (have hq := HX5; clear hq; have HX6 := Lib.hid (HX5.out.trans (Ext.trans (by repeat (first | exact Ext.refl _ | assumption | refine Ext.alloc ?_ _ | refine Ext.drew ?_ | refine Ext.drewN ?_ _ | (refine Ext.setCell ?_ (by simp <;> omega) _) | refine Ext.trans ?_ (by assumption))) hx)); clear HX5; have HX5 := HX6; clear HX6)); have HX9 := Lib.hid (HX.out.trans (Ext.trans (by repeat (first | exact Ext.refl _ | assumption | refine Ext.alloc ?_ _ | refine Ext.drew ?_ | refine Ext.drewN ?_ _ | (refine Ext.setCell ?_ (by simp <;> omega) _) | refine Ext.trans ?_ (by assumption))) hx)); clear HX; have HX := HX9; clear HX9; obtain ⟨⟨⟨y0, y1, y2⟩, y3, y4, yl⟩, z0, z1, zl⟩ := HBC.out _ HX.out; clear hx) | (go_at_call 16; refine Calls.mono (CCR.out _ (HX.out.trans (by repeat (first | exact Ext.refl _ | assumption | refine Ext.alloc ?_ _ | refine Ext.drew ?_ | refine Ext.drewN ?_ _ | (refine Ext.setCell ?_ (by simp <;> omega) _) | refine Ext.trans ?_ (by assumption))))) ?_; rintro e w3 ⟨a1, rfl, hru, hx⟩; have HOR := Lib.hid hru; clear hru; (try (have hq := HX5; clear hq; have HX6 := Lib.hid (HX5.out.trans (Ext.trans (by repeat (first | exact Ext.refl _ | assumption | refine Ext.alloc ?_ _ | refine Ext.drew ?_ | refine Ext.drewN ?_ _ | (refine Ext.setCell ?_ (by simp <;> omega) _) | refine Ext.trans ?_ (by assumption))) hx)); clear HX5; have HX5 := HX6; clear HX6)); have HX9 := Lib.hid (HX.out.trans (Ext.trans (by repeat (first | exact Ext.refl _ | assumption | refine Ext.alloc ?_ _ | refine Ext.drew ?_ | refine Ext.drewN ?_ _ | (refine Ext.setCell ?_ (by simp <;> omega) _) | refine Ext.trans ?_ (by assumption))) hx)); clear HX; have HX := HX9; clear HX9; obtain ⟨⟨⟨y0, y1, y2⟩, y3, y4, yl⟩, z0, z1, zl⟩ := HBC.out _ HX.out; clear hx) | (go_at_call 15; refine Calls.mono (CHY.out _ _ (HOR.out.o.rur.ext (by repeat (first | exact Ext.refl _ | assumption | refine Ext.alloc ?_ _ | refine Ext.drew ?_ | refine Ext.drewN ?_ _ | (refine Ext.setCell ?_ (by simp <;> omega) _) | refine Ext.trans ?_ (by assumption))))) ?_; rintro e w4 ⟨A5, c5, rfl, hs5, hx⟩; have HL5 := Lib.hid hs5.ri; clear hs5; (try (have hq := HX5; clear hq; have HX6 := Lib.hid (HX5.out.trans (Ext.trans (by repeat (first | exact Ext.refl _ | assumption | refine Ext.alloc ?_ _ | refine Ext.drew ?_ | refine Ext.drewN ?_ _ | (refine Ext.setCell ?_ (by simp <;> omega) _) | refine Ext.trans ?_ (by assumption))) hx)); clear HX5; have HX5 := HX6; clear HX6)); have HX9 := Lib.hid (HX.out.trans (Ext.trans (by repeat (first | exact Ext.refl _ | assumption | refine Ext.alloc ?_ _ | refine Ext.drew ?_ | refine Ext.drewN ?_ _ | (refine Ext.setCell ?_ (by simp <;> omega) _) | refine Ext.trans ?_ (by assumption))) hx)); clear HX; have HX := HX9; clear HX9; obtain ⟨⟨⟨y0, y1, y2⟩, y3, y4, yl⟩, z0, z1, zl⟩ := HBC.out _ HX.out; clear hx; have HX5 := Lib.hid (Ext.refl w4)) | (go_at_call 32; refine Calls.mono (CLV.out _ _ (HOR.out.o.rur.ext (by repeat (first | exact Ext.refl _ | assumption | refine Ext.alloc ?_ _ | refine Ext.drew ?_ | refine Ext.drewN ?_ _ | (refine Ext.setCell ?_ (by simp <;> omega) _) | refine Ext.trans ?_ (by assumption))))) ?_; rintro e w5 ⟨A6, c6, rfl, hs6, hx⟩; have HL6 := Lib.hid hs6.ri; clear hs6; (try (have hq := HX5; clear hq; have HX6 := Lib.hid (HX5.out.trans (Ext.trans (by repeat (first | exact Ext.refl _ | assumption | refine Ext.alloc ?_ _ | refine Ext.drew ?_ | refine Ext.drewN ?_ _ | (refine Ext.setCell ?_ (by simp <;> omega) _) | refine Ext.trans ?_ (by assumption))) hx)); clear HX5; have HX5 := HX6; clear HX6)); have HX9 := Lib.hid (HX.out.trans (Ext.trans (by repeat (first | exact Ext.refl _ | assumption | refine Ext.alloc ?_ _ | refine Ext.drew ?_ | refine Ext.drewN ?_ _ | (refine Ext.setCell ?_ (by simp <;> omega) _) | refine Ext.trans ?_ (by assumption))) hx)); clear HX; have HX := HX9; clear HX9; obtain ⟨⟨⟨y0, y1, y2⟩, y3, y4, yl⟩, z0, z1, zl⟩ := HBC.out _ HX.out; clear hx))
      have HL5c := Lib.hid (HL5.out.ext HX5.out)
      clear HL5 HX5 HOR CSH CRE CHY CLV
      obtain ⟨wl, hwl⟩ : ∃ wl, wl = w5 := ⟨_, rfl⟩
      rw [← hwl] at HX HL5c HL6 y0 y1 y2 y3 y4 yl z0 z1 zl ⊢
      clear hwl
      have HXWL := HX
      clear HX y0 y1 y2 y3 y4 yl z0 z1 zl
      have HLY : Hid ((hyW r s.data.toList).length ≤ 100000) := Lib.hid (by have := hyW_len r s.data.toList; simp at this; omega)
      have HLVN : Hid ((lvList r s.data.toList).length = s.size + 1) := Lib.hid (by rw [lvList_len])
      have HLVM : Hid ((lvList (withPat r m1) s.data.toList).length = s.size + 1) := Lib.hid (by rw [lvList_len])
      have HPLW : Hid (∀ k, k ≤ s.size → (lvList r s.data.toList).getD k 0 ≤ (lvList (withPat r m1) s.data.toList).getD k 0) := Lib.hid fun k hk => by
        rw [lvList_at r _ (by simpa using hk), lvList_at (withPat r m1) _ (by simpa using hk)]
        exact pat_law r m1 _ k
      have HELW := Lib.hid (exc_law r m0 s.data.toList)
      have CXE := Lib.hid fun a' X (h : RuR X a' (withExc r m0)) => rErr2_any (withExc r m0) a' X h (withExc_short HSU.out (by omega) (by omega))
      have CYE := Lib.hid fun a' X (h : RuR X a' (withPat r m1)) => rErr2_any (withPat r m1) a' X h (withPat_short HSU.out (by omega) (by omega))
      have CXH := Lib.hid fun a' X (he : (ruleE (withExc r m0)).2 = 0) (h : RuR X a' (withExc r m0)) => ruled_hy (withExc r m0) a' s X h (withExc_short HSU.out (by omega) (by omega)) he hre
      have CYL := Lib.hid fun a' X (he : (ruleE (withPat r m1)).2 = 0) (h : RuR X a' (withPat r m1)) => ruled_lv (withPat r m1) a' s X h (withPat_short HSU.out (by omega) (by omega)) he hre
      have hnp : r.pats.length ≤ 1000 := by omega
      have hne : r.excs.length ≤ 1000 := by omega
      clear hsh hln hle hRR hre HSU
      generalize (ruleE (withExc r m0)).2 = ex at *
      generalize (ruleE (withPat r m1)).2 = ey at *
      generalize hyW (withExc r m0) s.data.toList = zx at *
      generalize lvList (withPat r m1) s.data.toList = ly at *
      generalize hyW r s.data.toList = zs at *
      generalize lvList r s.data.toList = ll at *
      unfold RU.val withExc at CXE CXH
      unfold RU.val withPat at CYE CYL
      simp only [List.length_append, List.length_singleton] at CXE CXH CYE CYL
      have HXL : Hid (Ext wl wl) := Lib.hid (Ext.refl wl)
      obtain ⟨_, z0, z1, zl⟩ := HBC.out _ (HXWL.out.trans HXL.out)
      obtain ⟨⟨y0, y1, y2⟩, y3, y4, yl⟩ := (HBC.out _ (HXWL.out.trans HXL.out)).1
      go_upto_region 10 with (first | (go_at_call 16; refine Calls.mono (CCR.out _ (HXWL.out.trans (HXL.out.trans (by repeat (first | exact Ext.refl _ | assumption | refine Ext.alloc ?_ _ | refine Ext.drew ?_ | refine Ext.drewN ?_ _ | (refine Ext.setCell ?_ (by simp <;> omega) _) | refine Ext.trans ?_ (by assumption)))))) ?_; rintro e w3 ⟨a1, rfl, hru, hx⟩; have HOR := Lib.hid hru; have HX3 := Lib.hid (Ext.trans (a := wl) (by repeat (first | exact Ext.refl _ | assumption | refine Ext.alloc ?_ _ | refine Ext.drew ?_ | refine Ext.drewN ?_ _ | (refine Ext.setCell ?_ (by simp <;> omega) _) | refine Ext.trans ?_ (by assumption))) hx); clear hru hx))
      clear y0 y1 y2 y3 y4 yl z0 z1 zl
      obtain ⟨bs, hbs⟩ : ∃ bs, bs = (wl).heap.size := ⟨_, rfl⟩
      rw [← hbs] at HOR
      have HBX := Lib.hid (Blk.new w3 24 #[.slice a1.pa r.pats.length a1.pc, .slice a1.ea r.excs.length a1.ec, .slice a1.ba r.bars.length a1.bc, .int .i64 r.left, .int .i64 r.right])
      have HOX := Lib.hid (HOR.out.ext ((Ext.refl w3).alloc (.cells #[.slice a1.pa r.pats.length a1.pc, .slice a1.ea r.excs.length a1.ec, .slice a1.ba r.bars.length a1.bc, .int .i64 r.left, .int .i64 r.right] 24)))
      have HXX := Lib.hid (HX3.out.trans ((Ext.refl w3).alloc (.cells #[.slice a1.pa r.pats.length a1.pc, .slice a1.ea r.excs.length a1.ec, .slice a1.ba r.bars.length a1.bc, .int .i64 r.left, .int .i64 r.right] 24)))
      have HXB : Hid (bs ≤ w3.heap.size) := Lib.hid (by rw [hbs]; exact HX3.out.size)
      have HXS : Hid ((wl).heap.size ≤ bs) := Lib.hid (by omega)
      clear hbs HX3 HOR
      generalize w3.alloc (.cells #[.slice a1.pa r.pats.length a1.pc, .slice a1.ea r.excs.length a1.ec, .slice a1.ba r.bars.length a1.bc, .int .i64 r.left, .int .i64 r.right] 24) = wx at *
      generalize w3.heap.size = xb at *
      obtain ⟨_, z0, z1, zl⟩ := HBC.out _ (HXWL.out.trans (HXL.out.trans HXX.out))
      have x0 := HBX.out.cell 0 _ rfl; have x1 := HBX.out.cell 1 _ rfl; have xl := HBX.out.lt
      go_upto_region 11 with (at_builtin; refine list_pushW rfl (.tmp 72) (.tmp 75) rfl bs _ (bytesOf r.excs) rfl (HOX.out.o.e.ext (by repeat (first | exact Ext.refl _ | assumption | refine Ext.alloc ?_ _ | refine Ext.drew ?_ | refine Ext.drewN ?_ _ | (refine Ext.setCell ?_ (by simp <;> omega) _) | refine Ext.trans ?_ (by assumption)))) wx.heap.size m0.data.toList rfl (by rw [strL_of]; simp) (by rw [bytesOf_len]; omega) (by have h1 := HXX.out.size; have h2 := HBX.out.lt; have h3 := HXB.out; simp; omega) ?_; intro v' w4 ho hg; obtain ⟨A7, c7, rfl, ho3⟩ := (HOX.out.ext ((Ext.refl wx).alloc (.cells #[.string m0] 9))).pushE hne hg ho; have hb4 := Blk.grownB (HBX.out.ext ((Ext.refl wx).alloc (.cells #[.string m0] 9))) hg (fun e => (by obtain ⟨c9, h9⟩ := OwnW.is (HOX.out.o.e.ext ((Ext.refl wx).alloc (.cells #[.string m0] 9))) e; exact blk_neT h9 (HBX.out.ext ((Ext.refl wx).alloc (.cells #[.string m0] 9))) (by decide) rfl)); have hx4 : Ext wl w4 := Ext.grown (HXX.out.trans ((Ext.refl wx).alloc (.cells #[.string m0] 9))) hg (fun k e => Nat.le_trans HXS.out (World.ownsRow.lt (HOX.out.o.e) k e).1); have HO4 := Lib.hid (ho3.sto (i := 1) (u := .slice A7 (r.excs.length + 1) c7) hb4); have HB4 := Lib.hid (hb4.set_ 1 (.slice A7 (r.excs.length + 1) c7)); have HX4 := Lib.hid (hx4.setCell (p := ⟨xb, 1, none⟩) (Nat.le_trans HXS.out HXB.out) (.slice A7 (r.excs.length + 1) c7)); have q0 := hb4.cell 0 _ rfl; have q1 := hb4.cell 1 _ rfl; have ql := hb4.lt; have F4 := hb4.frozen; clear ho hg ho3 hb4 hx4)
      clear q0 q1 ql F4 x0 x1 xl z0 z1 zl HBX HOX HXX
      generalize w4.setCell ⟨xb, 1, none⟩ (.slice A7 (r.excs.length + 1) c7) = wy at *
      have HO3 := HO4; clear HO4
      have HBY : Hid (Blk wy xb 24 #[.slice a1.pa r.pats.length a1.pc, .slice A7 (r.excs.length + 1) c7, .slice a1.ba r.bars.length a1.bc, .int .i64 r.left, .int .i64 r.right]) := Lib.hid HB4.out
      have HXM := Lib.hid (HXL.out.trans HX4.out); clear HXL HX4 HB4
      have HXL := HXM; clear HXM
      have x0 := HBY.out.cell 0 _ rfl; have x1 := HBY.out.cell 1 _ rfl; have x2 := HBY.out.cell 2 _ rfl; have x3 := HBY.out.cell 3 _ rfl; have x4 := HBY.out.cell 4 _ rfl; have xl := HBY.out.lt
      go_upto_if 80 with (first | (go_at_call 33; refine Calls.mono (CXE.out ⟨a1.pa, a1.pc, A7, c7, a1.ba, a1.bc⟩ _ (HO3.out.rur.ext (by repeat (first | exact Ext.refl _ | assumption | refine Ext.alloc ?_ _ | refine Ext.drew ?_ | refine Ext.drewN ?_ _ | (refine Ext.setCell ?_ (by simp <;> omega) _) | refine Ext.trans ?_ (by assumption))))) ?_; rintro e w6 ⟨rfl, hx⟩; have HXL6 := Lib.hid (HXL.out.trans (Ext.trans (by repeat (first | exact Ext.refl _ | assumption | refine Ext.alloc ?_ _ | refine Ext.drew ?_ | refine Ext.drewN ?_ _ | (refine Ext.setCell ?_ (by simp <;> omega) _) | refine Ext.trans ?_ (by assumption))) hx)); have HX6 := Lib.hid (Ext.trans (a := wy) (by repeat (first | exact Ext.refl _ | assumption | refine Ext.alloc ?_ _ | refine Ext.drew ?_ | refine Ext.drewN ?_ _ | (refine Ext.setCell ?_ (by simp <;> omega) _) | refine Ext.trans ?_ (by assumption))) hx); obtain ⟨_, z0, z1, zl⟩ := HBC.out _ (HXWL.out.trans HXL6.out); clear hx))
      go_cut [12, 13, 14, 15, 16] from 80 (fun _ _ _ _ _ wx => Hid (Ext wl wx))
      case first =>
        by_cases hex : ex = 0
        case neg =>
          have bex : (ex == 0) = false := by rw [beq_eq_false_iff_ne]; exact hex
          go_wp2_with fail
          go_meet
          case rel => exact HXL6
        case pos =>
          have bex : (ex == 0) = true := by simp [hex]
          have CH := Lib.hid fun X h => CXH.out ⟨a1.pa, a1.pc, A7, c7, a1.ba, a1.bc⟩ X hex h
          clear hex CXH CXE CYE CYL
          have CCU := Lib.hid fun X => cut_any m0 45 45 rfl X (by omega)
          have HPJ : Hid ((cutL m0.data.toList 45).flatten.length ≤ 40) := Lib.hid (by
            rw [cutL_join]; exact Nat.le_trans (List.length_filter_le _ _) (by simp; omega))
          have HPN : Hid ((cutL m0.data.toList 45).length ≤ 100) := Lib.hid (by rw [cutL_len]; have h1 : m0.data.toList.count 45 ≤ m0.data.toList.length := List.count_le_length; have h2 : m0.data.toList.length = m0.size := (by simp); omega)
          generalize cutL m0.data.toList 45 = P at *
          go_upto_region 15 with (first | (go_at_call 22; refine Calls.mono (CCU.out _) ?_; rintro e w8 ⟨v2, rfl, ho, hx⟩; obtain ⟨A8, c8, rfl, hr8⟩ := OwnW.form ho (by have := HPN.out; omega); have HR8 := Lib.hid hr8; have HXL8 := Lib.hid (HXL6.out.trans (Ext.trans (by repeat (first | exact Ext.refl _ | assumption | refine Ext.alloc ?_ _ | refine Ext.drew ?_ | refine Ext.drewN ?_ _ | (refine Ext.setCell ?_ (by simp <;> omega) _) | refine Ext.trans ?_ (by assumption))) hx)); have HX8 := Lib.hid (HX6.out.trans (Ext.trans (by repeat (first | exact Ext.refl _ | assumption | refine Ext.alloc ?_ _ | refine Ext.drew ?_ | refine Ext.drewN ?_ _ | (refine Ext.setCell ?_ (by simp <;> omega) _) | refine Ext.trans ?_ (by assumption))) hx)); clear ho hx hr8))
          have HFB : Hid (∀ k, ((P.take k).flatten).length ≤ 40) := Lib.hid fun k => by
            have h1 := HPJ.out
            have h2 : ((P.take k).flatten).length ≤ P.flatten.length := by
              conv => rhs; rw [← List.take_append_drop k P]
              rw [List.flatten_append, List.length_append]; omega
            omega
          have hpz : P.length ≤ 9223372036854775807 := by have := HPN.out; omega
          clear CCU z0 z1 zl
          go_loopw [12, 14] (fun v12 v14 wr => ∃ k : Nat, k ≤ P.length ∧ v12 = .string (strL ((P.take k).flatten)) ∧ v14 = .int .i64 (k : Int) ∧ w8 = wr) (fun _ v14 _ => P.length - (intOf v14).toNat)
          case atStart => exact ⟨0, Nat.zero_le _, rfl, rfl, rfl⟩
          case round =>
            obtain ⟨k, hk, rfl, rfl, rfl⟩ := hrel
            have hsz1 : (strL ((P.take k).flatten)).size = ((P.take k).flatten).length := strL_size _
            have hb1 := HFB.out k
            by_cases hlt : k < P.length
            case pos =>
              have ik : (k : Int) < (P.length : Int) := by omega
              obtain ⟨b, off, hA, hbw, hcell⟩ := HR8.out.2.2 (by simp; omega)
              subst hA
              have ck := hcell k (by simpa using hlt)
              rw [show (P.map strL).getD k ByteArray.empty = strL (P.getD k []) by rw [List.getD_eq_getElem?_getD, List.getElem?_map, List.getElem?_eq_getElem hlt, List.getD_eq_getElem?_getD, List.getElem?_eq_getElem hlt]; rfl] at ck
              have HTK : Hid ((P.take (k + 1)).flatten = (P.take k).flatten ++ P.getD k []) := Lib.hid (by
                rw [List.take_succ_eq_append_getElem hlt, List.flatten_append, List.getD_eq_getElem?_getD, List.getElem?_eq_getElem hlt]; simp)
              have hb2 := HFB.out (k + 1)
              rw [HTK.out, List.length_append] at hb2
              clear hcell
              generalize P.getD k [] = y at *
              generalize (P.take k).flatten = x at *
              have hsz2 : (strL y).size = y.length := strL_size _
              have hap : strL x ++ strL y = strL (x ++ y) := strL_append _ _
              have j1 : ¬ 9223372036854775807 < x.length + y.length := by omega
              go_wp2
              go_roundw
              case rel => exact ⟨k + 1, by omega, by rw [HTK.out], by go_num, by trivial⟩
              case measure => simp [intOf]; omega
            case neg =>
              obtain rfl : k = P.length := by omega
              have ik : ¬ (P.length : Int) < (P.length : Int) := by omega
              rw [List.take_length] at hsz1 ⊢
              have hb8 := HBY.out.ext HX8.out
              have x0 := hb8.cell 0 _ rfl; have x1 := hb8.cell 1 _ rfl; have x2 := hb8.cell 2 _ rfl; have x3 := hb8.cell 3 _ rfl; have x4 := hb8.cell 4 _ rfl; have xl := hb8.lt
              clear hb8 hb1 HFB hsz1
              have CSM := Lib.hid fun X => same_any (strL P.flatten) s X (by rw [strL_size]; have := HPJ.out; omega) (by omega)
              rw [strL_list] at CSM
              by_cases hlow : low s.data.toList = P.flatten
              case pos =>
                have HLW := Lib.hid hlow
                clear HELW hlow
                go_wp2_with (first | (go_at_call 15; refine Calls.mono (CH.out _ (HO3.out.rur.ext (HX8.out.trans (by repeat (first | exact Ext.refl _ | assumption | refine Ext.alloc ?_ _ | refine Ext.drew ?_ | refine Ext.drewN ?_ _ | (refine Ext.setCell ?_ (by simp <;> omega) _) | refine Ext.trans ?_ (by assumption)))))) ?_; rintro e w9 ⟨A9, c9, rfl, hs9, hx⟩; have HXL9 := Lib.hid (HXL8.out.trans (Ext.trans (by repeat (first | exact Ext.refl _ | assumption | refine Ext.alloc ?_ _ | refine Ext.drew ?_ | refine Ext.drewN ?_ _ | (refine Ext.setCell ?_ (by simp <;> omega) _) | refine Ext.trans ?_ (by assumption))) hx)); clear hs9 hx) | (go_at_call 34; refine Calls.mono (CSM.out _) ?_; rintro e w10 ⟨v, rfl, hv, hx⟩; have hv2 := hv HLW.out; subst hv2; have HXLA := Lib.hid (HXL9.out.trans (Ext.trans (by repeat (first | exact Ext.refl _ | assumption | refine Ext.alloc ?_ _ | refine Ext.drew ?_ | refine Ext.drewN ?_ _ | (refine Ext.setCell ?_ (by simp <;> omega) _) | refine Ext.trans ?_ (by assumption))) hx)); clear hv hx))
                go_meet
                case rel => exact HXLA
              case neg =>
                have hzx : zx = zs := HELW.out hlow
                subst hzx
                clear HELW hlow
                go_wp2_with (first | (go_at_call 15; refine Calls.mono (CH.out _ (HO3.out.rur.ext (HX8.out.trans (by repeat (first | exact Ext.refl _ | assumption | refine Ext.alloc ?_ _ | refine Ext.drew ?_ | refine Ext.drewN ?_ _ | (refine Ext.setCell ?_ (by simp <;> omega) _) | refine Ext.trans ?_ (by assumption)))))) ?_; rintro e w9 ⟨A9, c9, rfl, hs9, hx⟩; have HL9 := Lib.hid hs9.ri; have HXL9 := Lib.hid (HXL8.out.trans (Ext.trans (by repeat (first | exact Ext.refl _ | assumption | refine Ext.alloc ?_ _ | refine Ext.drew ?_ | refine Ext.drewN ?_ _ | (refine Ext.setCell ?_ (by simp <;> omega) _) | refine Ext.trans ?_ (by assumption))) hx)); clear hs9 hx) | (go_at_call 34; refine Calls.mono (CSM.out _) ?_; rintro e w10 ⟨v, rfl, hv, hx⟩; have HXLA := Lib.hid (HXL9.out.trans (Ext.trans (by repeat (first | exact Ext.refl _ | assumption | refine Ext.alloc ?_ _ | refine Ext.drew ?_ | refine Ext.drewN ?_ _ | (refine Ext.setCell ?_ (by simp <;> omega) _) | refine Ext.trans ?_ (by assumption))) hx)); have HL9A := Lib.hid (HL9.out.ext (Ext.trans (by repeat (first | exact Ext.refl _ | assumption | refine Ext.alloc ?_ _ | refine Ext.drew ?_ | refine Ext.drewN ?_ _ | (refine Ext.setCell ?_ (by simp <;> omega) _) | refine Ext.trans ?_ (by assumption))) hx)); clear hv hx) | (go_at_call 19; refine Calls.mono (ints_any A5 A9 c5 c9 zx zx _ (HL5c.out.ext (HXLA.out.trans (by repeat (first | exact Ext.refl _ | assumption | refine Ext.alloc ?_ _ | refine Ext.drew ?_ | refine Ext.drewN ?_ _ | (refine Ext.setCell ?_ (by simp <;> omega) _) | refine Ext.trans ?_ (by assumption))))) (HL9A.out.ext (by repeat (first | exact Ext.refl _ | assumption | refine Ext.alloc ?_ _ | refine Ext.drew ?_ | refine Ext.drewN ?_ _ | (refine Ext.setCell ?_ (by simp <;> omega) _) | refine Ext.trans ?_ (by assumption))))) ?_; rw [decide_eq_true rfl]; rintro e w11 ⟨rfl, hx⟩; have HXLB := Lib.hid (HXLA.out.trans (Ext.trans (by repeat (first | exact Ext.refl _ | assumption | refine Ext.alloc ?_ _ | refine Ext.drew ?_ | refine Ext.drewN ?_ _ | (refine Ext.setCell ?_ (by simp <;> omega) _) | refine Ext.trans ?_ (by assumption))) hx)); clear hx))
                all_goals
                  go_meet
                  case rel => first | exact HXLB | exact HXLA
      case rest =>
      have HXM : Hid (Ext wl wc) := hcut
      clear HXL HO3 HBY x0 x1 x2 x3 x4 xl z0 z1 zl HX6 HXL6 HELW CXH CXE hcut
      have HXL := HXM
      clear HXM
      obtain ⟨_, z0, z1, zl⟩ := HBC.out _ (HXWL.out.trans HXL.out)
      obtain ⟨⟨y0, y1, y2⟩, y3, y4, yl⟩ := (HBC.out _ (HXWL.out.trans HXL.out)).1
      go_upto_region 22 with (first | (go_at_call 16; refine Calls.mono (CCR.out _ (HXWL.out.trans (HXL.out.trans (by repeat (first | exact Ext.refl _ | assumption | refine Ext.alloc ?_ _ | refine Ext.drew ?_ | refine Ext.drewN ?_ _ | (refine Ext.setCell ?_ (by simp <;> omega) _) | refine Ext.trans ?_ (by assumption)))))) ?_; rintro e w3 ⟨a1, rfl, hru, hx⟩; have HOR := Lib.hid hru; have HX3 := Lib.hid (Ext.trans (a := wc) (by repeat (first | exact Ext.refl _ | assumption | refine Ext.alloc ?_ _ | refine Ext.drew ?_ | refine Ext.drewN ?_ _ | (refine Ext.setCell ?_ (by simp <;> omega) _) | refine Ext.trans ?_ (by assumption))) hx); clear hru hx))
      clear y0 y1 y2 y3 y4 yl z0 z1 zl
      obtain ⟨bs, hbs⟩ : ∃ bs, bs = (wc).heap.size := ⟨_, rfl⟩
      rw [← hbs] at HOR
      have HBX := Lib.hid (Blk.new w3 24 #[.slice a1.pa r.pats.length a1.pc, .slice a1.ea r.excs.length a1.ec, .slice a1.ba r.bars.length a1.bc, .int .i64 r.left, .int .i64 r.right])
      have HOX := Lib.hid (HOR.out.ext ((Ext.refl w3).alloc (.cells #[.slice a1.pa r.pats.length a1.pc, .slice a1.ea r.excs.length a1.ec, .slice a1.ba r.bars.length a1.bc, .int .i64 r.left, .int .i64 r.right] 24)))
      have HXX := Lib.hid (HX3.out.trans ((Ext.refl w3).alloc (.cells #[.slice a1.pa r.pats.length a1.pc, .slice a1.ea r.excs.length a1.ec, .slice a1.ba r.bars.length a1.bc, .int .i64 r.left, .int .i64 r.right] 24)))
      have HXB : Hid (bs ≤ w3.heap.size) := Lib.hid (by rw [hbs]; exact HX3.out.size)
      have HXS : Hid ((wc).heap.size ≤ bs) := Lib.hid (by omega)
      clear hbs HX3 HOR
      generalize w3.alloc (.cells #[.slice a1.pa r.pats.length a1.pc, .slice a1.ea r.excs.length a1.ec, .slice a1.ba r.bars.length a1.bc, .int .i64 r.left, .int .i64 r.right] 24) = wx at *
      generalize w3.heap.size = xb at *
      obtain ⟨_, z0, z1, zl⟩ := HBC.out _ (HXWL.out.trans (HXL.out.trans HXX.out))
      have x0 := HBX.out.cell 0 _ rfl; have x1 := HBX.out.cell 1 _ rfl; have xl := HBX.out.lt
      go_upto_region 23 with (at_builtin; refine list_pushW rfl (.tmp 119) (.tmp 122) rfl bs _ (bytesOf r.pats) rfl (HOX.out.o.p.ext (by repeat (first | exact Ext.refl _ | assumption | refine Ext.alloc ?_ _ | refine Ext.drew ?_ | refine Ext.drewN ?_ _ | (refine Ext.setCell ?_ (by simp <;> omega) _) | refine Ext.trans ?_ (by assumption)))) wx.heap.size m1.data.toList rfl (by rw [strL_of]; simp) (by rw [bytesOf_len]; omega) (by have h1 := HXX.out.size; have h2 := HBX.out.lt; have h3 := HXB.out; simp; omega) ?_; intro v' w4 ho hg; obtain ⟨A7, c7, rfl, ho3⟩ := (HOX.out.ext ((Ext.refl wx).alloc (.cells #[.string m1] 9))).pushP hnp hg ho; have hb4 := Blk.grownB (HBX.out.ext ((Ext.refl wx).alloc (.cells #[.string m1] 9))) hg (fun e => (by obtain ⟨c9, h9⟩ := OwnW.is (HOX.out.o.p.ext ((Ext.refl wx).alloc (.cells #[.string m1] 9))) e; exact blk_neT h9 (HBX.out.ext ((Ext.refl wx).alloc (.cells #[.string m1] 9))) (by decide) rfl)); have hx4 : Ext wc w4 := Ext.grown (HXX.out.trans ((Ext.refl wx).alloc (.cells #[.string m1] 9))) hg (fun k e => Nat.le_trans HXS.out (World.ownsRow.lt (HOX.out.o.p) k e).1); have HO4 := Lib.hid (ho3.sto (i := 0) (u := .slice A7 (r.pats.length + 1) c7) hb4); have HB4 := Lib.hid (hb4.set_ 0 (.slice A7 (r.pats.length + 1) c7)); have HX4 := Lib.hid (hx4.setCell (p := ⟨xb, 0, none⟩) (Nat.le_trans HXS.out HXB.out) (.slice A7 (r.pats.length + 1) c7)); have q0 := hb4.cell 0 _ rfl; have q1 := hb4.cell 1 _ rfl; have ql := hb4.lt; have F4 := hb4.frozen; clear ho hg ho3 hb4 hx4)
      clear q0 q1 ql F4 x0 x1 xl z0 z1 zl HBX HOX HXX
      generalize w4.setCell ⟨xb, 0, none⟩ (.slice A7 (r.pats.length + 1) c7) = wy at *
      have HO3 := HO4; clear HO4
      have HBY : Hid (Blk wy xb 24 #[.slice A7 (r.pats.length + 1) c7, .slice a1.ea r.excs.length a1.ec, .slice a1.ba r.bars.length a1.bc, .int .i64 r.left, .int .i64 r.right]) := Lib.hid HB4.out
      have HXM := Lib.hid (HXL.out.trans HX4.out); clear HXL HX4 HB4
      have HXL := HXM; clear HXM
      have x0 := HBY.out.cell 0 _ rfl; have x1 := HBY.out.cell 1 _ rfl; have x2 := HBY.out.cell 2 _ rfl; have x3 := HBY.out.cell 3 _ rfl; have x4 := HBY.out.cell 4 _ rfl; have xl := HBY.out.lt
      have HXF := Lib.hid (HXW.out.trans (HXWL.out.trans HXL.out))
      go_upto_if 127 with (first | (go_at_call 33; refine Calls.mono (CYE.out ⟨A7, c7, a1.ea, a1.ec, a1.ba, a1.bc⟩ _ (HO3.out.rur.ext (by repeat (first | exact Ext.refl _ | assumption | refine Ext.alloc ?_ _ | refine Ext.drew ?_ | refine Ext.drewN ?_ _ | (refine Ext.setCell ?_ (by simp <;> omega) _) | refine Ext.trans ?_ (by assumption))))) ?_; rintro e w6 ⟨rfl, hx⟩; have HXL6 := Lib.hid (Ext.trans (a := wy) (by repeat (first | exact Ext.refl _ | assumption | refine Ext.alloc ?_ _ | refine Ext.drew ?_ | refine Ext.drewN ?_ _ | (refine Ext.setCell ?_ (by simp <;> omega) _) | refine Ext.trans ?_ (by assumption))) hx); have hb8 := HBY.out.ext (Ext.trans (a := wy) (by repeat (first | exact Ext.refl _ | assumption | refine Ext.alloc ?_ _ | refine Ext.drew ?_ | refine Ext.drewN ?_ _ | (refine Ext.setCell ?_ (by simp <;> omega) _) | refine Ext.trans ?_ (by assumption))) hx); have k0 := hb8.cell 0 _ rfl; have k1 := hb8.cell 1 _ rfl; have k2 := hb8.cell 2 _ rfl; have k3 := hb8.cell 3 _ rfl; have k4 := hb8.cell 4 _ rfl; have kl := hb8.lt; clear hx hb8))
      clear x0 x1 x2 x3 x4 xl
      by_cases hey : ey = 0
      case neg =>
        have bey : (ey != 0) = true := by simpa using hey
        go_wp2_with fail
        go_ret
        exact Ret.mk' rfl (HXF.out.trans HXL6.out)
      case pos =>
        have bey : (ey != 0) = false := by simp [hey]
        have CH := Lib.hid fun X h => CYL.out ⟨A7, c7, a1.ea, a1.ec, a1.ba, a1.bc⟩ X hey h
        have blen : ((ly.length : Int) != (ll.length : Int)) = false := by rw [HLVN.out, HLVM.out]; simp
        clear hey CYL CYE
        have hlb : ly.length ≤ 9223372036854775807 := by have := HLVM.out; omega
        go_upto_region 29 with (first | (go_at_call 32; refine Calls.mono (CH.out _ (HO3.out.rur.ext (HXL6.out.trans (by repeat (first | exact Ext.refl _ | assumption | refine Ext.alloc ?_ _ | refine Ext.drew ?_ | refine Ext.drewN ?_ _ | (refine Ext.setCell ?_ (by simp <;> omega) _) | refine Ext.trans ?_ (by assumption)))))) ?_; rintro e w9 ⟨A9, c9, rfl, hs9, hx⟩; have HL9 := Lib.hid hs9.ri; have HXL9 := Lib.hid (HXL6.out.trans (Ext.trans (by repeat (first | exact Ext.refl _ | assumption | refine Ext.alloc ?_ _ | refine Ext.drew ?_ | refine Ext.drewN ?_ _ | (refine Ext.setCell ?_ (by simp <;> omega) _) | refine Ext.trans ?_ (by assumption))) hx)); clear hs9 hx))
        have HL6c := Lib.hid (HL6.out.ext (HXL.out.trans HXL9.out))
        have HXG := Lib.hid (HXF.out.trans HXL9.out)
        clear k0 k1 k2 k3 k4 kl
        go_loopw [20] (fun v20 wr => ∃ k : Nat, k ≤ ly.length ∧ v20 = .int .i64 (k : Int) ∧ Hid (Ext w9 wr)) (fun v20 _ => ly.length - (intOf v20).toNat)
        case atStart => exact ⟨0, Nat.zero_le _, rfl, Lib.hid (Ext.refl _)⟩
        case round =>
          obtain ⟨k, hk, rfl, HXR⟩ := hrel
          by_cases hlt : k < ly.length
          case pos =>
            have ik : (k : Int) < (ly.length : Int) := by omega
            have hlt2 : k < ll.length := by rw [HLVN.out, ← HLVM.out]; exact hlt
            have ik2 : (k : Int) < (ll.length : Int) := by omega
            obtain ⟨b5, o5, hA9, hl5, hc5⟩ := (HL9.out.ext HXR.out).2.2 (by omega)
            obtain ⟨b6, o6, hA6, hl6, hc6⟩ := (HL6c.out.ext HXR.out).2.2 (by omega)
            have m5 := hc5 k hlt
            have m6 := hc6 k hlt2
            have HPK := HPLW.out k (by rw [HLVM.out] at hlt; omega)
            subst hA9 hA6
            clear hc5 hc6
            generalize ly.getD k 0 = x at *
            generalize ll.getD k 0 = y at *
            have hnl : ¬ x < y := by omega
            go_upto_region 31 with fail
            go_quiet (fail)
            go_wp2
            go_roundw
            case rel => exact ⟨k + 1, by omega, by go_num, Lib.hid (HXR.out.trans (by repeat (first | exact Ext.refl _ | assumption | refine Ext.alloc ?_ _ | refine Ext.drew ?_ | refine Ext.drewN ?_ _ | (refine Ext.setCell ?_ (by simp <;> omega) _) | refine Ext.trans ?_ (by assumption))))⟩
            case measure => simp [intOf]; omega
          case neg =>
            obtain rfl : k = ly.length := by omega
            have ik : ¬ (ly.length : Int) < (ly.length : Int) := by omega
            go_wp2
            go_ret
            exact Ret.mk' rfl (HXG.out.trans HXR.out)
      -- END F
end Go.Proofs.YtccdnieoaejgdaaGreatDoor.textexceptions
