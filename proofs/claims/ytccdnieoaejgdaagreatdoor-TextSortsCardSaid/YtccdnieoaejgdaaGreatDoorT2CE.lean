/-
  Walk: TextSorts returns true.
-/
import Derived.Test.YtccdnieoaejgdaaGreatDoorT2CD
import Derived.Test.YtccdnieoaejgdaaGreatDoorT2CA
import Derived.Test.YtccdnieoaejgdaaGreatDoorT2BZ
import Derived.Test.YtccdnieoaejgdaaGreatDoorT2CB
import Derived.Test.YtccdnieoaejgdaaGreatDoorT2BG
import Derived.Test.YtccdnieoaejgdaaGreatDoorT2CG
import Derived.Test.YtccdnieoaejgdaaGreatDoorT2BF
set_option linter.unusedVariables false
set_option linter.unusedSimpArgs false
set_option linter.unusedSectionVars false
namespace Go.Proofs.YtccdnieoaejgdaaGreatDoor.textsorts
open Go.RowKit Go.Lib
attribute [local go_sem] stateAt vu known List.map_cons List.map_nil Option.getD_some

set_option maxRecDepth 100000 in
set_option maxHeartbeats 8000000 in
theorem walk (f : FT) (A : Option Addr) (c : Nat) (r : RU) (a : RuA) (s : ByteArray) (w : World) (hf : FR w A c f) (hr : RuR w a r) (hz : s.size ≤ maxLen) (_hT : True) : Calls Tryz.prog 4 #[f.val A c, r.val a, .string s] w (Ret (.bool true) w) := by
  have HXW : Hid (Ext w ((w.alloc (.cells #[.string f.name, .int .i64 f.body, .slice A f.sorts.length c] 42)).alloc (.cells #[.slice a.pa r.pats.length a.pc, .slice a.ea r.excs.length a.ec, .slice a.ba r.bars.length a.bc, .int .i64 r.left, .int .i64 r.right] 24))) := Lib.hid (((Ext.refl w).alloc _).alloc _)
  have CFE := Lib.hid fun X (hx : Ext ((w.alloc (.cells #[.string f.name, .int .i64 f.body, .slice A f.sorts.length c] 42)).alloc (.cells #[.slice a.pa r.pats.length a.pc, .slice a.ea r.excs.length a.ec, .slice a.ba r.bars.length a.bc, .int .i64 r.left, .int .i64 r.right] 24)) X) => few2_any f A c X (hf.ext (HXW.out.trans hx))
  have CSH := Lib.hid fun X (hx : Ext ((w.alloc (.cells #[.string f.name, .int .i64 f.body, .slice A f.sorts.length c] 42)).alloc (.cells #[.slice a.pa r.pats.length a.pc, .slice a.ea r.excs.length a.ec, .slice a.ba r.bars.length a.bc, .int .i64 r.left, .int .i64 r.right] 24)) X) => Short_any r a X (hr.ext (HXW.out.trans hx))
  have HBF : Hid (∀ X, Ext ((w.alloc (.cells #[.string f.name, .int .i64 f.body, .slice A f.sorts.length c] 42)).alloc (.cells #[.slice a.pa r.pats.length a.pc, .slice a.ea r.excs.length a.ec, .slice a.ba r.bars.length a.bc, .int .i64 r.left, .int .i64 r.right] 24)) X → X.cell? ⟨w.heap.size, 0, none⟩ = some (.string f.name) ∧ X.cell? ⟨w.heap.size, 1, none⟩ = some (.int .i64 f.body) ∧ X.cell? ⟨w.heap.size, 2, none⟩ = some (.slice A f.sorts.length c) ∧ w.heap.size < X.heap.size) := Lib.hid fun X hx =>
    (((Blk.new w 42 #[.string f.name, .int .i64 f.body, .slice A f.sorts.length c]).alloc _).ext hx).c3
  have HBC : Hid (∀ X, Ext ((w.alloc (.cells #[.string f.name, .int .i64 f.body, .slice A f.sorts.length c] 42)).alloc (.cells #[.slice a.pa r.pats.length a.pc, .slice a.ea r.excs.length a.ec, .slice a.ba r.bars.length a.bc, .int .i64 r.left, .int .i64 r.right] 24)) X → (X.cell? ⟨w.heap.size + 1, 0, none⟩ = some (.slice a.pa r.pats.length a.pc) ∧ X.cell? ⟨w.heap.size + 1, 1, none⟩ = some (.slice a.ea r.excs.length a.ec) ∧ X.cell? ⟨w.heap.size + 1, 2, none⟩ = some (.slice a.ba r.bars.length a.bc)) ∧ X.cell? ⟨w.heap.size + 1, 3, none⟩ = some (.int .i64 r.left) ∧ X.cell? ⟨w.heap.size + 1, 4, none⟩ = some (.int .i64 r.right) ∧ w.heap.size + 1 < X.heap.size) := Lib.hid fun X hx => by
    have hb := (Blk.new1 w (.cells #[.string f.name, .int .i64 f.body, .slice A f.sorts.length c] 42) 24 #[.slice a.pa r.pats.length a.pc, .slice a.ea r.excs.length a.ec, .slice a.ba r.bars.length a.bc, .int .i64 r.left, .int .i64 r.right]).ext hx
    exact ⟨⟨hb.cell 0 _ rfl, hb.cell 1 _ rfl, hb.cell 2 _ rfl⟩, hb.cell 3 _ rfl, hb.cell 4 _ rfl, hb.lt⟩
  have HX : Hid (Ext ((w.alloc (.cells #[.string f.name, .int .i64 f.body, .slice A f.sorts.length c] 42)).alloc (.cells #[.slice a.pa r.pats.length a.pc, .slice a.ea r.excs.length a.ec, .slice a.ba r.bars.length a.bc, .int .i64 r.left, .int .i64 r.right] 24)) ((w.alloc (.cells #[.string f.name, .int .i64 f.body, .slice A f.sorts.length c] 42)).alloc (.cells #[.slice a.pa r.pats.length a.pc, .slice a.ea r.excs.length a.ec, .slice a.ba r.bars.length a.bc, .int .i64 r.left, .int .i64 r.right] 24))) := Lib.hid (Ext.refl _)
  have hz9 : s.size ≤ 9223372036854775807 := by unfold maxLen at hz; omega
  cases hfe : fewB2 f
  case false =>
    rw [hfe] at CFE
    clear hf hr hz hfe
    -- BEGIN A
    unfold RU.val FT.val at *
    show Calls _ _ #[.agg #[.string f.name, .int .i64 f.body, .slice A f.sorts.length c], .agg #[.slice a.pa r.pats.length a.pc, .slice a.ea r.excs.length a.ec, .slice a.ba r.bars.length a.bc, .int .i64 r.left, .int .i64 r.right], .string s] _ _
    go_enter Tryz.func4, Tryz.ntmps4
    go_wp2_with (first | (go_at_call 13; refine Calls.mono (awake2_any _) ?_; rintro e w1 ⟨rfl, hx⟩; have HX9 := Lib.hid (HX.out.trans (Ext.trans (by repeat (first | exact Ext.refl _ | assumption | refine Ext.alloc ?_ _ | refine Ext.drew ?_ | refine Ext.drewN ?_ _ | (refine Ext.setCell ?_ (by simp <;> omega) _) | refine Ext.trans ?_ (by assumption))) hx)); clear HX; have HX := HX9; clear HX9; obtain ⟨k0, k1, k2, kl⟩ := HBF.out _ HX.out; obtain ⟨⟨y0, y1, y2⟩, y3, y4, yl⟩ := HBC.out _ HX.out; clear hx) | (go_at_call 23; refine Calls.mono (CFE.out _ (HX.out.trans (by repeat (first | exact Ext.refl _ | assumption | refine Ext.alloc ?_ _ | refine Ext.drew ?_ | refine Ext.drewN ?_ _ | (refine Ext.setCell ?_ (by simp <;> omega) _) | refine Ext.trans ?_ (by assumption))))) ?_; rintro e w2 ⟨rfl, hx⟩; have HX9 := Lib.hid (HX.out.trans (Ext.trans (by repeat (first | exact Ext.refl _ | assumption | refine Ext.alloc ?_ _ | refine Ext.drew ?_ | refine Ext.drewN ?_ _ | (refine Ext.setCell ?_ (by simp <;> omega) _) | refine Ext.trans ?_ (by assumption))) hx)); clear HX; have HX := HX9; clear HX9; obtain ⟨k0, k1, k2, kl⟩ := HBF.out _ HX.out; obtain ⟨⟨y0, y1, y2⟩, y3, y4, yl⟩ := HBC.out _ HX.out; clear hx) | (go_at_call 14; refine Calls.mono (CSH.out _ (HX.out.trans (by repeat (first | exact Ext.refl _ | assumption | refine Ext.alloc ?_ _ | refine Ext.drew ?_ | refine Ext.drewN ?_ _ | (refine Ext.setCell ?_ (by simp <;> omega) _) | refine Ext.trans ?_ (by assumption))))) ?_; rintro e w3 ⟨rfl, hx⟩; have HX9 := Lib.hid (HX.out.trans (Ext.trans (by repeat (first | exact Ext.refl _ | assumption | refine Ext.alloc ?_ _ | refine Ext.drew ?_ | refine Ext.drewN ?_ _ | (refine Ext.setCell ?_ (by simp <;> omega) _) | refine Ext.trans ?_ (by assumption))) hx)); clear HX; have HX := HX9; clear HX9; obtain ⟨k0, k1, k2, kl⟩ := HBF.out _ HX.out; obtain ⟨⟨y0, y1, y2⟩, y3, y4, yl⟩ := HBC.out _ HX.out; clear hx))
    go_ret
    exact Ret.mk' rfl (HXW.out.trans HX.out)
    -- END A
  case true =>
    have HFE := Lib.hid (fewB2_true.1 hfe)
    rw [hfe] at CFE
    cases hsh : shortU r
    case false =>
      rw [hsh] at CSH
      clear hf hr hz hfe hsh HFE
      -- BEGIN B
      unfold RU.val FT.val at *
      show Calls _ _ #[.agg #[.string f.name, .int .i64 f.body, .slice A f.sorts.length c], .agg #[.slice a.pa r.pats.length a.pc, .slice a.ea r.excs.length a.ec, .slice a.ba r.bars.length a.bc, .int .i64 r.left, .int .i64 r.right], .string s] _ _
      go_enter Tryz.func4, Tryz.ntmps4
      go_wp2_with (first | (go_at_call 13; refine Calls.mono (awake2_any _) ?_; rintro e w1 ⟨rfl, hx⟩; have HX9 := Lib.hid (HX.out.trans (Ext.trans (by repeat (first | exact Ext.refl _ | assumption | refine Ext.alloc ?_ _ | refine Ext.drew ?_ | refine Ext.drewN ?_ _ | (refine Ext.setCell ?_ (by simp <;> omega) _) | refine Ext.trans ?_ (by assumption))) hx)); clear HX; have HX := HX9; clear HX9; obtain ⟨k0, k1, k2, kl⟩ := HBF.out _ HX.out; obtain ⟨⟨y0, y1, y2⟩, y3, y4, yl⟩ := HBC.out _ HX.out; clear hx) | (go_at_call 23; refine Calls.mono (CFE.out _ (HX.out.trans (by repeat (first | exact Ext.refl _ | assumption | refine Ext.alloc ?_ _ | refine Ext.drew ?_ | refine Ext.drewN ?_ _ | (refine Ext.setCell ?_ (by simp <;> omega) _) | refine Ext.trans ?_ (by assumption))))) ?_; rintro e w2 ⟨rfl, hx⟩; have HX9 := Lib.hid (HX.out.trans (Ext.trans (by repeat (first | exact Ext.refl _ | assumption | refine Ext.alloc ?_ _ | refine Ext.drew ?_ | refine Ext.drewN ?_ _ | (refine Ext.setCell ?_ (by simp <;> omega) _) | refine Ext.trans ?_ (by assumption))) hx)); clear HX; have HX := HX9; clear HX9; obtain ⟨k0, k1, k2, kl⟩ := HBF.out _ HX.out; obtain ⟨⟨y0, y1, y2⟩, y3, y4, yl⟩ := HBC.out _ HX.out; clear hx) | (go_at_call 14; refine Calls.mono (CSH.out _ (HX.out.trans (by repeat (first | exact Ext.refl _ | assumption | refine Ext.alloc ?_ _ | refine Ext.drew ?_ | refine Ext.drewN ?_ _ | (refine Ext.setCell ?_ (by simp <;> omega) _) | refine Ext.trans ?_ (by assumption))))) ?_; rintro e w3 ⟨rfl, hx⟩; have HX9 := Lib.hid (HX.out.trans (Ext.trans (by repeat (first | exact Ext.refl _ | assumption | refine Ext.alloc ?_ _ | refine Ext.drew ?_ | refine Ext.drewN ?_ _ | (refine Ext.setCell ?_ (by simp <;> omega) _) | refine Ext.trans ?_ (by assumption))) hx)); clear HX; have HX := HX9; clear HX9; obtain ⟨k0, k1, k2, kl⟩ := HBF.out _ HX.out; obtain ⟨⟨y0, y1, y2⟩, y3, y4, yl⟩ := HBC.out _ HX.out; clear hx))
      go_ret
      exact Ret.mk' rfl (HXW.out.trans HX.out)
      -- END B
    case true =>
      have HSU := Lib.hid (ShortU.of hsh)
      rw [hsh] at CSH
      by_cases h40 : 40 < s.size
      case pos =>
        have i40 : 40 < (s.size : Int) := by omega
        clear hf hr hz hfe hsh HFE HSU
        -- BEGIN C
        unfold RU.val FT.val at *
        show Calls _ _ #[.agg #[.string f.name, .int .i64 f.body, .slice A f.sorts.length c], .agg #[.slice a.pa r.pats.length a.pc, .slice a.ea r.excs.length a.ec, .slice a.ba r.bars.length a.bc, .int .i64 r.left, .int .i64 r.right], .string s] _ _
        go_enter Tryz.func4, Tryz.ntmps4
        go_wp2_with (first | (go_at_call 13; refine Calls.mono (awake2_any _) ?_; rintro e w1 ⟨rfl, hx⟩; have HX9 := Lib.hid (HX.out.trans (Ext.trans (by repeat (first | exact Ext.refl _ | assumption | refine Ext.alloc ?_ _ | refine Ext.drew ?_ | refine Ext.drewN ?_ _ | (refine Ext.setCell ?_ (by simp <;> omega) _) | refine Ext.trans ?_ (by assumption))) hx)); clear HX; have HX := HX9; clear HX9; obtain ⟨k0, k1, k2, kl⟩ := HBF.out _ HX.out; obtain ⟨⟨y0, y1, y2⟩, y3, y4, yl⟩ := HBC.out _ HX.out; clear hx) | (go_at_call 23; refine Calls.mono (CFE.out _ (HX.out.trans (by repeat (first | exact Ext.refl _ | assumption | refine Ext.alloc ?_ _ | refine Ext.drew ?_ | refine Ext.drewN ?_ _ | (refine Ext.setCell ?_ (by simp <;> omega) _) | refine Ext.trans ?_ (by assumption))))) ?_; rintro e w2 ⟨rfl, hx⟩; have HX9 := Lib.hid (HX.out.trans (Ext.trans (by repeat (first | exact Ext.refl _ | assumption | refine Ext.alloc ?_ _ | refine Ext.drew ?_ | refine Ext.drewN ?_ _ | (refine Ext.setCell ?_ (by simp <;> omega) _) | refine Ext.trans ?_ (by assumption))) hx)); clear HX; have HX := HX9; clear HX9; obtain ⟨k0, k1, k2, kl⟩ := HBF.out _ HX.out; obtain ⟨⟨y0, y1, y2⟩, y3, y4, yl⟩ := HBC.out _ HX.out; clear hx) | (go_at_call 14; refine Calls.mono (CSH.out _ (HX.out.trans (by repeat (first | exact Ext.refl _ | assumption | refine Ext.alloc ?_ _ | refine Ext.drew ?_ | refine Ext.drewN ?_ _ | (refine Ext.setCell ?_ (by simp <;> omega) _) | refine Ext.trans ?_ (by assumption))))) ?_; rintro e w3 ⟨rfl, hx⟩; have HX9 := Lib.hid (HX.out.trans (Ext.trans (by repeat (first | exact Ext.refl _ | assumption | refine Ext.alloc ?_ _ | refine Ext.drew ?_ | refine Ext.drewN ?_ _ | (refine Ext.setCell ?_ (by simp <;> omega) _) | refine Ext.trans ?_ (by assumption))) hx)); clear HX; have HX := HX9; clear HX9; obtain ⟨k0, k1, k2, kl⟩ := HBF.out _ HX.out; obtain ⟨⟨y0, y1, y2⟩, y3, y4, yl⟩ := HBC.out _ HX.out; clear hx))
        go_ret
        exact Ret.mk' rfl (HXW.out.trans HX.out)
        -- END C
      case neg =>
        have i40 : ¬ 40 < (s.size : Int) := by omega
        have CCF := Lib.hid fun X (hx : Ext ((w.alloc (.cells #[.string f.name, .int .i64 f.body, .slice A f.sorts.length c] 42)).alloc (.cells #[.slice a.pa r.pats.length a.pc, .slice a.ea r.excs.length a.ec, .slice a.ba r.bars.length a.bc, .int .i64 r.left, .int .i64 r.right] 24)) X) => copyFount_anyM f A c X (hf.ext (HXW.out.trans hx)) (by have := HFE.out.2.1; omega)
        have CCR := Lib.hid fun X (hx : Ext ((w.alloc (.cells #[.string f.name, .int .i64 f.body, .slice A f.sorts.length c] 42)).alloc (.cells #[.slice a.pa r.pats.length a.pc, .slice a.ea r.excs.length a.ec, .slice a.ba r.bars.length a.bc, .int .i64 r.left, .int .i64 r.right] 24)) X) => copyRules_any r a X (hr.ext (HXW.out.trans hx)) ⟨by have := HSU.out.p.1; omega, by have := HSU.out.e.1; omega, by have := HSU.out.b.1; omega⟩
        have CFM := Lib.hid fun X B d (h : FR X B d f) => FirstMissing_any f B d s X h (by omega)
        have CSO := Lib.hid fun X B d b (h : FR X B d f) (h2 : RuR X b r) => SortsOf_any f B d r b s X h h2 HSU.out (by omega)
        have CRF := Lib.hid fun X (hx : Ext ((w.alloc (.cells #[.string f.name, .int .i64 f.body, .slice A f.sorts.length c] 42)).alloc (.cells #[.slice a.pa r.pats.length a.pc, .slice a.ea r.excs.length a.ec, .slice a.ba r.bars.length a.bc, .int .i64 r.left, .int .i64 r.right] 24)) X) => rFountErr_any f A c X (hf.ext (HXW.out.trans hx))
        have CIW := Lib.hid fun X => rIsWord_any s X (by omega)
        have CRM := Lib.hid fun X (hx : Ext ((w.alloc (.cells #[.string f.name, .int .i64 f.body, .slice A f.sorts.length c] 42)).alloc (.cells #[.slice a.pa r.pats.length a.pc, .slice a.ea r.excs.length a.ec, .slice a.ba r.bars.length a.bc, .int .i64 r.left, .int .i64 r.right] 24)) X) => rFirstMissing_any f A c s X (hf.ext (HXW.out.trans hx)) (by omega)
        have CWE := Lib.hid fun X (hx : Ext ((w.alloc (.cells #[.string f.name, .int .i64 f.body, .slice A f.sorts.length c] 42)).alloc (.cells #[.slice a.pa r.pats.length a.pc, .slice a.ea r.excs.length a.ec, .slice a.ba r.bars.length a.bc, .int .i64 r.left, .int .i64 r.right] 24)) X) => wordErr_any f A c r a s X (hf.ext (HXW.out.trans hx)) (hr.ext (HXW.out.trans hx)) HSU.out (by omega)
        have CRS := Lib.hid fun X (hx : Ext ((w.alloc (.cells #[.string f.name, .int .i64 f.body, .slice A f.sorts.length c] 42)).alloc (.cells #[.slice a.pa r.pats.length a.pc, .slice a.ea r.excs.length a.ec, .slice a.ba r.bars.length a.bc, .int .i64 r.left, .int .i64 r.right] 24)) X) (hE : wordE f r s = 0) => rSortsOf_any f A c r a s X (hf.ext (HXW.out.trans hx)) (hr.ext (HXW.out.trans hx)) HSU.out hE
        have HV0 : Hid (wordE f r s ≠ 0 → sortsV f r s = [] ∧ sortsE f r s = wordE f r s) := Lib.hid fun h => ⟨by unfold sortsV setV; rw [if_pos h], by unfold sortsE setE; rw [if_pos h]⟩
        have HFV : Hid (fmV f s = if (chk f).2 = 0 then (if wordB s = true then (match fmTo f.sorts s.data.toList s.size with | some k => ((k : Int), 0) | none => (0, 12)) else (0, 3)) else (0, (chk f).2)) := Lib.hid rfl
        have HFO : Hid (fmOf f.sorts s.data.toList = match fmTo f.sorts s.data.toList s.size with | some k => (k : Int) | none => -1) := Lib.hid (by unfold fmOf; rw [show s.data.toList.length = s.size by simp]; cases fmTo f.sorts s.data.toList s.size <;> rfl)
        have HW1 : Hid ((chk f).2 ≠ 0 → wordE f r s ≠ 0) := Lib.hid fun h h2 => h (wordE_ok h2).1
        have HW2 : Hid (wordB s = false → wordE f r s ≠ 0) := Lib.hid fun h h2 => by have := (wordE_ok h2).2.2; rw [h] at this; cases this
        unfold RU.val FT.val at *
        clear hf hr hz hfe hsh HFE HSU h40
        generalize fmOf f.sorts s.data.toList = wn at *
        generalize fmTo f.sorts s.data.toList s.size = fm at *
        generalize fmV f s = fv at *
        generalize sortsV f r s = zs at *
        generalize sortsE f r s = er at *
        generalize wordE f r s = we at *
        generalize (chk f).2 = ce at *
        generalize wordB s = wb at *
        show Calls _ _ #[.agg #[.string f.name, .int .i64 f.body, .slice A f.sorts.length c], .agg #[.slice a.pa r.pats.length a.pc, .slice a.ea r.excs.length a.ec, .slice a.ba r.bars.length a.bc, .int .i64 r.left, .int .i64 r.right], .string s] _ _
        go_enter Tryz.func4, Tryz.ntmps4
        go_upto_region 6 with (first | (go_at_call 13; refine Calls.mono (awake2_any _) ?_; rintro e w1 ⟨rfl, hx⟩; have HX9 := Lib.hid (HX.out.trans (Ext.trans (by repeat (first | exact Ext.refl _ | assumption | refine Ext.alloc ?_ _ | refine Ext.drew ?_ | refine Ext.drewN ?_ _ | (refine Ext.setCell ?_ (by simp <;> omega) _) | refine Ext.trans ?_ (by assumption))) hx)); clear HX; have HX := HX9; clear HX9; obtain ⟨k0, k1, k2, kl⟩ := HBF.out _ HX.out; obtain ⟨⟨y0, y1, y2⟩, y3, y4, yl⟩ := HBC.out _ HX.out; clear hx) | (go_at_call 23; refine Calls.mono (CFE.out _ (HX.out.trans (by repeat (first | exact Ext.refl _ | assumption | refine Ext.alloc ?_ _ | refine Ext.drew ?_ | refine Ext.drewN ?_ _ | (refine Ext.setCell ?_ (by simp <;> omega) _) | refine Ext.trans ?_ (by assumption))))) ?_; rintro e w2 ⟨rfl, hx⟩; have HX9 := Lib.hid (HX.out.trans (Ext.trans (by repeat (first | exact Ext.refl _ | assumption | refine Ext.alloc ?_ _ | refine Ext.drew ?_ | refine Ext.drewN ?_ _ | (refine Ext.setCell ?_ (by simp <;> omega) _) | refine Ext.trans ?_ (by assumption))) hx)); clear HX; have HX := HX9; clear HX9; obtain ⟨k0, k1, k2, kl⟩ := HBF.out _ HX.out; obtain ⟨⟨y0, y1, y2⟩, y3, y4, yl⟩ := HBC.out _ HX.out; clear hx) | (go_at_call 14; refine Calls.mono (CSH.out _ (HX.out.trans (by repeat (first | exact Ext.refl _ | assumption | refine Ext.alloc ?_ _ | refine Ext.drew ?_ | refine Ext.drewN ?_ _ | (refine Ext.setCell ?_ (by simp <;> omega) _) | refine Ext.trans ?_ (by assumption))))) ?_; rintro e w3 ⟨rfl, hx⟩; have HX9 := Lib.hid (HX.out.trans (Ext.trans (by repeat (first | exact Ext.refl _ | assumption | refine Ext.alloc ?_ _ | refine Ext.drew ?_ | refine Ext.drewN ?_ _ | (refine Ext.setCell ?_ (by simp <;> omega) _) | refine Ext.trans ?_ (by assumption))) hx)); clear HX; have HX := HX9; clear HX9; obtain ⟨k0, k1, k2, kl⟩ := HBF.out _ HX.out; obtain ⟨⟨y0, y1, y2⟩, y3, y4, yl⟩ := HBC.out _ HX.out; clear hx) | (go_at_call 25; refine Calls.mono (CCF.out _ (HX.out.trans (by repeat (first | exact Ext.refl _ | assumption | refine Ext.alloc ?_ _ | refine Ext.drew ?_ | refine Ext.drewN ?_ _ | (refine Ext.setCell ?_ (by simp <;> omega) _) | refine Ext.trans ?_ (by assumption))))) ?_; rintro e w4 ⟨B4, d4, rfl, h4, hx⟩; have HFR4 := Lib.hid h4; clear h4; have HX9 := Lib.hid (HX.out.trans (Ext.trans (by repeat (first | exact Ext.refl _ | assumption | refine Ext.alloc ?_ _ | refine Ext.drew ?_ | refine Ext.drewN ?_ _ | (refine Ext.setCell ?_ (by simp <;> omega) _) | refine Ext.trans ?_ (by assumption))) hx)); clear HX; have HX := HX9; clear HX9; obtain ⟨k0, k1, k2, kl⟩ := HBF.out _ HX.out; obtain ⟨⟨y0, y1, y2⟩, y3, y4, yl⟩ := HBC.out _ HX.out; clear hx) | (go_at_call 24; refine Calls.mono (CFM.out _ B4 d4 (HFR4.out.ext (by repeat (first | exact Ext.refl _ | assumption | refine Ext.alloc ?_ _ | refine Ext.drew ?_ | refine Ext.drewN ?_ _ | (refine Ext.setCell ?_ (by simp <;> omega) _) | refine Ext.trans ?_ (by assumption))))) ?_; rintro e w5 ⟨rfl, hx⟩; have HX9 := Lib.hid (HX.out.trans (Ext.trans (by repeat (first | exact Ext.refl _ | assumption | refine Ext.alloc ?_ _ | refine Ext.drew ?_ | refine Ext.drewN ?_ _ | (refine Ext.setCell ?_ (by simp <;> omega) _) | refine Ext.trans ?_ (by assumption))) hx)); clear HX; have HX := HX9; clear HX9; obtain ⟨k0, k1, k2, kl⟩ := HBF.out _ HX.out; obtain ⟨⟨y0, y1, y2⟩, y3, y4, yl⟩ := HBC.out _ HX.out; clear hx))
        clear k0 k1 k2 kl y0 y1 y2 y3 y4 yl
        obtain ⟨wr, hwr⟩ : ∃ wr, wr = w5 := ⟨_, rfl⟩
        rw [← hwr] at HX ⊢
        clear hwr
        refine wp_region_rel [some (.agg #[.string f.name, .int .i64 f.body, .slice A f.sorts.length c]), none, some (.agg #[.slice a.pa r.pats.length a.pc, .slice a.ea r.excs.length a.ec, .slice a.ba r.bars.length a.bc, .int .i64 r.left, .int .i64 r.right]), none, some (.string s), none, none, none, some (.int .i64 er), none, some (.int .i64 er)] (fun k v W => (k = 1 → (fun (v : Value) (W : World) => ∃ B d, v = .agg #[.string f.name, .int .i64 f.body, .slice B f.sorts.length d] ∧ FR W B d f) v W) ∧ (k = 3 → (fun (v : Value) (W : World) => ∃ b : RuA, v = .agg #[.slice b.pa r.pats.length b.pc, .slice b.ea r.excs.length b.ec, .slice b.ba r.bars.length b.bc, .int .i64 r.left, .int .i64 r.right] ∧ RuR W b r) v W) ∧ (k = 5 → (fun (v : Value) (W : World) => ∃ C d, v = .tuple #[.slice C zs.length d, .int .i64 er] ∧ RI W C zs.length zs) v W) ∧ (k = 6 → (fun (v : Value) (W : World) => ∃ C d, v = .tuple #[.slice C zs.length d, .int .i64 er] ∧ RI W C zs.length zs) v W) ∧ (k = 7 → (fun (v : Value) (W : World) => ∃ C d, v = .slice C zs.length d ∧ RI W C zs.length zs) v W) ∧ (k = 9 → (fun (v : Value) (W : World) => ∃ C d, v = .slice C zs.length d ∧ RI W C zs.length zs) v W)) wr (by kernel_rfl) (by kernel_rfl) rfl (fun k v W W' h hx => ⟨fun e => let ⟨B, d, h1, h2⟩ := (h.1 e); ⟨B, d, h1, h2.ext hx⟩, fun e => let ⟨b, h1, h2⟩ := (h.2.1 e); ⟨b, h1, h2.ext hx⟩, fun e => let ⟨B, d, h1, h2⟩ := (h.2.2.1 e); ⟨B, d, h1, h2.ext hx⟩, fun e => let ⟨B, d, h1, h2⟩ := (h.2.2.2.1 e); ⟨B, d, h1, h2.ext hx⟩, fun e => let ⟨B, d, h1, h2⟩ := (h.2.2.2.2.1 e); ⟨B, d, h1, h2.ext hx⟩, fun e => let ⟨B, d, h1, h2⟩ := (h.2.2.2.2.2 e); ⟨B, d, h1, h2.ext hx⟩⟩) (Ext.refl _) ⟨?_, ?_, ?_, ?_, ?_, ?_, ?_, ?_, ?_, ?_, ?_, trivial⟩ ?_
        · intro U W hx hR
          clear hR
          obtain ⟨k0, k1, k2, kl⟩ := HBF.out _ (HX.out.trans hx)
          refine StepZ.go rfl ?_
          go_simp
          exact ⟨(by repeat (first | exact Ext.refl _ | assumption | refine Ext.alloc ?_ _ | refine Ext.drew ?_ | refine Ext.drewN ?_ _ | (refine Ext.setCell ?_ (by simp <;> omega) _) | refine Ext.trans ?_ (by assumption))), gives_k (by kernel_rfl)⟩
        · intro U W hx hR
          clear hR
          refine StepZ.go rfl ?_
          go_simp
          refine Calls.mono (CCF.out _ (HX.out.trans hx)) ?_; rintro e w1 ⟨B, d, rfl, h1, hb⟩; exact ⟨_, rfl, hb, gives_e (by kernel_rfl) ⟨fun _ => ⟨B, d, rfl, h1⟩, fun e => absurd e (by decide), fun e => absurd e (by decide), fun e => absurd e (by decide), fun e => absurd e (by decide), fun e => absurd e (by decide)⟩⟩
        · intro U W hx hR
          clear hR
          obtain ⟨⟨y0, y1, y2⟩, y3, y4, yl⟩ := HBC.out _ (HX.out.trans hx)
          refine StepZ.go rfl ?_
          go_simp
          exact ⟨(by repeat (first | exact Ext.refl _ | assumption | refine Ext.alloc ?_ _ | refine Ext.drew ?_ | refine Ext.drewN ?_ _ | (refine Ext.setCell ?_ (by simp <;> omega) _) | refine Ext.trans ?_ (by assumption))), gives_k (by kernel_rfl)⟩
        · intro U W hx hR
          clear hR
          refine StepZ.go rfl ?_
          go_simp
          refine Calls.mono (CCR.out _ (HX.out.trans hx)) ?_; rintro e w1 ⟨b, rfl, h1, _, _, hb⟩; exact ⟨_, rfl, hb, gives_e (by kernel_rfl) ⟨fun e => absurd e (by decide), fun _ => ⟨b, rfl, h1⟩, fun e => absurd e (by decide), fun e => absurd e (by decide), fun e => absurd e (by decide), fun e => absurd e (by decide)⟩⟩
        · intro U W hx hR
          clear hR
          refine StepZ.go rfl ?_
          go_simp
          exact ⟨(by repeat (first | exact Ext.refl _ | assumption | refine Ext.alloc ?_ _ | refine Ext.drew ?_ | refine Ext.drewN ?_ _ | (refine Ext.setCell ?_ (by simp <;> omega) _) | refine Ext.trans ?_ (by assumption))), gives_k (by kernel_rfl)⟩
        · intro U W hx hR
          have r1 := (hR 1 (by decide) (by kernel_rfl)).1 rfl; obtain ⟨B1, d1, e1_, h1⟩ := r1
          have r3 := (hR 3 (by decide) (by kernel_rfl)).2.1 rfl; obtain ⟨b3, e3_, h3⟩ := r3
          clear hR
          (try rw [e1_, e3_])
          refine StepZ.go rfl ?_
          go_simp
          refine Calls.mono (CSO.out _ B1 d1 b3 h1 h3) ?_; rintro e w1 ⟨C, d, rfl, h1, hb⟩; exact ⟨_, rfl, hb, gives_e (by kernel_rfl) ⟨fun e => absurd e (by decide), fun e => absurd e (by decide), fun _ => ⟨C, ⟨d, rfl⟩, h1.ri⟩, fun e => absurd e (by decide), fun e => absurd e (by decide), fun e => absurd e (by decide)⟩⟩
        · intro U W hx hR
          have r5 := (hR 5 (by decide) (by kernel_rfl)).2.2.1 rfl; obtain ⟨C5, d5, e5_, h5⟩ := r5
          clear hR
          (try rw [e5_])
          refine StepZ.go rfl ?_
          go_simp
          exact ⟨Ext.refl _, gives_e (by kernel_rfl) ⟨fun e => absurd e (by decide), fun e => absurd e (by decide), fun e => absurd e (by decide), fun _ => ⟨C5, ⟨d5, rfl⟩, h5⟩, fun e => absurd e (by decide), fun e => absurd e (by decide)⟩⟩
        · intro U W hx hR
          have r6 := (hR 6 (by decide) (by kernel_rfl)).2.2.2.1 rfl; obtain ⟨C6, d6, e6_, h6⟩ := r6
          clear hR
          (try rw [e6_])
          refine StepZ.go rfl ?_
          go_simp
          exact ⟨Ext.refl _, gives_e (by kernel_rfl) ⟨fun e => absurd e (by decide), fun e => absurd e (by decide), fun e => absurd e (by decide), fun e => absurd e (by decide), fun _ => ⟨C6, ⟨d6, rfl⟩, h6⟩, fun e => absurd e (by decide)⟩⟩
        · intro U W hx hR
          have r6 := (hR 6 (by decide) (by kernel_rfl)).2.2.2.1 rfl; obtain ⟨C6, d6, e6_, h6⟩ := r6
          clear hR
          (try rw [e6_])
          refine StepZ.go rfl ?_
          go_simp
          exact ⟨(by repeat (first | exact Ext.refl _ | assumption | refine Ext.alloc ?_ _ | refine Ext.drew ?_ | refine Ext.drewN ?_ _ | (refine Ext.setCell ?_ (by simp <;> omega) _) | refine Ext.trans ?_ (by assumption))), gives_k (by kernel_rfl)⟩
        · intro U W hx hR
          have r7 := (hR 7 (by decide) (by kernel_rfl)).2.2.2.2.1 rfl; obtain ⟨C7, d7, e7_, h7⟩ := r7
          clear hR
          (try rw [e7_])
          refine StepZ.go rfl ?_
          go_simp
          exact ⟨Ext.refl _, gives_e (by kernel_rfl) ⟨fun e => absurd e (by decide), fun e => absurd e (by decide), fun e => absurd e (by decide), fun e => absurd e (by decide), fun e => absurd e (by decide), fun _ => ⟨C7, ⟨d7, rfl⟩, h7⟩⟩⟩
        · intro U W hx hR
          clear hR
          refine StepZ.go rfl ?_
          go_simp
          exact ⟨(by repeat (first | exact Ext.refl _ | assumption | refine Ext.alloc ?_ _ | refine Ext.drew ?_ | refine Ext.drewN ?_ _ | (refine Ext.setCell ?_ (by simp <;> omega) _) | refine Ext.trans ?_ (by assumption))), gives_k (by kernel_rfl)⟩
        · intro U W hx hR
          have r1 := (hR 1 (by decide) (by kernel_rfl)).1 rfl; obtain ⟨B1, d1, e1_, h1⟩ := r1
          have r3 := (hR 3 (by decide) (by kernel_rfl)).2.1 rfl; obtain ⟨b3, e3_, h3⟩ := r3
          have r5 := (hR 5 (by decide) (by kernel_rfl)).2.2.1 rfl; obtain ⟨C5, d5, e5_, h5⟩ := r5
          have r6 := (hR 6 (by decide) (by kernel_rfl)).2.2.2.1 rfl; obtain ⟨C6, d6, e6_, h6⟩ := r6
          have r7 := (hR 7 (by decide) (by kernel_rfl)).2.2.2.2.1 rfl; obtain ⟨C7, d7, e7_, h7⟩ := r7
          have r9 := (hR 9 (by decide) (by kernel_rfl)).2.2.2.2.2 rfl; obtain ⟨C9, d9, e9_, h9⟩ := r9
          clear hR
          simp only [putAll, vu, Act.put, List.setIfInBounds_toArray, List.set_cons_zero, List.set_cons_succ]
          (try simp only [e1_])
          (try simp only [e3_])
          (try simp only [e5_])
          (try simp only [e6_])
          (try simp only [e7_])
          (try simp only [e9_])
          have HL5 := Lib.hid h9
          have HX9 := Lib.hid (HX.out.trans hx)
          clear h1 h3 h5 h6 h7 h9 HX hx CCF CCR CFM CSO CFE CSH e1_ e3_ e5_ e6_ e7_ e9_
          have HX := HX9
          clear HX9
          have HX5 := Lib.hid (Ext.refl W)
          obtain ⟨k0, k1, k2, kl⟩ := HBF.out _ HX.out
          obtain ⟨⟨y0, y1, y2⟩, y3, y4, yl⟩ := HBC.out _ HX.out
          by_cases hc : ce = 0
          case neg =>
            -- BEGIN D
            have b0 : (ce == 0) = false := beq_false_of_ne hc
            have hw := HW1.out hc
            obtain ⟨rfl, rfl⟩ := HV0.out hw
            have b1 : (er != 0) = true := by simpa using hw
            obtain rfl : fv = (0, ce) := by rw [HFV.out, if_neg hc]
            clear HFV HFO HW1 HW2 HV0 CRS
            go_wp2_with (first | (go_at_call 27; refine Calls.mono (CRF.out _ (HX.out.trans (by repeat (first | exact Ext.refl _ | assumption | refine Ext.alloc ?_ _ | refine Ext.drew ?_ | refine Ext.drewN ?_ _ | (refine Ext.setCell ?_ (by simp <;> omega) _) | refine Ext.trans ?_ (by assumption))))) ?_; rintro e w6 ⟨rfl, hx⟩; have HX9 := Lib.hid (HX.out.trans (Ext.trans (by repeat (first | exact Ext.refl _ | assumption | refine Ext.alloc ?_ _ | refine Ext.drew ?_ | refine Ext.drewN ?_ _ | (refine Ext.setCell ?_ (by simp <;> omega) _) | refine Ext.trans ?_ (by assumption))) hx)); clear HX; have HX := HX9; clear HX9; obtain ⟨k0, k1, k2, kl⟩ := HBF.out _ HX.out; obtain ⟨⟨y0, y1, y2⟩, y3, y4, yl⟩ := HBC.out _ HX.out; clear hx) | (go_at_call 28; refine Calls.mono (CIW.out _) ?_; rintro e w7 ⟨rfl, rfl⟩) | (go_at_call 29; refine Calls.mono (CRM.out _ (HX.out.trans (by repeat (first | exact Ext.refl _ | assumption | refine Ext.alloc ?_ _ | refine Ext.drew ?_ | refine Ext.drewN ?_ _ | (refine Ext.setCell ?_ (by simp <;> omega) _) | refine Ext.trans ?_ (by assumption))))) ?_; rintro e w8 ⟨rfl, hx⟩; have HX9 := Lib.hid (HX.out.trans (Ext.trans (by repeat (first | exact Ext.refl _ | assumption | refine Ext.alloc ?_ _ | refine Ext.drew ?_ | refine Ext.drewN ?_ _ | (refine Ext.setCell ?_ (by simp <;> omega) _) | refine Ext.trans ?_ (by assumption))) hx)); clear HX; have HX := HX9; clear HX9; obtain ⟨k0, k1, k2, kl⟩ := HBF.out _ HX.out; obtain ⟨⟨y0, y1, y2⟩, y3, y4, yl⟩ := HBC.out _ HX.out; clear hx) | (go_at_call 30; refine Calls.mono (CWE.out _ (HX.out.trans (by repeat (first | exact Ext.refl _ | assumption | refine Ext.alloc ?_ _ | refine Ext.drew ?_ | refine Ext.drewN ?_ _ | (refine Ext.setCell ?_ (by simp <;> omega) _) | refine Ext.trans ?_ (by assumption))))) ?_; rintro e w9 ⟨rfl, hx⟩; have HX9 := Lib.hid (HX.out.trans (Ext.trans (by repeat (first | exact Ext.refl _ | assumption | refine Ext.alloc ?_ _ | refine Ext.drew ?_ | refine Ext.drewN ?_ _ | (refine Ext.setCell ?_ (by simp <;> omega) _) | refine Ext.trans ?_ (by assumption))) hx)); clear HX; have HX := HX9; clear HX9; obtain ⟨k0, k1, k2, kl⟩ := HBF.out _ HX.out; obtain ⟨⟨y0, y1, y2⟩, y3, y4, yl⟩ := HBC.out _ HX.out; clear hx))
            go_ret
            exact Ret.mk' rfl (HXW.out.trans HX.out)
            -- END D
          case pos =>
            subst hc
            cases wb
            case false =>
              -- BEGIN E
              have hw := HW2.out rfl
              obtain ⟨rfl, rfl⟩ := HV0.out hw
              have b1 : (er != 0) = true := by simpa using hw
              obtain rfl : fv = (0, 3) := by rw [HFV.out]; rfl
              clear HFV HFO HW1 HW2 HV0 CRS
              go_wp2_with (first | (go_at_call 27; refine Calls.mono (CRF.out _ (HX.out.trans (by repeat (first | exact Ext.refl _ | assumption | refine Ext.alloc ?_ _ | refine Ext.drew ?_ | refine Ext.drewN ?_ _ | (refine Ext.setCell ?_ (by simp <;> omega) _) | refine Ext.trans ?_ (by assumption))))) ?_; rintro e w6 ⟨rfl, hx⟩; have HX9 := Lib.hid (HX.out.trans (Ext.trans (by repeat (first | exact Ext.refl _ | assumption | refine Ext.alloc ?_ _ | refine Ext.drew ?_ | refine Ext.drewN ?_ _ | (refine Ext.setCell ?_ (by simp <;> omega) _) | refine Ext.trans ?_ (by assumption))) hx)); clear HX; have HX := HX9; clear HX9; obtain ⟨k0, k1, k2, kl⟩ := HBF.out _ HX.out; obtain ⟨⟨y0, y1, y2⟩, y3, y4, yl⟩ := HBC.out _ HX.out; clear hx) | (go_at_call 28; refine Calls.mono (CIW.out _) ?_; rintro e w7 ⟨rfl, rfl⟩) | (go_at_call 29; refine Calls.mono (CRM.out _ (HX.out.trans (by repeat (first | exact Ext.refl _ | assumption | refine Ext.alloc ?_ _ | refine Ext.drew ?_ | refine Ext.drewN ?_ _ | (refine Ext.setCell ?_ (by simp <;> omega) _) | refine Ext.trans ?_ (by assumption))))) ?_; rintro e w8 ⟨rfl, hx⟩; have HX9 := Lib.hid (HX.out.trans (Ext.trans (by repeat (first | exact Ext.refl _ | assumption | refine Ext.alloc ?_ _ | refine Ext.drew ?_ | refine Ext.drewN ?_ _ | (refine Ext.setCell ?_ (by simp <;> omega) _) | refine Ext.trans ?_ (by assumption))) hx)); clear HX; have HX := HX9; clear HX9; obtain ⟨k0, k1, k2, kl⟩ := HBF.out _ HX.out; obtain ⟨⟨y0, y1, y2⟩, y3, y4, yl⟩ := HBC.out _ HX.out; clear hx) | (go_at_call 30; refine Calls.mono (CWE.out _ (HX.out.trans (by repeat (first | exact Ext.refl _ | assumption | refine Ext.alloc ?_ _ | refine Ext.drew ?_ | refine Ext.drewN ?_ _ | (refine Ext.setCell ?_ (by simp <;> omega) _) | refine Ext.trans ?_ (by assumption))))) ?_; rintro e w9 ⟨rfl, hx⟩; have HX9 := Lib.hid (HX.out.trans (Ext.trans (by repeat (first | exact Ext.refl _ | assumption | refine Ext.alloc ?_ _ | refine Ext.drew ?_ | refine Ext.drewN ?_ _ | (refine Ext.setCell ?_ (by simp <;> omega) _) | refine Ext.trans ?_ (by assumption))) hx)); clear HX; have HX := HX9; clear HX9; obtain ⟨k0, k1, k2, kl⟩ := HBF.out _ HX.out; obtain ⟨⟨y0, y1, y2⟩, y3, y4, yl⟩ := HBC.out _ HX.out; clear hx))
              go_ret
              exact Ret.mk' rfl (HXW.out.trans HX.out)
              -- END E
            case true =>
              rcases fm with _ | k
              case none =>
                obtain rfl : fv = (0, 12) := by rw [HFV.out]; rfl
                obtain rfl : wn = -1 := by rw [HFO.out]
                clear HFV HFO HW1 HW2
                by_cases hw : we = 0
                case neg =>
                  -- BEGIN F
                  obtain ⟨rfl, rfl⟩ := HV0.out hw
                  have b1 : (er != 0) = true := by simpa using hw
                  clear HV0 CRS
                  go_wp2_with (first | (go_at_call 27; refine Calls.mono (CRF.out _ (HX.out.trans (by repeat (first | exact Ext.refl _ | assumption | refine Ext.alloc ?_ _ | refine Ext.drew ?_ | refine Ext.drewN ?_ _ | (refine Ext.setCell ?_ (by simp <;> omega) _) | refine Ext.trans ?_ (by assumption))))) ?_; rintro e w6 ⟨rfl, hx⟩; have HX9 := Lib.hid (HX.out.trans (Ext.trans (by repeat (first | exact Ext.refl _ | assumption | refine Ext.alloc ?_ _ | refine Ext.drew ?_ | refine Ext.drewN ?_ _ | (refine Ext.setCell ?_ (by simp <;> omega) _) | refine Ext.trans ?_ (by assumption))) hx)); clear HX; have HX := HX9; clear HX9; obtain ⟨k0, k1, k2, kl⟩ := HBF.out _ HX.out; obtain ⟨⟨y0, y1, y2⟩, y3, y4, yl⟩ := HBC.out _ HX.out; clear hx) | (go_at_call 28; refine Calls.mono (CIW.out _) ?_; rintro e w7 ⟨rfl, rfl⟩) | (go_at_call 29; refine Calls.mono (CRM.out _ (HX.out.trans (by repeat (first | exact Ext.refl _ | assumption | refine Ext.alloc ?_ _ | refine Ext.drew ?_ | refine Ext.drewN ?_ _ | (refine Ext.setCell ?_ (by simp <;> omega) _) | refine Ext.trans ?_ (by assumption))))) ?_; rintro e w8 ⟨rfl, hx⟩; have HX9 := Lib.hid (HX.out.trans (Ext.trans (by repeat (first | exact Ext.refl _ | assumption | refine Ext.alloc ?_ _ | refine Ext.drew ?_ | refine Ext.drewN ?_ _ | (refine Ext.setCell ?_ (by simp <;> omega) _) | refine Ext.trans ?_ (by assumption))) hx)); clear HX; have HX := HX9; clear HX9; obtain ⟨k0, k1, k2, kl⟩ := HBF.out _ HX.out; obtain ⟨⟨y0, y1, y2⟩, y3, y4, yl⟩ := HBC.out _ HX.out; clear hx) | (go_at_call 30; refine Calls.mono (CWE.out _ (HX.out.trans (by repeat (first | exact Ext.refl _ | assumption | refine Ext.alloc ?_ _ | refine Ext.drew ?_ | refine Ext.drewN ?_ _ | (refine Ext.setCell ?_ (by simp <;> omega) _) | refine Ext.trans ?_ (by assumption))))) ?_; rintro e w9 ⟨rfl, hx⟩; have HX9 := Lib.hid (HX.out.trans (Ext.trans (by repeat (first | exact Ext.refl _ | assumption | refine Ext.alloc ?_ _ | refine Ext.drew ?_ | refine Ext.drewN ?_ _ | (refine Ext.setCell ?_ (by simp <;> omega) _) | refine Ext.trans ?_ (by assumption))) hx)); clear HX; have HX := HX9; clear HX9; obtain ⟨k0, k1, k2, kl⟩ := HBF.out _ HX.out; obtain ⟨⟨y0, y1, y2⟩, y3, y4, yl⟩ := HBC.out _ HX.out; clear hx))
                  go_ret
                  exact Ret.mk' rfl (HXW.out.trans HX.out)
                  -- END F
                case pos =>
                  -- BEGIN G
                  subst hw
                  have CRS2 := Lib.hid fun X hx => CRS.out X hx rfl
                  clear HV0 CRS
                  have CRS := CRS2
                  clear CRS2
                  go_wp2_with (first | (go_at_call 27; refine Calls.mono (CRF.out _ (HX.out.trans (by repeat (first | exact Ext.refl _ | assumption | refine Ext.alloc ?_ _ | refine Ext.drew ?_ | refine Ext.drewN ?_ _ | (refine Ext.setCell ?_ (by simp <;> omega) _) | refine Ext.trans ?_ (by assumption))))) ?_; rintro e w6 ⟨rfl, hx⟩; (try (have hq := HX5; clear hq; have HX6 := Lib.hid (HX5.out.trans (Ext.trans (by repeat (first | exact Ext.refl _ | assumption | refine Ext.alloc ?_ _ | refine Ext.drew ?_ | refine Ext.drewN ?_ _ | (refine Ext.setCell ?_ (by simp <;> omega) _) | refine Ext.trans ?_ (by assumption))) hx)); clear HX5; have HX5 := HX6; clear HX6)); have HX9 := Lib.hid (HX.out.trans (Ext.trans (by repeat (first | exact Ext.refl _ | assumption | refine Ext.alloc ?_ _ | refine Ext.drew ?_ | refine Ext.drewN ?_ _ | (refine Ext.setCell ?_ (by simp <;> omega) _) | refine Ext.trans ?_ (by assumption))) hx)); clear HX; have HX := HX9; clear HX9; obtain ⟨k0, k1, k2, kl⟩ := HBF.out _ HX.out; obtain ⟨⟨y0, y1, y2⟩, y3, y4, yl⟩ := HBC.out _ HX.out; clear hx) | (go_at_call 28; refine Calls.mono (CIW.out _) ?_; rintro e w7 ⟨rfl, rfl⟩) | (go_at_call 29; refine Calls.mono (CRM.out _ (HX.out.trans (by repeat (first | exact Ext.refl _ | assumption | refine Ext.alloc ?_ _ | refine Ext.drew ?_ | refine Ext.drewN ?_ _ | (refine Ext.setCell ?_ (by simp <;> omega) _) | refine Ext.trans ?_ (by assumption))))) ?_; rintro e w8 ⟨rfl, hx⟩; (try (have hq := HX5; clear hq; have HX6 := Lib.hid (HX5.out.trans (Ext.trans (by repeat (first | exact Ext.refl _ | assumption | refine Ext.alloc ?_ _ | refine Ext.drew ?_ | refine Ext.drewN ?_ _ | (refine Ext.setCell ?_ (by simp <;> omega) _) | refine Ext.trans ?_ (by assumption))) hx)); clear HX5; have HX5 := HX6; clear HX6)); have HX9 := Lib.hid (HX.out.trans (Ext.trans (by repeat (first | exact Ext.refl _ | assumption | refine Ext.alloc ?_ _ | refine Ext.drew ?_ | refine Ext.drewN ?_ _ | (refine Ext.setCell ?_ (by simp <;> omega) _) | refine Ext.trans ?_ (by assumption))) hx)); clear HX; have HX := HX9; clear HX9; obtain ⟨k0, k1, k2, kl⟩ := HBF.out _ HX.out; obtain ⟨⟨y0, y1, y2⟩, y3, y4, yl⟩ := HBC.out _ HX.out; clear hx) | (go_at_call 30; refine Calls.mono (CWE.out _ (HX.out.trans (by repeat (first | exact Ext.refl _ | assumption | refine Ext.alloc ?_ _ | refine Ext.drew ?_ | refine Ext.drewN ?_ _ | (refine Ext.setCell ?_ (by simp <;> omega) _) | refine Ext.trans ?_ (by assumption))))) ?_; rintro e w9 ⟨rfl, hx⟩; (try (have hq := HX5; clear hq; have HX6 := Lib.hid (HX5.out.trans (Ext.trans (by repeat (first | exact Ext.refl _ | assumption | refine Ext.alloc ?_ _ | refine Ext.drew ?_ | refine Ext.drewN ?_ _ | (refine Ext.setCell ?_ (by simp <;> omega) _) | refine Ext.trans ?_ (by assumption))) hx)); clear HX5; have HX5 := HX6; clear HX6)); have HX9 := Lib.hid (HX.out.trans (Ext.trans (by repeat (first | exact Ext.refl _ | assumption | refine Ext.alloc ?_ _ | refine Ext.drew ?_ | refine Ext.drewN ?_ _ | (refine Ext.setCell ?_ (by simp <;> omega) _) | refine Ext.trans ?_ (by assumption))) hx)); clear HX; have HX := HX9; clear HX9; obtain ⟨k0, k1, k2, kl⟩ := HBF.out _ HX.out; obtain ⟨⟨y0, y1, y2⟩, y3, y4, yl⟩ := HBC.out _ HX.out; clear hx) | (go_at_call 31; refine Calls.mono (CRS.out _ (HX.out.trans (by repeat (first | exact Ext.refl _ | assumption | refine Ext.alloc ?_ _ | refine Ext.drew ?_ | refine Ext.drewN ?_ _ | (refine Ext.setCell ?_ (by simp <;> omega) _) | refine Ext.trans ?_ (by assumption))))) ?_; rintro e w10 ⟨A6, c6, rfl, h6, hx⟩; have HL6 := Lib.hid h6.ri; clear h6; (try (have hq := HX5; clear hq; have HX6 := Lib.hid (HX5.out.trans (Ext.trans (by repeat (first | exact Ext.refl _ | assumption | refine Ext.alloc ?_ _ | refine Ext.drew ?_ | refine Ext.drewN ?_ _ | (refine Ext.setCell ?_ (by simp <;> omega) _) | refine Ext.trans ?_ (by assumption))) hx)); clear HX5; have HX5 := HX6; clear HX6)); have HX9 := Lib.hid (HX.out.trans (Ext.trans (by repeat (first | exact Ext.refl _ | assumption | refine Ext.alloc ?_ _ | refine Ext.drew ?_ | refine Ext.drewN ?_ _ | (refine Ext.setCell ?_ (by simp <;> omega) _) | refine Ext.trans ?_ (by assumption))) hx)); clear HX; have HX := HX9; clear HX9; obtain ⟨k0, k1, k2, kl⟩ := HBF.out _ HX.out; obtain ⟨⟨y0, y1, y2⟩, y3, y4, yl⟩ := HBC.out _ HX.out; clear hx) | (go_at_call 19; refine Calls.mono (ints_any C9 A6 d9 c6 zs zs _ (HL5.out.ext (HX5.out.trans (by repeat (first | exact Ext.refl _ | assumption | refine Ext.alloc ?_ _ | refine Ext.drew ?_ | refine Ext.drewN ?_ _ | (refine Ext.setCell ?_ (by simp <;> omega) _) | refine Ext.trans ?_ (by assumption))))) (HL6.out.ext (by repeat (first | exact Ext.refl _ | assumption | refine Ext.alloc ?_ _ | refine Ext.drew ?_ | refine Ext.drewN ?_ _ | (refine Ext.setCell ?_ (by simp <;> omega) _) | refine Ext.trans ?_ (by assumption))))) ?_; rw [decide_eq_true rfl]; rintro e w11 ⟨rfl, hx⟩; (try (have hq := HX5; clear hq; have HX6 := Lib.hid (HX5.out.trans (Ext.trans (by repeat (first | exact Ext.refl _ | assumption | refine Ext.alloc ?_ _ | refine Ext.drew ?_ | refine Ext.drewN ?_ _ | (refine Ext.setCell ?_ (by simp <;> omega) _) | refine Ext.trans ?_ (by assumption))) hx)); clear HX5; have HX5 := HX6; clear HX6)); have HX9 := Lib.hid (HX.out.trans (Ext.trans (by repeat (first | exact Ext.refl _ | assumption | refine Ext.alloc ?_ _ | refine Ext.drew ?_ | refine Ext.drewN ?_ _ | (refine Ext.setCell ?_ (by simp <;> omega) _) | refine Ext.trans ?_ (by assumption))) hx)); clear HX; have HX := HX9; clear HX9; obtain ⟨k0, k1, k2, kl⟩ := HBF.out _ HX.out; obtain ⟨⟨y0, y1, y2⟩, y3, y4, yl⟩ := HBC.out _ HX.out; clear hx))
                  go_ret
                  exact Ret.mk' rfl (HXW.out.trans HX.out)
                  -- END G
              case some =>
                obtain rfl : fv = ((k : Int), 0) := by rw [HFV.out]; rfl
                obtain rfl : wn = (k : Int) := by rw [HFO.out]
                have ik0 : ¬ (k : Int) < 0 := by omega
                have ik1 : max 0 (k : Int) = (k : Int) := by omega
                clear HFV HFO HW1 HW2
                by_cases hw : we = 0
                case neg =>
                  -- BEGIN H
                  obtain ⟨rfl, rfl⟩ := HV0.out hw
                  have b1 : (er != 0) = true := by simpa using hw
                  clear HV0 CRS
                  go_wp2_with (first | (go_at_call 27; refine Calls.mono (CRF.out _ (HX.out.trans (by repeat (first | exact Ext.refl _ | assumption | refine Ext.alloc ?_ _ | refine Ext.drew ?_ | refine Ext.drewN ?_ _ | (refine Ext.setCell ?_ (by simp <;> omega) _) | refine Ext.trans ?_ (by assumption))))) ?_; rintro e w6 ⟨rfl, hx⟩; have HX9 := Lib.hid (HX.out.trans (Ext.trans (by repeat (first | exact Ext.refl _ | assumption | refine Ext.alloc ?_ _ | refine Ext.drew ?_ | refine Ext.drewN ?_ _ | (refine Ext.setCell ?_ (by simp <;> omega) _) | refine Ext.trans ?_ (by assumption))) hx)); clear HX; have HX := HX9; clear HX9; obtain ⟨k0, k1, k2, kl⟩ := HBF.out _ HX.out; obtain ⟨⟨y0, y1, y2⟩, y3, y4, yl⟩ := HBC.out _ HX.out; clear hx) | (go_at_call 28; refine Calls.mono (CIW.out _) ?_; rintro e w7 ⟨rfl, rfl⟩) | (go_at_call 29; refine Calls.mono (CRM.out _ (HX.out.trans (by repeat (first | exact Ext.refl _ | assumption | refine Ext.alloc ?_ _ | refine Ext.drew ?_ | refine Ext.drewN ?_ _ | (refine Ext.setCell ?_ (by simp <;> omega) _) | refine Ext.trans ?_ (by assumption))))) ?_; rintro e w8 ⟨rfl, hx⟩; have HX9 := Lib.hid (HX.out.trans (Ext.trans (by repeat (first | exact Ext.refl _ | assumption | refine Ext.alloc ?_ _ | refine Ext.drew ?_ | refine Ext.drewN ?_ _ | (refine Ext.setCell ?_ (by simp <;> omega) _) | refine Ext.trans ?_ (by assumption))) hx)); clear HX; have HX := HX9; clear HX9; obtain ⟨k0, k1, k2, kl⟩ := HBF.out _ HX.out; obtain ⟨⟨y0, y1, y2⟩, y3, y4, yl⟩ := HBC.out _ HX.out; clear hx) | (go_at_call 30; refine Calls.mono (CWE.out _ (HX.out.trans (by repeat (first | exact Ext.refl _ | assumption | refine Ext.alloc ?_ _ | refine Ext.drew ?_ | refine Ext.drewN ?_ _ | (refine Ext.setCell ?_ (by simp <;> omega) _) | refine Ext.trans ?_ (by assumption))))) ?_; rintro e w9 ⟨rfl, hx⟩; have HX9 := Lib.hid (HX.out.trans (Ext.trans (by repeat (first | exact Ext.refl _ | assumption | refine Ext.alloc ?_ _ | refine Ext.drew ?_ | refine Ext.drewN ?_ _ | (refine Ext.setCell ?_ (by simp <;> omega) _) | refine Ext.trans ?_ (by assumption))) hx)); clear HX; have HX := HX9; clear HX9; obtain ⟨k0, k1, k2, kl⟩ := HBF.out _ HX.out; obtain ⟨⟨y0, y1, y2⟩, y3, y4, yl⟩ := HBC.out _ HX.out; clear hx))
                  go_ret
                  exact Ret.mk' rfl (HXW.out.trans HX.out)
                  -- END H
                case pos =>
                  -- BEGIN I
                  subst hw
                  have CRS2 := Lib.hid fun X hx => CRS.out X hx rfl
                  clear HV0 CRS
                  have CRS := CRS2
                  clear CRS2
                  go_wp2_with (first | (go_at_call 27; refine Calls.mono (CRF.out _ (HX.out.trans (by repeat (first | exact Ext.refl _ | assumption | refine Ext.alloc ?_ _ | refine Ext.drew ?_ | refine Ext.drewN ?_ _ | (refine Ext.setCell ?_ (by simp <;> omega) _) | refine Ext.trans ?_ (by assumption))))) ?_; rintro e w6 ⟨rfl, hx⟩; (try (have hq := HX5; clear hq; have HX6 := Lib.hid (HX5.out.trans (Ext.trans (by repeat (first | exact Ext.refl _ | assumption | refine Ext.alloc ?_ _ | refine Ext.drew ?_ | refine Ext.drewN ?_ _ | (refine Ext.setCell ?_ (by simp <;> omega) _) | refine Ext.trans ?_ (by assumption))) hx)); clear HX5; have HX5 := HX6; clear HX6)); have HX9 := Lib.hid (HX.out.trans (Ext.trans (by repeat (first | exact Ext.refl _ | assumption | refine Ext.alloc ?_ _ | refine Ext.drew ?_ | refine Ext.drewN ?_ _ | (refine Ext.setCell ?_ (by simp <;> omega) _) | refine Ext.trans ?_ (by assumption))) hx)); clear HX; have HX := HX9; clear HX9; obtain ⟨k0, k1, k2, kl⟩ := HBF.out _ HX.out; obtain ⟨⟨y0, y1, y2⟩, y3, y4, yl⟩ := HBC.out _ HX.out; clear hx) | (go_at_call 28; refine Calls.mono (CIW.out _) ?_; rintro e w7 ⟨rfl, rfl⟩) | (go_at_call 29; refine Calls.mono (CRM.out _ (HX.out.trans (by repeat (first | exact Ext.refl _ | assumption | refine Ext.alloc ?_ _ | refine Ext.drew ?_ | refine Ext.drewN ?_ _ | (refine Ext.setCell ?_ (by simp <;> omega) _) | refine Ext.trans ?_ (by assumption))))) ?_; rintro e w8 ⟨rfl, hx⟩; (try (have hq := HX5; clear hq; have HX6 := Lib.hid (HX5.out.trans (Ext.trans (by repeat (first | exact Ext.refl _ | assumption | refine Ext.alloc ?_ _ | refine Ext.drew ?_ | refine Ext.drewN ?_ _ | (refine Ext.setCell ?_ (by simp <;> omega) _) | refine Ext.trans ?_ (by assumption))) hx)); clear HX5; have HX5 := HX6; clear HX6)); have HX9 := Lib.hid (HX.out.trans (Ext.trans (by repeat (first | exact Ext.refl _ | assumption | refine Ext.alloc ?_ _ | refine Ext.drew ?_ | refine Ext.drewN ?_ _ | (refine Ext.setCell ?_ (by simp <;> omega) _) | refine Ext.trans ?_ (by assumption))) hx)); clear HX; have HX := HX9; clear HX9; obtain ⟨k0, k1, k2, kl⟩ := HBF.out _ HX.out; obtain ⟨⟨y0, y1, y2⟩, y3, y4, yl⟩ := HBC.out _ HX.out; clear hx) | (go_at_call 30; refine Calls.mono (CWE.out _ (HX.out.trans (by repeat (first | exact Ext.refl _ | assumption | refine Ext.alloc ?_ _ | refine Ext.drew ?_ | refine Ext.drewN ?_ _ | (refine Ext.setCell ?_ (by simp <;> omega) _) | refine Ext.trans ?_ (by assumption))))) ?_; rintro e w9 ⟨rfl, hx⟩; (try (have hq := HX5; clear hq; have HX6 := Lib.hid (HX5.out.trans (Ext.trans (by repeat (first | exact Ext.refl _ | assumption | refine Ext.alloc ?_ _ | refine Ext.drew ?_ | refine Ext.drewN ?_ _ | (refine Ext.setCell ?_ (by simp <;> omega) _) | refine Ext.trans ?_ (by assumption))) hx)); clear HX5; have HX5 := HX6; clear HX6)); have HX9 := Lib.hid (HX.out.trans (Ext.trans (by repeat (first | exact Ext.refl _ | assumption | refine Ext.alloc ?_ _ | refine Ext.drew ?_ | refine Ext.drewN ?_ _ | (refine Ext.setCell ?_ (by simp <;> omega) _) | refine Ext.trans ?_ (by assumption))) hx)); clear HX; have HX := HX9; clear HX9; obtain ⟨k0, k1, k2, kl⟩ := HBF.out _ HX.out; obtain ⟨⟨y0, y1, y2⟩, y3, y4, yl⟩ := HBC.out _ HX.out; clear hx) | (go_at_call 31; refine Calls.mono (CRS.out _ (HX.out.trans (by repeat (first | exact Ext.refl _ | assumption | refine Ext.alloc ?_ _ | refine Ext.drew ?_ | refine Ext.drewN ?_ _ | (refine Ext.setCell ?_ (by simp <;> omega) _) | refine Ext.trans ?_ (by assumption))))) ?_; rintro e w10 ⟨A6, c6, rfl, h6, hx⟩; have HL6 := Lib.hid h6.ri; clear h6; (try (have hq := HX5; clear hq; have HX6 := Lib.hid (HX5.out.trans (Ext.trans (by repeat (first | exact Ext.refl _ | assumption | refine Ext.alloc ?_ _ | refine Ext.drew ?_ | refine Ext.drewN ?_ _ | (refine Ext.setCell ?_ (by simp <;> omega) _) | refine Ext.trans ?_ (by assumption))) hx)); clear HX5; have HX5 := HX6; clear HX6)); have HX9 := Lib.hid (HX.out.trans (Ext.trans (by repeat (first | exact Ext.refl _ | assumption | refine Ext.alloc ?_ _ | refine Ext.drew ?_ | refine Ext.drewN ?_ _ | (refine Ext.setCell ?_ (by simp <;> omega) _) | refine Ext.trans ?_ (by assumption))) hx)); clear HX; have HX := HX9; clear HX9; obtain ⟨k0, k1, k2, kl⟩ := HBF.out _ HX.out; obtain ⟨⟨y0, y1, y2⟩, y3, y4, yl⟩ := HBC.out _ HX.out; clear hx) | (go_at_call 19; refine Calls.mono (ints_any C9 A6 d9 c6 zs zs _ (HL5.out.ext (HX5.out.trans (by repeat (first | exact Ext.refl _ | assumption | refine Ext.alloc ?_ _ | refine Ext.drew ?_ | refine Ext.drewN ?_ _ | (refine Ext.setCell ?_ (by simp <;> omega) _) | refine Ext.trans ?_ (by assumption))))) (HL6.out.ext (by repeat (first | exact Ext.refl _ | assumption | refine Ext.alloc ?_ _ | refine Ext.drew ?_ | refine Ext.drewN ?_ _ | (refine Ext.setCell ?_ (by simp <;> omega) _) | refine Ext.trans ?_ (by assumption))))) ?_; rw [decide_eq_true rfl]; rintro e w11 ⟨rfl, hx⟩; (try (have hq := HX5; clear hq; have HX6 := Lib.hid (HX5.out.trans (Ext.trans (by repeat (first | exact Ext.refl _ | assumption | refine Ext.alloc ?_ _ | refine Ext.drew ?_ | refine Ext.drewN ?_ _ | (refine Ext.setCell ?_ (by simp <;> omega) _) | refine Ext.trans ?_ (by assumption))) hx)); clear HX5; have HX5 := HX6; clear HX6)); have HX9 := Lib.hid (HX.out.trans (Ext.trans (by repeat (first | exact Ext.refl _ | assumption | refine Ext.alloc ?_ _ | refine Ext.drew ?_ | refine Ext.drewN ?_ _ | (refine Ext.setCell ?_ (by simp <;> omega) _) | refine Ext.trans ?_ (by assumption))) hx)); clear HX; have HX := HX9; clear HX9; obtain ⟨k0, k1, k2, kl⟩ := HBF.out _ HX.out; obtain ⟨⟨y0, y1, y2⟩, y3, y4, yl⟩ := HBC.out _ HX.out; clear hx))
                  go_ret
                  exact Ret.mk' rfl (HXW.out.trans HX.out)
                  -- END I
end Go.Proofs.YtccdnieoaejgdaaGreatDoor.textsorts
