/-
  Walk: TextHyphens returns true.
-/
import Derived.Test.YtccdnieoaejgdaaGreatDoorT2BI
import Derived.Test.YtccdnieoaejgdaaGreatDoorT2BO
import Derived.Test.YtccdnieoaejgdaaGreatDoorT2BG
import Derived.Test.YtccdnieoaejgdaaGreatDoorT2BH
import Derived.Test.YtccdnieoaejgdaaGreatDoorT2BC
import Derived.Test.YtccdnieoaejgdaaGreatDoorT2BF
set_option linter.unusedVariables false
set_option linter.unusedSimpArgs false
set_option linter.unusedSectionVars false
namespace Go.Proofs.YtccdnieoaejgdaaGreatDoor.texthyphens
open Go.RowKit Go.Lib

set_option maxRecDepth 100000 in
set_option maxHeartbeats 8000000 in
theorem walk (r : RU) (a : RuA) (s : ByteArray) (W : World) (hr : RuR W a r) (hz : s.size ≤ maxLen) (_hT : True) : Calls Tryz.prog 3 #[r.val a, .string s] W (Ret (.bool true) W) := by
  have CSH := Lib.hid fun X (hx : Ext (W.alloc (.cells #[.slice a.pa r.pats.length a.pc, .slice a.ea r.excs.length a.ec, .slice a.ba r.bars.length a.bc, .int .i64 r.left, .int .i64 r.right] 24)) X) => Short_any r a X (hr.ext (((Ext.refl W).alloc _).trans hx))
  have HBC : Hid (∀ X, Ext (W.alloc (.cells #[.slice a.pa r.pats.length a.pc, .slice a.ea r.excs.length a.ec, .slice a.ba r.bars.length a.bc, .int .i64 r.left, .int .i64 r.right] 24)) X → (X.cell? ⟨W.heap.size, 0, none⟩ = some (.slice a.pa r.pats.length a.pc) ∧ X.cell? ⟨W.heap.size, 1, none⟩ = some (.slice a.ea r.excs.length a.ec) ∧ X.cell? ⟨W.heap.size, 2, none⟩ = some (.slice a.ba r.bars.length a.bc)) ∧ X.cell? ⟨W.heap.size, 3, none⟩ = some (.int .i64 r.left) ∧ X.cell? ⟨W.heap.size, 4, none⟩ = some (.int .i64 r.right) ∧ W.heap.size < X.heap.size) := Lib.hid fun X hx => by
    have hb := (Blk.new W 24 #[.slice a.pa r.pats.length a.pc, .slice a.ea r.excs.length a.ec, .slice a.ba r.bars.length a.bc, .int .i64 r.left, .int .i64 r.right]).ext hx
    exact ⟨⟨hb.cell 0 _ rfl, hb.cell 1 _ rfl, hb.cell 2 _ rfl⟩, hb.cell 3 _ rfl, hb.cell 4 _ rfl, hb.lt⟩
  have HX : Hid (Ext (W.alloc (.cells #[.slice a.pa r.pats.length a.pc, .slice a.ea r.excs.length a.ec, .slice a.ba r.bars.length a.bc, .int .i64 r.left, .int .i64 r.right] 24)) (W.alloc (.cells #[.slice a.pa r.pats.length a.pc, .slice a.ea r.excs.length a.ec, .slice a.ba r.bars.length a.bc, .int .i64 r.left, .int .i64 r.right] 24))) := Lib.hid (Ext.refl _)
  have HXW : Hid (Ext W (W.alloc (.cells #[.slice a.pa r.pats.length a.pc, .slice a.ea r.excs.length a.ec, .slice a.ba r.bars.length a.bc, .int .i64 r.left, .int .i64 r.right] 24))) := Lib.hid ((Ext.refl W).alloc _)
  have hz9 : s.size ≤ 9223372036854775807 := by unfold maxLen at hz; omega
  cases hsh : shortU r
  case false =>
    rw [hsh] at CSH
    clear hr hz hsh
    unfold RU.val at CSH ⊢
    go_enter Tryz.func3, Tryz.ntmps3
    go_wp2_with (first | (go_at_call 13; refine Calls.mono (awake2_any _) ?_; rintro e w1 ⟨rfl, hx⟩; (try (have hq := HX5; clear hq; have HX6 := Lib.hid (HX5.out.trans (Ext.trans (by repeat (first | exact Ext.refl _ | assumption | refine Ext.alloc ?_ _ | refine Ext.drew ?_ | refine Ext.drewN ?_ _ | (refine Ext.setCell ?_ (by simp <;> omega) _) | refine Ext.trans ?_ (by assumption))) hx)); clear HX5; have HX5 := HX6; clear HX6)); have HX9 := Lib.hid (HX.out.trans (Ext.trans (by repeat (first | exact Ext.refl _ | assumption | refine Ext.alloc ?_ _ | refine Ext.drew ?_ | refine Ext.drewN ?_ _ | (refine Ext.setCell ?_ (by simp <;> omega) _) | refine Ext.trans ?_ (by assumption))) hx)); clear HX; have HX := HX9; clear HX9; obtain ⟨⟨y0, y1, y2⟩, y3, y4, yl⟩ := HBC.out _ HX.out; clear hx) | (go_at_call 14; refine Calls.mono (CSH.out _ (HX.out.trans (by repeat (first | exact Ext.refl _ | assumption | refine Ext.alloc ?_ _ | refine Ext.drew ?_ | refine Ext.drewN ?_ _ | (refine Ext.setCell ?_ (by simp <;> omega) _) | refine Ext.trans ?_ (by assumption))))) ?_; rintro e w2 ⟨rfl, hx⟩; (try (have hq := HX5; clear hq; have HX6 := Lib.hid (HX5.out.trans (Ext.trans (by repeat (first | exact Ext.refl _ | assumption | refine Ext.alloc ?_ _ | refine Ext.drew ?_ | refine Ext.drewN ?_ _ | (refine Ext.setCell ?_ (by simp <;> omega) _) | refine Ext.trans ?_ (by assumption))) hx)); clear HX5; have HX5 := HX6; clear HX6)); have HX9 := Lib.hid (HX.out.trans (Ext.trans (by repeat (first | exact Ext.refl _ | assumption | refine Ext.alloc ?_ _ | refine Ext.drew ?_ | refine Ext.drewN ?_ _ | (refine Ext.setCell ?_ (by simp <;> omega) _) | refine Ext.trans ?_ (by assumption))) hx)); clear HX; have HX := HX9; clear HX9; obtain ⟨⟨y0, y1, y2⟩, y3, y4, yl⟩ := HBC.out _ HX.out; clear hx))
    go_ret
    exact Ret.mk' rfl (HXW.out.trans HX.out)
  case true =>
    have HSU := Lib.hid (ShortU.of hsh)
    rw [hsh] at CSH
    by_cases h40 : 40 < s.size
    case pos =>
      have i40 : 40 < (s.size : Int) := by omega
      clear hr hz hsh HSU
      -- BEGIN B
      unfold RU.val at CSH ⊢
      go_enter Tryz.func3, Tryz.ntmps3
      go_wp2_with (first | (go_at_call 13; refine Calls.mono (awake2_any _) ?_; rintro e w1 ⟨rfl, hx⟩; (try (have hq := HX5; clear hq; have HX6 := Lib.hid (HX5.out.trans (Ext.trans (by repeat (first | exact Ext.refl _ | assumption | refine Ext.alloc ?_ _ | refine Ext.drew ?_ | refine Ext.drewN ?_ _ | (refine Ext.setCell ?_ (by simp <;> omega) _) | refine Ext.trans ?_ (by assumption))) hx)); clear HX5; have HX5 := HX6; clear HX6)); have HX9 := Lib.hid (HX.out.trans (Ext.trans (by repeat (first | exact Ext.refl _ | assumption | refine Ext.alloc ?_ _ | refine Ext.drew ?_ | refine Ext.drewN ?_ _ | (refine Ext.setCell ?_ (by simp <;> omega) _) | refine Ext.trans ?_ (by assumption))) hx)); clear HX; have HX := HX9; clear HX9; obtain ⟨⟨y0, y1, y2⟩, y3, y4, yl⟩ := HBC.out _ HX.out; clear hx) | (go_at_call 14; refine Calls.mono (CSH.out _ (HX.out.trans (by repeat (first | exact Ext.refl _ | assumption | refine Ext.alloc ?_ _ | refine Ext.drew ?_ | refine Ext.drewN ?_ _ | (refine Ext.setCell ?_ (by simp <;> omega) _) | refine Ext.trans ?_ (by assumption))))) ?_; rintro e w2 ⟨rfl, hx⟩; (try (have hq := HX5; clear hq; have HX6 := Lib.hid (HX5.out.trans (Ext.trans (by repeat (first | exact Ext.refl _ | assumption | refine Ext.alloc ?_ _ | refine Ext.drew ?_ | refine Ext.drewN ?_ _ | (refine Ext.setCell ?_ (by simp <;> omega) _) | refine Ext.trans ?_ (by assumption))) hx)); clear HX5; have HX5 := HX6; clear HX6)); have HX9 := Lib.hid (HX.out.trans (Ext.trans (by repeat (first | exact Ext.refl _ | assumption | refine Ext.alloc ?_ _ | refine Ext.drew ?_ | refine Ext.drewN ?_ _ | (refine Ext.setCell ?_ (by simp <;> omega) _) | refine Ext.trans ?_ (by assumption))) hx)); clear HX; have HX := HX9; clear HX9; obtain ⟨⟨y0, y1, y2⟩, y3, y4, yl⟩ := HBC.out _ HX.out; clear hx))
      go_ret
      exact Ret.mk' rfl (HXW.out.trans HX.out)
      -- END B
    case neg =>
      have i40 : ¬ 40 < (s.size : Int) := by omega
      have CCR := Lib.hid fun X (hx : Ext (W.alloc (.cells #[.slice a.pa r.pats.length a.pc, .slice a.ea r.excs.length a.ec, .slice a.ba r.bars.length a.bc, .int .i64 r.left, .int .i64 r.right] 24)) X) => copyRules_any r a X (hr.ext (((Ext.refl W).alloc _).trans hx)) ⟨by have := HSU.out.p.1; omega, by have := HSU.out.e.1; omega, by have := HSU.out.b.1; omega⟩
      have CRE := Lib.hid fun X (hx : Ext (W.alloc (.cells #[.slice a.pa r.pats.length a.pc, .slice a.ea r.excs.length a.ec, .slice a.ba r.bars.length a.bc, .int .i64 r.left, .int .i64 r.right] 24)) X) => rulesErr_any r a s X (hr.ext (((Ext.refl W).alloc _).trans hx)) HSU.out (by omega)
      have CHY := Lib.hid fun a' X (h : RuR X a' r) => Hyphens_any r a' s X h HSU.out (by omega)
      have CHD := Lib.hid fun a' X (h : RuR X a' r) => Hyphened_any r a' s X h HSU.out (by omega)
      by_cases hre : ruledE r s = 0
      case neg =>
        rw [if_neg hre] at CHY CHD
        generalize ruledE r s = c at *
        have b0 : (c != 0) = true := by simpa using hre
        have e0 : (ByteArray.empty.toList == (⟨#[]⟩ : ByteArray).toList) = true := str_eq_true _
        have e1 : ByteArray.empty.toList.isEmpty = true := by rw [Go.ByteArray.toList_eq]; rfl
        clear hr hz hsh
        -- BEGIN C
        unfold RU.val at CSH CCR CRE
        show Calls _ _ #[.agg #[.slice a.pa r.pats.length a.pc, .slice a.ea r.excs.length a.ec, .slice a.ba r.bars.length a.bc, .int .i64 r.left, .int .i64 r.right], .string s] _ _
        go_enter Tryz.func3, Tryz.ntmps3
        go_wp2_with (first | (go_at_call 13; refine Calls.mono (awake2_any _) ?_; rintro e w1 ⟨rfl, hx⟩; (try (have hq := HX5; clear hq; have HX6 := Lib.hid (HX5.out.trans (Ext.trans (by repeat (first | exact Ext.refl _ | assumption | refine Ext.alloc ?_ _ | refine Ext.drew ?_ | refine Ext.drewN ?_ _ | (refine Ext.setCell ?_ (by simp <;> omega) _) | refine Ext.trans ?_ (by assumption))) hx)); clear HX5; have HX5 := HX6; clear HX6)); have HX9 := Lib.hid (HX.out.trans (Ext.trans (by repeat (first | exact Ext.refl _ | assumption | refine Ext.alloc ?_ _ | refine Ext.drew ?_ | refine Ext.drewN ?_ _ | (refine Ext.setCell ?_ (by simp <;> omega) _) | refine Ext.trans ?_ (by assumption))) hx)); clear HX; have HX := HX9; clear HX9; obtain ⟨⟨y0, y1, y2⟩, y3, y4, yl⟩ := HBC.out _ HX.out; clear hx) | (go_at_call 14; refine Calls.mono (CSH.out _ (HX.out.trans (by repeat (first | exact Ext.refl _ | assumption | refine Ext.alloc ?_ _ | refine Ext.drew ?_ | refine Ext.drewN ?_ _ | (refine Ext.setCell ?_ (by simp <;> omega) _) | refine Ext.trans ?_ (by assumption))))) ?_; rintro e w2 ⟨rfl, hx⟩; (try (have hq := HX5; clear hq; have HX6 := Lib.hid (HX5.out.trans (Ext.trans (by repeat (first | exact Ext.refl _ | assumption | refine Ext.alloc ?_ _ | refine Ext.drew ?_ | refine Ext.drewN ?_ _ | (refine Ext.setCell ?_ (by simp <;> omega) _) | refine Ext.trans ?_ (by assumption))) hx)); clear HX5; have HX5 := HX6; clear HX6)); have HX9 := Lib.hid (HX.out.trans (Ext.trans (by repeat (first | exact Ext.refl _ | assumption | refine Ext.alloc ?_ _ | refine Ext.drew ?_ | refine Ext.drewN ?_ _ | (refine Ext.setCell ?_ (by simp <;> omega) _) | refine Ext.trans ?_ (by assumption))) hx)); clear HX; have HX := HX9; clear HX9; obtain ⟨⟨y0, y1, y2⟩, y3, y4, yl⟩ := HBC.out _ HX.out; clear hx) | (go_at_call 16; refine Calls.mono (CCR.out _ (HX.out.trans (by repeat (first | exact Ext.refl _ | assumption | refine Ext.alloc ?_ _ | refine Ext.drew ?_ | refine Ext.drewN ?_ _ | (refine Ext.setCell ?_ (by simp <;> omega) _) | refine Ext.trans ?_ (by assumption))))) ?_; rintro e w3 ⟨a1, rfl, hru, _, _, hx⟩; have HRU1 := Lib.hid hru; clear hru; (try (have hq := HX5; clear hq; have HX6 := Lib.hid (HX5.out.trans (Ext.trans (by repeat (first | exact Ext.refl _ | assumption | refine Ext.alloc ?_ _ | refine Ext.drew ?_ | refine Ext.drewN ?_ _ | (refine Ext.setCell ?_ (by simp <;> omega) _) | refine Ext.trans ?_ (by assumption))) hx)); clear HX5; have HX5 := HX6; clear HX6)); have HX9 := Lib.hid (HX.out.trans (Ext.trans (by repeat (first | exact Ext.refl _ | assumption | refine Ext.alloc ?_ _ | refine Ext.drew ?_ | refine Ext.drewN ?_ _ | (refine Ext.setCell ?_ (by simp <;> omega) _) | refine Ext.trans ?_ (by assumption))) hx)); clear HX; have HX := HX9; clear HX9; obtain ⟨⟨y0, y1, y2⟩, y3, y4, yl⟩ := HBC.out _ HX.out; clear hx) | (go_at_call 15; refine Calls.mono (CHY.out _ _ (HRU1.out.ext (by repeat (first | exact Ext.refl _ | assumption | refine Ext.alloc ?_ _ | refine Ext.drew ?_ | refine Ext.drewN ?_ _ | (refine Ext.setCell ?_ (by simp <;> omega) _) | refine Ext.trans ?_ (by assumption))))) ?_; rintro e w4 ⟨A5, c5, rfl, hs5, hx⟩; have HL5 := Lib.hid hs5.ri; clear hs5; (try (have hq := HX5; clear hq; have HX6 := Lib.hid (HX5.out.trans (Ext.trans (by repeat (first | exact Ext.refl _ | assumption | refine Ext.alloc ?_ _ | refine Ext.drew ?_ | refine Ext.drewN ?_ _ | (refine Ext.setCell ?_ (by simp <;> omega) _) | refine Ext.trans ?_ (by assumption))) hx)); clear HX5; have HX5 := HX6; clear HX6)); have HX9 := Lib.hid (HX.out.trans (Ext.trans (by repeat (first | exact Ext.refl _ | assumption | refine Ext.alloc ?_ _ | refine Ext.drew ?_ | refine Ext.drewN ?_ _ | (refine Ext.setCell ?_ (by simp <;> omega) _) | refine Ext.trans ?_ (by assumption))) hx)); clear HX; have HX := HX9; clear HX9; obtain ⟨⟨y0, y1, y2⟩, y3, y4, yl⟩ := HBC.out _ HX.out; clear hx; have HX5 := Lib.hid (Ext.refl w4)) | (go_at_call 17; refine Calls.mono (CHD.out _ _ (HRU1.out.ext (by repeat (first | exact Ext.refl _ | assumption | refine Ext.alloc ?_ _ | refine Ext.drew ?_ | refine Ext.drewN ?_ _ | (refine Ext.setCell ?_ (by simp <;> omega) _) | refine Ext.trans ?_ (by assumption))))) ?_; rintro e w5 ⟨rfl, hx⟩; (try (have hq := HX5; clear hq; have HX6 := Lib.hid (HX5.out.trans (Ext.trans (by repeat (first | exact Ext.refl _ | assumption | refine Ext.alloc ?_ _ | refine Ext.drew ?_ | refine Ext.drewN ?_ _ | (refine Ext.setCell ?_ (by simp <;> omega) _) | refine Ext.trans ?_ (by assumption))) hx)); clear HX5; have HX5 := HX6; clear HX6)); have HX9 := Lib.hid (HX.out.trans (Ext.trans (by repeat (first | exact Ext.refl _ | assumption | refine Ext.alloc ?_ _ | refine Ext.drew ?_ | refine Ext.drewN ?_ _ | (refine Ext.setCell ?_ (by simp <;> omega) _) | refine Ext.trans ?_ (by assumption))) hx)); clear HX; have HX := HX9; clear HX9; obtain ⟨⟨y0, y1, y2⟩, y3, y4, yl⟩ := HBC.out _ HX.out; clear hx) | (go_at_call 18; refine Calls.mono (CRE.out _ (HX.out.trans (by repeat (first | exact Ext.refl _ | assumption | refine Ext.alloc ?_ _ | refine Ext.drew ?_ | refine Ext.drewN ?_ _ | (refine Ext.setCell ?_ (by simp <;> omega) _) | refine Ext.trans ?_ (by assumption))))) ?_; rintro e w6 ⟨rfl, hx⟩; (try (have hq := HX5; clear hq; have HX6 := Lib.hid (HX5.out.trans (Ext.trans (by repeat (first | exact Ext.refl _ | assumption | refine Ext.alloc ?_ _ | refine Ext.drew ?_ | refine Ext.drewN ?_ _ | (refine Ext.setCell ?_ (by simp <;> omega) _) | refine Ext.trans ?_ (by assumption))) hx)); clear HX5; have HX5 := HX6; clear HX6)); have HX9 := Lib.hid (HX.out.trans (Ext.trans (by repeat (first | exact Ext.refl _ | assumption | refine Ext.alloc ?_ _ | refine Ext.drew ?_ | refine Ext.drewN ?_ _ | (refine Ext.setCell ?_ (by simp <;> omega) _) | refine Ext.trans ?_ (by assumption))) hx)); clear HX; have HX := HX9; clear HX9; obtain ⟨⟨y0, y1, y2⟩, y3, y4, yl⟩ := HBC.out _ HX.out; clear hx))
        go_ret
        exact Ret.mk' rfl (HXW.out.trans HX.out)
        -- END C
      case pos =>
        have HRU := Lib.hid (RightU.of (ruledE_rule hre))
        have hs30 := ruledE_size hre
        have CRH := Lib.hid fun X (hx : Ext (W.alloc (.cells #[.slice a.pa r.pats.length a.pc, .slice a.ea r.excs.length a.ec, .slice a.ba r.bars.length a.bc, .int .i64 r.left, .int .i64 r.right] 24)) X) => rHyphens_any r a s X (hr.ext (((Ext.refl W).alloc _).trans hx)) HSU.out (ruledE_rule hre) hs30
        have CRD := Lib.hid fun X (hx : Ext (W.alloc (.cells #[.slice a.pa r.pats.length a.pc, .slice a.ea r.excs.length a.ec, .slice a.ba r.bars.length a.bc, .int .i64 r.left, .int .i64 r.right] 24)) X) => rHyphened_any r a s X (hr.ext (((Ext.refl W).alloc _).trans hx)) HSU.out (ruledE_rule hre) hs30
        have HLEN : Hid (s.data.toList.length = s.size) := Lib.hid (by simp)
        have hfw := hyW_fwd HRU.out s.data.toList
        rw [HLEN.out] at hfw
        rw [hfw] at CRD
        rw [if_pos hre, hre] at CHY CHD
        rw [hre] at CRE
        have CCW := Lib.hid fun X => cut_any s 45 45 rfl X (by omega)
        have HIL : Hid ((insL s.data.toList (hyW r s.data.toList)).length ≤ 100) := Lib.hid (by
          rw [insL_len, HLEN.out]; have := hyW_len r s.data.toList; rw [HLEN.out] at this; omega)
        have CCP := Lib.hid fun X => cut_any (strL (insL s.data.toList (hyW r s.data.toList))) 45 45 rfl X (by rw [strL_size]; have := HIL.out; omega)
        have HLW := Lib.hid fun h => hyphened_law (w := s.data.toList) (hyW r s.data.toList) h
        have HZL : Hid ((hyW r s.data.toList).length ≤ 31) := Lib.hid (by have := hyW_len r s.data.toList; rw [HLEN.out] at this; omega)
        rw [strL_list] at CCP
        clear hr hz hsh hfw hre HRU
        generalize hyW r s.data.toList = zs at *
        obtain ⟨X, hX⟩ : ∃ X, X = strL (insL s.data.toList zs) := ⟨_, rfl⟩
        rw [← hX] at CRD CHD CCP
        have hXs : X.size ≤ 9223372036854775807 := by rw [hX, strL_size]; have := HIL.out; omega
        clear hX
        have e0 : (X.toList == X.toList) = true := str_eq_true _
        unfold RU.val at CSH CCR CRE CRH CRD
        show Calls _ _ #[.agg #[.slice a.pa r.pats.length a.pc, .slice a.ea r.excs.length a.ec, .slice a.ba r.bars.length a.bc, .int .i64 r.left, .int .i64 r.right], .string s] _ _
        go_enter Tryz.func3, Tryz.ntmps3
        -- BEGIN D
        go_upto_region 12 with (first | (go_at_call 13; refine Calls.mono (awake2_any _) ?_; rintro e w1 ⟨rfl, hx⟩; (try (have hq := HX5; clear hq; have HX6 := Lib.hid (HX5.out.trans (Ext.trans (by repeat (first | exact Ext.refl _ | assumption | refine Ext.alloc ?_ _ | refine Ext.drew ?_ | refine Ext.drewN ?_ _ | (refine Ext.setCell ?_ (by simp <;> omega) _) | refine Ext.trans ?_ (by assumption))) hx)); clear HX5; have HX5 := HX6; clear HX6)); have HX9 := Lib.hid (HX.out.trans (Ext.trans (by repeat (first | exact Ext.refl _ | assumption | refine Ext.alloc ?_ _ | refine Ext.drew ?_ | refine Ext.drewN ?_ _ | (refine Ext.setCell ?_ (by simp <;> omega) _) | refine Ext.trans ?_ (by assumption))) hx)); clear HX; have HX := HX9; clear HX9; obtain ⟨⟨y0, y1, y2⟩, y3, y4, yl⟩ := HBC.out _ HX.out; clear hx) | (go_at_call 14; refine Calls.mono (CSH.out _ (HX.out.trans (by repeat (first | exact Ext.refl _ | assumption | refine Ext.alloc ?_ _ | refine Ext.drew ?_ | refine Ext.drewN ?_ _ | (refine Ext.setCell ?_ (by simp <;> omega) _) | refine Ext.trans ?_ (by assumption))))) ?_; rintro e w2 ⟨rfl, hx⟩; (try (have hq := HX5; clear hq; have HX6 := Lib.hid (HX5.out.trans (Ext.trans (by repeat (first | exact Ext.refl _ | assumption | refine Ext.alloc ?_ _ | refine Ext.drew ?_ | refine Ext.drewN ?_ _ | (refine Ext.setCell ?_ (by simp <;> omega) _) | refine Ext.trans ?_ (by assumption))) hx)); clear HX5; have HX5 := HX6; clear HX6)); have HX9 := Lib.hid (HX.out.trans (Ext.trans (by repeat (first | exact Ext.refl _ | assumption | refine Ext.alloc ?_ _ | refine Ext.drew ?_ | refine Ext.drewN ?_ _ | (refine Ext.setCell ?_ (by simp <;> omega) _) | refine Ext.trans ?_ (by assumption))) hx)); clear HX; have HX := HX9; clear HX9; obtain ⟨⟨y0, y1, y2⟩, y3, y4, yl⟩ := HBC.out _ HX.out; clear hx) | (go_at_call 16; refine Calls.mono (CCR.out _ (HX.out.trans (by repeat (first | exact Ext.refl _ | assumption | refine Ext.alloc ?_ _ | refine Ext.drew ?_ | refine Ext.drewN ?_ _ | (refine Ext.setCell ?_ (by simp <;> omega) _) | refine Ext.trans ?_ (by assumption))))) ?_; rintro e w3 ⟨a1, rfl, hru, _, _, hx⟩; have HRU1 := Lib.hid hru; clear hru; (try (have hq := HX5; clear hq; have HX6 := Lib.hid (HX5.out.trans (Ext.trans (by repeat (first | exact Ext.refl _ | assumption | refine Ext.alloc ?_ _ | refine Ext.drew ?_ | refine Ext.drewN ?_ _ | (refine Ext.setCell ?_ (by simp <;> omega) _) | refine Ext.trans ?_ (by assumption))) hx)); clear HX5; have HX5 := HX6; clear HX6)); have HX9 := Lib.hid (HX.out.trans (Ext.trans (by repeat (first | exact Ext.refl _ | assumption | refine Ext.alloc ?_ _ | refine Ext.drew ?_ | refine Ext.drewN ?_ _ | (refine Ext.setCell ?_ (by simp <;> omega) _) | refine Ext.trans ?_ (by assumption))) hx)); clear HX; have HX := HX9; clear HX9; obtain ⟨⟨y0, y1, y2⟩, y3, y4, yl⟩ := HBC.out _ HX.out; clear hx) | (go_at_call 15; refine Calls.mono (CHY.out _ _ (HRU1.out.ext (by repeat (first | exact Ext.refl _ | assumption | refine Ext.alloc ?_ _ | refine Ext.drew ?_ | refine Ext.drewN ?_ _ | (refine Ext.setCell ?_ (by simp <;> omega) _) | refine Ext.trans ?_ (by assumption))))) ?_; rintro e w4 ⟨A5, c5, rfl, hs5, hx⟩; have HL5 := Lib.hid hs5.ri; clear hs5; (try (have hq := HX5; clear hq; have HX6 := Lib.hid (HX5.out.trans (Ext.trans (by repeat (first | exact Ext.refl _ | assumption | refine Ext.alloc ?_ _ | refine Ext.drew ?_ | refine Ext.drewN ?_ _ | (refine Ext.setCell ?_ (by simp <;> omega) _) | refine Ext.trans ?_ (by assumption))) hx)); clear HX5; have HX5 := HX6; clear HX6)); have HX9 := Lib.hid (HX.out.trans (Ext.trans (by repeat (first | exact Ext.refl _ | assumption | refine Ext.alloc ?_ _ | refine Ext.drew ?_ | refine Ext.drewN ?_ _ | (refine Ext.setCell ?_ (by simp <;> omega) _) | refine Ext.trans ?_ (by assumption))) hx)); clear HX; have HX := HX9; clear HX9; obtain ⟨⟨y0, y1, y2⟩, y3, y4, yl⟩ := HBC.out _ HX.out; clear hx; have HX5 := Lib.hid (Ext.refl w4)) | (go_at_call 17; refine Calls.mono (CHD.out _ _ (HRU1.out.ext (by repeat (first | exact Ext.refl _ | assumption | refine Ext.alloc ?_ _ | refine Ext.drew ?_ | refine Ext.drewN ?_ _ | (refine Ext.setCell ?_ (by simp <;> omega) _) | refine Ext.trans ?_ (by assumption))))) ?_; rintro e w5 ⟨rfl, hx⟩; (try (have hq := HX5; clear hq; have HX6 := Lib.hid (HX5.out.trans (Ext.trans (by repeat (first | exact Ext.refl _ | assumption | refine Ext.alloc ?_ _ | refine Ext.drew ?_ | refine Ext.drewN ?_ _ | (refine Ext.setCell ?_ (by simp <;> omega) _) | refine Ext.trans ?_ (by assumption))) hx)); clear HX5; have HX5 := HX6; clear HX6)); have HX9 := Lib.hid (HX.out.trans (Ext.trans (by repeat (first | exact Ext.refl _ | assumption | refine Ext.alloc ?_ _ | refine Ext.drew ?_ | refine Ext.drewN ?_ _ | (refine Ext.setCell ?_ (by simp <;> omega) _) | refine Ext.trans ?_ (by assumption))) hx)); clear HX; have HX := HX9; clear HX9; obtain ⟨⟨y0, y1, y2⟩, y3, y4, yl⟩ := HBC.out _ HX.out; clear hx) | (go_at_call 18; refine Calls.mono (CRE.out _ (HX.out.trans (by repeat (first | exact Ext.refl _ | assumption | refine Ext.alloc ?_ _ | refine Ext.drew ?_ | refine Ext.drewN ?_ _ | (refine Ext.setCell ?_ (by simp <;> omega) _) | refine Ext.trans ?_ (by assumption))))) ?_; rintro e w6 ⟨rfl, hx⟩; (try (have hq := HX5; clear hq; have HX6 := Lib.hid (HX5.out.trans (Ext.trans (by repeat (first | exact Ext.refl _ | assumption | refine Ext.alloc ?_ _ | refine Ext.drew ?_ | refine Ext.drewN ?_ _ | (refine Ext.setCell ?_ (by simp <;> omega) _) | refine Ext.trans ?_ (by assumption))) hx)); clear HX5; have HX5 := HX6; clear HX6)); have HX9 := Lib.hid (HX.out.trans (Ext.trans (by repeat (first | exact Ext.refl _ | assumption | refine Ext.alloc ?_ _ | refine Ext.drew ?_ | refine Ext.drewN ?_ _ | (refine Ext.setCell ?_ (by simp <;> omega) _) | refine Ext.trans ?_ (by assumption))) hx)); clear HX; have HX := HX9; clear HX9; obtain ⟨⟨y0, y1, y2⟩, y3, y4, yl⟩ := HBC.out _ HX.out; clear hx) | (go_at_call 20; refine Calls.mono (CRH.out _ (HX.out.trans (by repeat (first | exact Ext.refl _ | assumption | refine Ext.alloc ?_ _ | refine Ext.drew ?_ | refine Ext.drewN ?_ _ | (refine Ext.setCell ?_ (by simp <;> omega) _) | refine Ext.trans ?_ (by assumption))))) ?_; rintro e w7 ⟨A6, c6, rfl, hs6, hx⟩; have HL6 := Lib.hid hs6.ri; clear hs6; (try (have hq := HX5; clear hq; have HX6 := Lib.hid (HX5.out.trans (Ext.trans (by repeat (first | exact Ext.refl _ | assumption | refine Ext.alloc ?_ _ | refine Ext.drew ?_ | refine Ext.drewN ?_ _ | (refine Ext.setCell ?_ (by simp <;> omega) _) | refine Ext.trans ?_ (by assumption))) hx)); clear HX5; have HX5 := HX6; clear HX6)); have HX9 := Lib.hid (HX.out.trans (Ext.trans (by repeat (first | exact Ext.refl _ | assumption | refine Ext.alloc ?_ _ | refine Ext.drew ?_ | refine Ext.drewN ?_ _ | (refine Ext.setCell ?_ (by simp <;> omega) _) | refine Ext.trans ?_ (by assumption))) hx)); clear HX; have HX := HX9; clear HX9; obtain ⟨⟨y0, y1, y2⟩, y3, y4, yl⟩ := HBC.out _ HX.out; clear hx) | (go_at_call 19; refine Calls.mono (ints_any A5 A6 c5 c6 zs zs _ (HL5.out.ext (HX5.out.trans (by repeat (first | exact Ext.refl _ | assumption | refine Ext.alloc ?_ _ | refine Ext.drew ?_ | refine Ext.drewN ?_ _ | (refine Ext.setCell ?_ (by simp <;> omega) _) | refine Ext.trans ?_ (by assumption))))) (HL6.out.ext (by repeat (first | exact Ext.refl _ | assumption | refine Ext.alloc ?_ _ | refine Ext.drew ?_ | refine Ext.drewN ?_ _ | (refine Ext.setCell ?_ (by simp <;> omega) _) | refine Ext.trans ?_ (by assumption))))) ?_; rw [decide_eq_true rfl]; rintro e w8 ⟨rfl, hx⟩; (try (have hq := HX5; clear hq; have HX6 := Lib.hid (HX5.out.trans (Ext.trans (by repeat (first | exact Ext.refl _ | assumption | refine Ext.alloc ?_ _ | refine Ext.drew ?_ | refine Ext.drewN ?_ _ | (refine Ext.setCell ?_ (by simp <;> omega) _) | refine Ext.trans ?_ (by assumption))) hx)); clear HX5; have HX5 := HX6; clear HX6)); have HX9 := Lib.hid (HX.out.trans (Ext.trans (by repeat (first | exact Ext.refl _ | assumption | refine Ext.alloc ?_ _ | refine Ext.drew ?_ | refine Ext.drewN ?_ _ | (refine Ext.setCell ?_ (by simp <;> omega) _) | refine Ext.trans ?_ (by assumption))) hx)); clear HX; have HX := HX9; clear HX9; obtain ⟨⟨y0, y1, y2⟩, y3, y4, yl⟩ := HBC.out _ HX.out; clear hx) | (go_at_call 21; refine Calls.mono (CRD.out _ (HX.out.trans (by repeat (first | exact Ext.refl _ | assumption | refine Ext.alloc ?_ _ | refine Ext.drew ?_ | refine Ext.drewN ?_ _ | (refine Ext.setCell ?_ (by simp <;> omega) _) | refine Ext.trans ?_ (by assumption))))) ?_; rintro e w9 ⟨rfl, hx⟩; (try (have hq := HX5; clear hq; have HX6 := Lib.hid (HX5.out.trans (Ext.trans (by repeat (first | exact Ext.refl _ | assumption | refine Ext.alloc ?_ _ | refine Ext.drew ?_ | refine Ext.drewN ?_ _ | (refine Ext.setCell ?_ (by simp <;> omega) _) | refine Ext.trans ?_ (by assumption))) hx)); clear HX5; have HX5 := HX6; clear HX6)); have HX9 := Lib.hid (HX.out.trans (Ext.trans (by repeat (first | exact Ext.refl _ | assumption | refine Ext.alloc ?_ _ | refine Ext.drew ?_ | refine Ext.drewN ?_ _ | (refine Ext.setCell ?_ (by simp <;> omega) _) | refine Ext.trans ?_ (by assumption))) hx)); clear HX; have HX := HX9; clear HX9; obtain ⟨⟨y0, y1, y2⟩, y3, y4, yl⟩ := HBC.out _ HX.out; clear hx))
        have HXA := Lib.hid (HXW.out.trans HX.out)
        clear y0 y1 y2 y3 y4 yl HX HX5 HL5 HRU1 HBC CSH CCR CRE CRH CRD CHY CHD HXW HL6
        obtain ⟨l, hl⟩ : ∃ l, l = s.data.toList := ⟨_, rfl⟩
        rw [← hl] at CCW CCP HLW HLEN HIL
        have HSL : Hid (s = strL l) := Lib.hid (by rw [hl, strL_of])
        clear hl
        have HP1 : Hid ((cutL l 45).length ≤ 100000) := Lib.hid (by rw [cutL_len]; have h1 : l.count 45 ≤ l.length := List.count_le_length; have := HLEN.out; omega)
        have HP2 : Hid ((cutL (insL l zs) 45).length ≤ 100000) := Lib.hid (by rw [cutL_len]; have h1 : (insL l zs).count 45 ≤ (insL l zs).length := List.count_le_length; have := HIL.out; omega)
        generalize cutL l 45 = P1 at *
        generalize cutL (insL l zs) 45 = P2 at *
        by_cases h1 : 1 < P1.length
        case pos =>
          have i1 : 1 < (P1.length : Int) := by omega
          clear HLW h1
          go_wp2_with (first | (go_at_call 22; refine Calls.mono (CCW.out _) ?_; rintro e w10 ⟨v1, rfl, ho, hx⟩; obtain ⟨A10, c10, rfl, hr10⟩ := OwnW.form ho (by have := HP1.out; omega); have HX10 := Lib.hid (HXA.out.trans (Ext.trans (by repeat (first | exact Ext.refl _ | assumption | refine Ext.alloc ?_ _ | refine Ext.drew ?_ | refine Ext.drewN ?_ _ | (refine Ext.setCell ?_ (by simp <;> omega) _) | refine Ext.trans ?_ (by assumption))) hx)); clear ho hx hr10))
          go_ret
          exact Ret.mk' rfl HX10.out
        case neg =>
          have i1 : ¬ 1 < (P1.length : Int) := by omega
          obtain ⟨hfl, hpl⟩ := HLW.out (by omega)
          have HFL := Lib.hid hfl; have HPL := Lib.hid hpl
          clear HLW h1 hfl hpl
          go_upto_region 17 with (first | (have hq := HX10; clear hq; go_at_call 22; refine Calls.mono (CCP.out _) ?_; rintro e w11 ⟨v2, rfl, ho, hx⟩; obtain ⟨A11, c11, rfl, hr11⟩ := OwnW.form ho (by have := HP2.out; omega); have HR11 := Lib.hid hr11; have HX11 := Lib.hid (HX10.out.trans (Ext.trans (by repeat (first | exact Ext.refl _ | assumption | refine Ext.alloc ?_ _ | refine Ext.drew ?_ | refine Ext.drewN ?_ _ | (refine Ext.setCell ?_ (by simp <;> omega) _) | refine Ext.trans ?_ (by assumption))) hx)); clear ho hx hr11) | (go_at_call 22; refine Calls.mono (CCW.out _) ?_; rintro e w10 ⟨v1, rfl, ho, hx⟩; obtain ⟨A10, c10, rfl, hr10⟩ := OwnW.form ho (by have := HP1.out; omega); have HX10 := Lib.hid (HXA.out.trans (Ext.trans (by repeat (first | exact Ext.refl _ | assumption | refine Ext.alloc ?_ _ | refine Ext.drew ?_ | refine Ext.drewN ?_ _ | (refine Ext.setCell ?_ (by simp <;> omega) _) | refine Ext.trans ?_ (by assumption))) hx)); clear ho hx hr10))
          have hpz : P2.length ≤ 40 := by have := HPL.out; have := HZL.out; omega
          have HFB : Hid (∀ k, ((P2.take k).flatten).length ≤ 40) := Lib.hid fun k => by
            have h1 := HFL.out
            have h2 : ((P2.take k).flatten).length ≤ P2.flatten.length := by
              conv => rhs; rw [← List.take_append_drop k P2]
              rw [List.flatten_append, List.length_append]; omega
            rw [h1, HLEN.out] at h2
            omega
          clear CCW CCP i1 HP1 HP2
          go_loopw [10, 12] (fun v10 v12 wr => ∃ k : Nat, k ≤ P2.length ∧ v10 = .string (strL ((P2.take k).flatten)) ∧ v12 = .int .i64 (k : Int) ∧ w11 = wr) (fun _ v12 _ => P2.length - (intOf v12).toNat)
          case atStart => exact ⟨0, Nat.zero_le _, rfl, rfl, rfl⟩
          case round =>
            obtain ⟨k, hk, rfl, rfl, rfl⟩ := hrel
            have hsz1 : (strL ((P2.take k).flatten)).size = ((P2.take k).flatten).length := strL_size _
            have hb1 := HFB.out k
            by_cases hlt : k < P2.length
            case pos =>
              have ik : (k : Int) < (P2.length : Int) := by omega
              have ik2 : (k : Int) < 50 := by omega
              obtain ⟨b, off, hA, hbw, hcell⟩ := HR11.out.2.2 (by simp; omega)
              subst hA
              have ck := hcell k (by simpa using hlt)
              rw [show (P2.map strL).getD k ByteArray.empty = strL (P2.getD k []) by rw [List.getD_eq_getElem?_getD, List.getElem?_map, List.getElem?_eq_getElem hlt, List.getD_eq_getElem?_getD, List.getElem?_eq_getElem hlt]; rfl] at ck
              have HTK : Hid ((P2.take (k + 1)).flatten = (P2.take k).flatten ++ P2.getD k []) := Lib.hid (by
                rw [List.take_succ_eq_append_getElem hlt, List.flatten_append, List.getD_eq_getElem?_getD, List.getElem?_eq_getElem hlt]; simp)
              have hb2 := HFB.out (k + 1)
              rw [HTK.out, List.length_append] at hb2
              clear hcell
              generalize P2.getD k [] = y at *
              generalize (P2.take k).flatten = x at *
              have hsz2 : (strL y).size = y.length := strL_size _
              have hap : strL x ++ strL y = strL (x ++ y) := strL_append _ _
              have j1 : ¬ 9223372036854775807 < x.length + y.length := by omega
              go_wp2
              go_roundw
              case rel => exact ⟨k + 1, by omega, by rw [HTK.out], by go_num, by trivial⟩
              case measure => simp [intOf]; omega
            case neg =>
              obtain rfl : k = P2.length := by omega
              have ik : ¬ (P2.length : Int) < (P2.length : Int) := by omega
              have hE : strL ((P2.take P2.length).flatten) = s := by rw [List.take_length, HFL.out, ← HSL.out]
              have e1 : (s.toList == s.toList) = true := str_eq_true _
              have i5 : ((P2.length : Int) == (zs.length : Int) + 1) = true := by rw [beq_iff_eq]; have := HPL.out; omega
              have u1 : IntKind.i64.wrap ((zs.length : Int) + 1) = (zs.length : Int) + 1 := IntWalk.i64_in _ (by have := HZL.out; omega)
              rw [hE] at hsz1 ⊢
              clear hE hsz1 hb1 HFB
              go_wp2
              go_ret
              exact Ret.mk' rfl HX11.out
        -- END D
end Go.Proofs.YtccdnieoaejgdaaGreatDoor.texthyphens
