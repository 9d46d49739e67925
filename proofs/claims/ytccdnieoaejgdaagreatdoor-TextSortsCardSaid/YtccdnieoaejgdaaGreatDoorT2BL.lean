/-
  Walk: the reference's error of rules (CheckRules, Err, and the law's rulesErr).
-/
import Derived.Test.YtccdnieoaejgdaaGreatDoorT2BJ
import Derived.Test.YtccdnieoaejgdaaGreatDoorT2AX
set_option linter.unusedVariables false
set_option linter.unusedSimpArgs false
set_option linter.unusedSectionVars false
namespace Go.Proofs.YtccdnieoaejgdaaGreatDoor
open Go.RowKit Go.Lib

theorem patBad_step {l : List ByteArray} {k : Nat} (h : patBad l k = none) : patBad l (k + 1) = match patOf (l.getD k ByteArray.empty).data.toList with | some _ => none | none => some k := by
  rw [patBad, h]
  cases patOf (l.getD k ByteArray.empty).data.toList <;> rfl
theorem patBad_keep {l : List ByteArray} {k n : Nat} (h : patBad l k = some n) : ∀ m, k ≤ m → patBad l m = some n
  | 0, hm => by rw [show k = 0 by omega] at h; exact h
  | m + 1, hm => by
    rcases Nat.lt_or_ge m k with h1 | h1
    · rw [show m + 1 = k by omega]; exact h
    · rw [patBad, patBad_keep h m h1]
/-- readPattern at a right pattern, and at a wrong one. -/
def RetRPy (p : Pat) (w : World) (e : Ending) (w' : World) : Prop := ∃ A c, e = .returned (.tuple #[.agg #[.string (strL (itemsL p)), .slice A (levsL p).length c], .bool true]) ∧ Own w' w.heap.size (.slice A (levsL p).length c) (levsL p) ∧ Ext w w'
def RetRPn (w : World) (e : Ending) (w' : World) : Prop := ∃ s A n c, e = .returned (.tuple #[.agg #[.string s, .slice A n c], .bool false]) ∧ Ext w w'
theorem readPattern_yes (s : ByteArray) (p : Pat) (w : World) (hs : s.size ≤ 100000) (h : patOf s.data.toList = some p) : Calls Tryz.prog 85 #[.string s] w (RetRPy p w) :=
  (readPattern_any s w hs).mono fun _ _ hr => by
    rcases hr with ⟨q, A, c, h1, h2, h3, h4⟩ | ⟨h1, _⟩
    · rw [h] at h1; cases h1; exact ⟨A, c, h2, h3, h4⟩
    · rw [h] at h1; cases h1
theorem readPattern_no (s : ByteArray) (w : World) (hs : s.size ≤ 100000) (h : patOf s.data.toList = none) : Calls Tryz.prog 85 #[.string s] w (RetRPn w) :=
  (readPattern_any s w hs).mono fun _ _ hr => by
    rcases hr with ⟨q, A, c, h1, _⟩ | ⟨_, h2⟩
    · rw [h] at h1; cases h1
    · exact h2
set_option maxRecDepth 100000 in
set_option maxHeartbeats 4000000 in
theorem rCheckRules_any (r : RU) (a : RuA) (w : World) (h : RuR w a r) (hs : ShortU r) : Calls Tryz.prog 79 #[r.val a] w (Ret (.tuple #[.int .i64 (ruleE r).1, .int .i64 (ruleE r).2]) w) := by
  obtain ⟨pa, pc, ea, ec, ba, bc⟩ := a
  have hb1 := h.pats.2.1; have hb2 := h.excs.2.1; have hb3 := h.bars.2.1
  have HRP := Lib.hid h.pats
  have CE := Lib.hid fun W (hx : Ext w W) => checkMarked_any ea ec r.excs 45 45 rfl true W (h.excs.ext hx) (fun k hk => by have := hs.e.2 k hk; omega)
  have CB := Lib.hid fun W (hx : Ext w W) => checkMarked_any ba bc r.bars 124 124 rfl false W (h.bars.ext hx) (fun k hk => by have := hs.b.2 k hk; omega)
  have HSP := Lib.hid hs.p.2
  have HE : Hid (ruleE r = if 60 < r.pats.length then (0, 8) else match patBad r.pats r.pats.length with
    | some k => ((k : Int), 3)
    | none => if (mkChk true 45 r.excs).2 ≠ 0 then mkChk true 45 r.excs
      else if (mkChk false 124 r.bars).2 ≠ 0 then mkChk false 124 r.bars
      else if ¬ (1 ≤ r.left ∧ r.left ≤ 10) ∨ ¬ (1 ≤ r.right ∧ r.right ≤ 10) then (0, 2) else (0, 0)) := Lib.hid rfl
  clear h hs
  unfold RU.val
  simp only at HRP hb1 hb2 hb3 CE CB ⊢
  generalize ruleE r = out at *
  generalize r.pats = l at *
  generalize r.excs = l2 at *
  generalize r.bars = l3 at *
  generalize r.left = z1 at *
  generalize r.right = z2 at *
  generalize mkChk true 45 l2 = m2 at *
  generalize mkChk false 124 l3 = m3 at *
  by_cases hmany : 60 < l.length
  case pos =>
    have im : 60 < (l.length : Int) := by omega
    have HV : Hid (out = (0, 8)) := Lib.hid (by rw [HE.out, if_pos hmany])
    clear HE hmany
    go_enter Tryz.func79, Tryz.ntmps79
    go_wp2
    go_ret2
    exact Ret.mk' (by rw [HV.out]; rfl) (by repeat (first | exact Ext.refl _ | assumption | refine Ext.alloc ?_ _ | refine Ext.drew ?_ | refine Ext.drewN ?_ _ | (refine Ext.setCell ?_ (by simp <;> omega) _) | refine Ext.trans ?_ (by assumption)))
  case neg =>
    have im : ¬ 60 < (l.length : Int) := by omega
    have HE2 := HE.out
    rw [if_neg hmany] at HE2
    have HE3 := Lib.hid HE2
    clear HE HE2 hmany
    go_enter Tryz.func79, Tryz.ntmps79
    go_upto_region 4 with fail
    have HB := Lib.hid (Blk.new w 24 #[.slice pa l.length pc, .slice ea l2.length ec, .slice ba l3.length bc, .int .i64 z1, .int .i64 z2])
    have HX0 : Hid (Ext w (w.alloc (.cells #[.slice pa l.length pc, .slice ea l2.length ec, .slice ba l3.length bc, .int .i64 z1, .int .i64 z2] 24))) := Lib.hid ((Ext.refl w).alloc _)
    generalize w.alloc (.cells #[.slice pa l.length pc, .slice ea l2.length ec, .slice ba l3.length bc, .int .i64 z1, .int .i64 z2] 24) = w0 at *
    go_loopw [4, 5, 6] (fun v4 _ _ wr => ∃ k : Nat, k ≤ l.length ∧ v4 = .int .i64 (k : Int) ∧ Hid (patBad l k = none) ∧ Hid (Ext w0 wr)) (fun v4 _ _ _ => l.length - (intOf v4).toNat)
    case atStart => exact ⟨0, Nat.zero_le _, rfl, Lib.hid rfl, Lib.hid (Ext.refl _)⟩
    case round =>
      obtain ⟨k, hk, rfl, HPB, HX⟩ := hrel
      have HB1 := Lib.hid (HB.out.ext HX.out)
      have HXR := Lib.hid (HX0.out.trans HX.out)
      have y0 := HB1.out.cell 0 _ rfl
      have yl := HB1.out.lt
      by_cases hlt : k < l.length
      case pos =>
        have ik : (k : Int) < (l.length : Int) := by omega
        have HST := Lib.hid (patBad_step HPB.out)
        have hszk := HSP.out k hlt
        obtain ⟨b, off, hpa, hbw, hcell⟩ := (HRP.out.ext HXR.out).2.2 (by omega)
        subst hpa
        have ck := hcell k hlt
        clear hcell
        cases ho : patOf (l.getD k ByteArray.empty).data.toList
        case none =>
          -- BEGIN A
          rw [ho] at HST
          have CP := Lib.hid fun W => readPattern_no (l.getD k ByteArray.empty) W (by omega) ho
          have HV : Hid (out = ((k : Int), 3)) := Lib.hid (by rw [HE3.out, patBad_keep HST.out l.length (by omega)])
          generalize l.getD k ByteArray.empty = t at *
          clear HST HE3 hszk ho
          go_wp2_with (first | (go_at_call 85; refine Calls.mono (CP.out _) ?_; rintro e w1 ⟨sx, A1, n1, c1, rfl, hx⟩; have HX1 := Lib.hid hx; have hz1 := hx.size; clear hx))
          go_ret2
          have hz0 := HXR.out.size
          exact Ret.mk' (by rw [HV.out]; rfl) (HXR.out.trans (HX1.out.trans (by repeat (first | exact Ext.refl _ | assumption | refine Ext.alloc ?_ _ | refine Ext.drew ?_ | refine Ext.drewN ?_ _ | (refine Ext.setCell ?_ (by simp <;> omega) _) | refine Ext.trans ?_ (by assumption)))))
          -- END A
        case some p =>
          -- BEGIN B
          rw [ho] at HST
          have CP := Lib.hid fun W => readPattern_yes (l.getD k ByteArray.empty) p W (by omega) ho
          generalize l.getD k ByteArray.empty = t at *
          clear hszk ho
          go_wp2_with (first | (go_at_call 85; refine Calls.mono (CP.out _) ?_; rintro e w1 ⟨A1, c1, rfl, _, hx⟩; have HX1 := Lib.hid hx; have hz1 := hx.size; clear hx))
          have hz0 := HX.out.size
          go_roundw
          case rel => exact ⟨k + 1, by omega, by go_num, HST, Lib.hid (HX.out.trans (HX1.out.trans (by repeat (first | exact Ext.refl _ | assumption | refine Ext.alloc ?_ _ | refine Ext.drew ?_ | refine Ext.drewN ?_ _ | (refine Ext.setCell ?_ (by simp <;> omega) _) | refine Ext.trans ?_ (by assumption)))))⟩
          case measure => simp [intOf]; omega
          -- END B
      case neg =>
        obtain rfl : k = l.length := by omega
        have ik : ¬ (l.length : Int) < (l.length : Int) := by omega
        have HE4 := HE3.out
        rw [HPB.out] at HE4
        simp only at HE4
        have HE := Lib.hid HE4
        clear HE3 HE4
        have y1 := HB1.out.cell 1 _ rfl
        obtain ⟨i2, e2⟩ := m2
        obtain ⟨i3, e3⟩ := m3
        simp only at HE CE CB
        by_cases h2 : e2 = 0
        case neg =>
          -- BEGIN C
          have HV : Hid (out = (i2, e2)) := Lib.hid (by rw [HE.out, if_pos h2])
          have b2 : (e2 != 0) = true := by simpa using h2
          clear HE CB
          go_wp2_with (first | (have hq := HX2; clear hq; go_at_call 118; refine Calls.mono (CB.out _ (HX2.out.trans (by repeat (first | exact Ext.refl _ | assumption | refine Ext.alloc ?_ _ | refine Ext.drew ?_ | refine Ext.drewN ?_ _ | (refine Ext.setCell ?_ (by simp <;> omega) _) | refine Ext.trans ?_ (by assumption))))) ?_; rintro e w3 ⟨rfl, hx3⟩; have HX3 := Lib.hid (HX2.out.trans (Ext.trans (by repeat (first | exact Ext.refl _ | assumption | refine Ext.alloc ?_ _ | refine Ext.drew ?_ | refine Ext.drewN ?_ _ | (refine Ext.setCell ?_ (by simp <;> omega) _) | refine Ext.trans ?_ (by assumption))) hx3)); have h9 := HBW2.out.ext (Ext.trans (by repeat (first | exact Ext.refl _ | assumption | refine Ext.alloc ?_ _ | refine Ext.drew ?_ | refine Ext.drewN ?_ _ | (refine Ext.setCell ?_ (by simp <;> omega) _) | refine Ext.trans ?_ (by assumption))) hx3); have y3 := h9.cell 3 _ rfl; have y4 := h9.cell 4 _ rfl; have yl := h9.lt; clear hx3 h9) | (go_at_call 118; refine Calls.mono (CE.out _ (HXR.out.trans (by repeat (first | exact Ext.refl _ | assumption | refine Ext.alloc ?_ _ | refine Ext.drew ?_ | refine Ext.drewN ?_ _ | (refine Ext.setCell ?_ (by simp <;> omega) _) | refine Ext.trans ?_ (by assumption))))) ?_; rintro e w2 ⟨rfl, hx2⟩; have HX2 := Lib.hid (HXR.out.trans (Ext.trans (by repeat (first | exact Ext.refl _ | assumption | refine Ext.alloc ?_ _ | refine Ext.drew ?_ | refine Ext.drewN ?_ _ | (refine Ext.setCell ?_ (by simp <;> omega) _) | refine Ext.trans ?_ (by assumption))) hx2)); have HBW2 := Lib.hid (HB1.out.ext (Ext.trans (by repeat (first | exact Ext.refl _ | assumption | refine Ext.alloc ?_ _ | refine Ext.drew ?_ | refine Ext.drewN ?_ _ | (refine Ext.setCell ?_ (by simp <;> omega) _) | refine Ext.trans ?_ (by assumption))) hx2)); have y2 := HBW2.out.cell 2 _ rfl; have yl := HBW2.out.lt; clear hx2))
          go_ret2
          exact Ret.mk' (by rw [HV.out]; rfl) HX2.out
          -- END C
        case pos =>
          subst h2
          by_cases h3 : e3 = 0
          case neg =>
            -- BEGIN D
            have HV : Hid (out = (i3, e3)) := Lib.hid (by rw [HE.out, if_neg (by simp), if_pos h3])
            have b3 : (e3 != 0) = true := by simpa using h3
            clear HE
            go_wp2_with (first | (have hq := HX2; clear hq; go_at_call 118; refine Calls.mono (CB.out _ (HX2.out.trans (by repeat (first | exact Ext.refl _ | assumption | refine Ext.alloc ?_ _ | refine Ext.drew ?_ | refine Ext.drewN ?_ _ | (refine Ext.setCell ?_ (by simp <;> omega) _) | refine Ext.trans ?_ (by assumption))))) ?_; rintro e w3 ⟨rfl, hx3⟩; have HX3 := Lib.hid (HX2.out.trans (Ext.trans (by repeat (first | exact Ext.refl _ | assumption | refine Ext.alloc ?_ _ | refine Ext.drew ?_ | refine Ext.drewN ?_ _ | (refine Ext.setCell ?_ (by simp <;> omega) _) | refine Ext.trans ?_ (by assumption))) hx3)); have h9 := HBW2.out.ext (Ext.trans (by repeat (first | exact Ext.refl _ | assumption | refine Ext.alloc ?_ _ | refine Ext.drew ?_ | refine Ext.drewN ?_ _ | (refine Ext.setCell ?_ (by simp <;> omega) _) | refine Ext.trans ?_ (by assumption))) hx3); have y3 := h9.cell 3 _ rfl; have y4 := h9.cell 4 _ rfl; have yl := h9.lt; clear hx3 h9) | (go_at_call 118; refine Calls.mono (CE.out _ (HXR.out.trans (by repeat (first | exact Ext.refl _ | assumption | refine Ext.alloc ?_ _ | refine Ext.drew ?_ | refine Ext.drewN ?_ _ | (refine Ext.setCell ?_ (by simp <;> omega) _) | refine Ext.trans ?_ (by assumption))))) ?_; rintro e w2 ⟨rfl, hx2⟩; have HX2 := Lib.hid (HXR.out.trans (Ext.trans (by repeat (first | exact Ext.refl _ | assumption | refine Ext.alloc ?_ _ | refine Ext.drew ?_ | refine Ext.drewN ?_ _ | (refine Ext.setCell ?_ (by simp <;> omega) _) | refine Ext.trans ?_ (by assumption))) hx2)); have HBW2 := Lib.hid (HB1.out.ext (Ext.trans (by repeat (first | exact Ext.refl _ | assumption | refine Ext.alloc ?_ _ | refine Ext.drew ?_ | refine Ext.drewN ?_ _ | (refine Ext.setCell ?_ (by simp <;> omega) _) | refine Ext.trans ?_ (by assumption))) hx2)); have y2 := HBW2.out.cell 2 _ rfl; have yl := HBW2.out.lt; clear hx2))
            go_ret2
            exact Ret.mk' (by rw [HV.out]; rfl) HX3.out
            -- END D
          case pos =>
            subst h3
            have HE5 := HE.out
            rw [if_neg (by simp), if_neg (by simp)] at HE5
            by_cases hz1 : 1 ≤ z1 ∧ z1 ≤ 10
            case neg =>
              -- BEGIN E
              have HV : Hid (out = (0, 2)) := Lib.hid (by rw [HE5, if_pos (.inl hz1)])
              clear HE HE5
              go_wp2_with (first | (go_at_call 57; refine Calls.mono (bWithin_yes _ _ _ _ ?_) ?_; (omega); rintro e w1 ⟨rfl, rfl⟩) | (go_at_call 57; refine Calls.mono (bWithin_no _ _ _ _ ?_) ?_; (omega); rintro e w1 ⟨rfl, rfl⟩) | (have hq := HX2; clear hq; go_at_call 118; refine Calls.mono (CB.out _ (HX2.out.trans (by repeat (first | exact Ext.refl _ | assumption | refine Ext.alloc ?_ _ | refine Ext.drew ?_ | refine Ext.drewN ?_ _ | (refine Ext.setCell ?_ (by simp <;> omega) _) | refine Ext.trans ?_ (by assumption))))) ?_; rintro e w3 ⟨rfl, hx3⟩; have HX3 := Lib.hid (HX2.out.trans (Ext.trans (by repeat (first | exact Ext.refl _ | assumption | refine Ext.alloc ?_ _ | refine Ext.drew ?_ | refine Ext.drewN ?_ _ | (refine Ext.setCell ?_ (by simp <;> omega) _) | refine Ext.trans ?_ (by assumption))) hx3)); have h9 := HBW2.out.ext (Ext.trans (by repeat (first | exact Ext.refl _ | assumption | refine Ext.alloc ?_ _ | refine Ext.drew ?_ | refine Ext.drewN ?_ _ | (refine Ext.setCell ?_ (by simp <;> omega) _) | refine Ext.trans ?_ (by assumption))) hx3); have y3 := h9.cell 3 _ rfl; have y4 := h9.cell 4 _ rfl; have yl := h9.lt; clear hx3 h9) | (go_at_call 118; refine Calls.mono (CE.out _ (HXR.out.trans (by repeat (first | exact Ext.refl _ | assumption | refine Ext.alloc ?_ _ | refine Ext.drew ?_ | refine Ext.drewN ?_ _ | (refine Ext.setCell ?_ (by simp <;> omega) _) | refine Ext.trans ?_ (by assumption))))) ?_; rintro e w2 ⟨rfl, hx2⟩; have HX2 := Lib.hid (HXR.out.trans (Ext.trans (by repeat (first | exact Ext.refl _ | assumption | refine Ext.alloc ?_ _ | refine Ext.drew ?_ | refine Ext.drewN ?_ _ | (refine Ext.setCell ?_ (by simp <;> omega) _) | refine Ext.trans ?_ (by assumption))) hx2)); have HBW2 := Lib.hid (HB1.out.ext (Ext.trans (by repeat (first | exact Ext.refl _ | assumption | refine Ext.alloc ?_ _ | refine Ext.drew ?_ | refine Ext.drewN ?_ _ | (refine Ext.setCell ?_ (by simp <;> omega) _) | refine Ext.trans ?_ (by assumption))) hx2)); have y2 := HBW2.out.cell 2 _ rfl; have yl := HBW2.out.lt; clear hx2))
              go_ret2
              exact Ret.mk' (by rw [HV.out]; rfl) HX3.out
              -- END E
            case pos =>
              by_cases hz2 : 1 ≤ z2 ∧ z2 ≤ 10
              case neg =>
                -- BEGIN F
                have HV : Hid (out = (0, 2)) := Lib.hid (by rw [HE5, if_pos (.inr hz2)])
                clear HE HE5
                go_wp2_with (first | (go_at_call 57; refine Calls.mono (bWithin_yes _ _ _ _ ?_) ?_; (omega); rintro e w1 ⟨rfl, rfl⟩) | (go_at_call 57; refine Calls.mono (bWithin_no _ _ _ _ ?_) ?_; (omega); rintro e w1 ⟨rfl, rfl⟩) | (have hq := HX2; clear hq; go_at_call 118; refine Calls.mono (CB.out _ (HX2.out.trans (by repeat (first | exact Ext.refl _ | assumption | refine Ext.alloc ?_ _ | refine Ext.drew ?_ | refine Ext.drewN ?_ _ | (refine Ext.setCell ?_ (by simp <;> omega) _) | refine Ext.trans ?_ (by assumption))))) ?_; rintro e w3 ⟨rfl, hx3⟩; have HX3 := Lib.hid (HX2.out.trans (Ext.trans (by repeat (first | exact Ext.refl _ | assumption | refine Ext.alloc ?_ _ | refine Ext.drew ?_ | refine Ext.drewN ?_ _ | (refine Ext.setCell ?_ (by simp <;> omega) _) | refine Ext.trans ?_ (by assumption))) hx3)); have h9 := HBW2.out.ext (Ext.trans (by repeat (first | exact Ext.refl _ | assumption | refine Ext.alloc ?_ _ | refine Ext.drew ?_ | refine Ext.drewN ?_ _ | (refine Ext.setCell ?_ (by simp <;> omega) _) | refine Ext.trans ?_ (by assumption))) hx3); have y3 := h9.cell 3 _ rfl; have y4 := h9.cell 4 _ rfl; have yl := h9.lt; clear hx3 h9) | (go_at_call 118; refine Calls.mono (CE.out _ (HXR.out.trans (by repeat (first | exact Ext.refl _ | assumption | refine Ext.alloc ?_ _ | refine Ext.drew ?_ | refine Ext.drewN ?_ _ | (refine Ext.setCell ?_ (by simp <;> omega) _) | refine Ext.trans ?_ (by assumption))))) ?_; rintro e w2 ⟨rfl, hx2⟩; have HX2 := Lib.hid (HXR.out.trans (Ext.trans (by repeat (first | exact Ext.refl _ | assumption | refine Ext.alloc ?_ _ | refine Ext.drew ?_ | refine Ext.drewN ?_ _ | (refine Ext.setCell ?_ (by simp <;> omega) _) | refine Ext.trans ?_ (by assumption))) hx2)); have HBW2 := Lib.hid (HB1.out.ext (Ext.trans (by repeat (first | exact Ext.refl _ | assumption | refine Ext.alloc ?_ _ | refine Ext.drew ?_ | refine Ext.drewN ?_ _ | (refine Ext.setCell ?_ (by simp <;> omega) _) | refine Ext.trans ?_ (by assumption))) hx2)); have y2 := HBW2.out.cell 2 _ rfl; have yl := HBW2.out.lt; clear hx2))
                go_ret2
                exact Ret.mk' (by rw [HV.out]; rfl) HX3.out
                -- END F
              case pos =>
                -- BEGIN G
                have HV : Hid (out = (0, 0)) := Lib.hid (by rw [HE5, if_neg (by omega)])
                clear HE HE5
                go_wp2_with (first | (go_at_call 57; refine Calls.mono (bWithin_yes _ _ _ _ ?_) ?_; (omega); rintro e w1 ⟨rfl, rfl⟩) | (go_at_call 57; refine Calls.mono (bWithin_no _ _ _ _ ?_) ?_; (omega); rintro e w1 ⟨rfl, rfl⟩) | (have hq := HX2; clear hq; go_at_call 118; refine Calls.mono (CB.out _ (HX2.out.trans (by repeat (first | exact Ext.refl _ | assumption | refine Ext.alloc ?_ _ | refine Ext.drew ?_ | refine Ext.drewN ?_ _ | (refine Ext.setCell ?_ (by simp <;> omega) _) | refine Ext.trans ?_ (by assumption))))) ?_; rintro e w3 ⟨rfl, hx3⟩; have HX3 := Lib.hid (HX2.out.trans (Ext.trans (by repeat (first | exact Ext.refl _ | assumption | refine Ext.alloc ?_ _ | refine Ext.drew ?_ | refine Ext.drewN ?_ _ | (refine Ext.setCell ?_ (by simp <;> omega) _) | refine Ext.trans ?_ (by assumption))) hx3)); have h9 := HBW2.out.ext (Ext.trans (by repeat (first | exact Ext.refl _ | assumption | refine Ext.alloc ?_ _ | refine Ext.drew ?_ | refine Ext.drewN ?_ _ | (refine Ext.setCell ?_ (by simp <;> omega) _) | refine Ext.trans ?_ (by assumption))) hx3); have y3 := h9.cell 3 _ rfl; have y4 := h9.cell 4 _ rfl; have yl := h9.lt; clear hx3 h9) | (go_at_call 118; refine Calls.mono (CE.out _ (HXR.out.trans (by repeat (first | exact Ext.refl _ | assumption | refine Ext.alloc ?_ _ | refine Ext.drew ?_ | refine Ext.drewN ?_ _ | (refine Ext.setCell ?_ (by simp <;> omega) _) | refine Ext.trans ?_ (by assumption))))) ?_; rintro e w2 ⟨rfl, hx2⟩; have HX2 := Lib.hid (HXR.out.trans (Ext.trans (by repeat (first | exact Ext.refl _ | assumption | refine Ext.alloc ?_ _ | refine Ext.drew ?_ | refine Ext.drewN ?_ _ | (refine Ext.setCell ?_ (by simp <;> omega) _) | refine Ext.trans ?_ (by assumption))) hx2)); have HBW2 := Lib.hid (HB1.out.ext (Ext.trans (by repeat (first | exact Ext.refl _ | assumption | refine Ext.alloc ?_ _ | refine Ext.drew ?_ | refine Ext.drewN ?_ _ | (refine Ext.setCell ?_ (by simp <;> omega) _) | refine Ext.trans ?_ (by assumption))) hx2)); have y2 := HBW2.out.cell 2 _ rfl; have yl := HBW2.out.lt; clear hx2))
                go_ret2
                exact Ret.mk' (by rw [HV.out]; rfl) HX3.out
                -- END G
set_option maxHeartbeats 4000000 in
theorem rErr2_any (r : RU) (a : RuA) (w : World) (h : RuR w a r) (hs : ShortU r) : Calls Tryz.prog 33 #[r.val a] w (Ret (.int .i64 (ruleE r).2) w) := by
  have CC := Lib.hid fun W (hx : Ext w W) => rCheckRules_any r a W (h.ext hx) hs
  unfold RU.val at CC ⊢
  clear h hs
  go_enter Tryz.func33, Tryz.ntmps33
  go_wp2_with (first | (go_at_call 79; refine Calls.mono (CC.out _ (by repeat (first | exact Ext.refl _ | assumption | refine Ext.alloc ?_ _ | refine Ext.drew ?_ | refine Ext.drewN ?_ _ | (refine Ext.setCell ?_ (by simp <;> omega) _) | refine Ext.trans ?_ (by assumption)))) ?_; rintro e w1 ⟨rfl, hx⟩; have HX1 := Lib.hid (Ext.trans (a := w) (by repeat (first | exact Ext.refl _ | assumption | refine Ext.alloc ?_ _ | refine Ext.drew ?_ | refine Ext.drewN ?_ _ | (refine Ext.setCell ?_ (by simp <;> omega) _) | refine Ext.trans ?_ (by assumption))) hx); clear hx))
  go_ret
  exact Ret.mk' rfl HX1.out
set_option maxHeartbeats 4000000 in
theorem rulesErr_any (r : RU) (a : RuA) (s : ByteArray) (w : World) (h : RuR w a r) (hs : ShortU r) (hz : s.size ≤ 1000000) : Calls Tryz.prog 18 #[r.val a, .string s] w (Ret (.int .i64 (ruledE r s)) w) := by
  have CC := Lib.hid fun W (hx : Ext w W) => rErr2_any r a W (h.ext hx) hs
  have CW := Lib.hid fun W => rIsWord_any s W hz
  have HE : Hid (ruledE r s = if (ruleE r).2 = 0 then (if wordB s = true then 0 else 3) else (ruleE r).2) := Lib.hid rfl
  generalize ruledE r s = out at *
  generalize (ruleE r).2 = e2 at *
  unfold RU.val at CC ⊢
  clear h hs
  by_cases h0 : e2 = 0
  case neg =>
    have b0 : (e2 != 0) = true := by simpa using h0
    rw [if_neg h0] at HE
    go_enter Tryz.func18, Tryz.ntmps18
    go_wp2_with (first | (go_at_call 33; refine Calls.mono (CC.out _ (by repeat (first | exact Ext.refl _ | assumption | refine Ext.alloc ?_ _ | refine Ext.drew ?_ | refine Ext.drewN ?_ _ | (refine Ext.setCell ?_ (by simp <;> omega) _) | refine Ext.trans ?_ (by assumption)))) ?_; rintro e w1 ⟨rfl, hx⟩; have HX1 := Lib.hid (Ext.trans (a := w) (by repeat (first | exact Ext.refl _ | assumption | refine Ext.alloc ?_ _ | refine Ext.drew ?_ | refine Ext.drewN ?_ _ | (refine Ext.setCell ?_ (by simp <;> omega) _) | refine Ext.trans ?_ (by assumption))) hx); clear hx))
    go_ret
    exact Ret.mk' (by rw [HE.out]; rfl) HX1.out
  case pos =>
    subst h0
    rw [if_pos rfl] at HE
    cases hw : wordB s
    all_goals
      rw [hw] at CW HE
      go_enter Tryz.func18, Tryz.ntmps18
      go_wp2_with (first | (go_at_call 33; refine Calls.mono (CC.out _ (by repeat (first | exact Ext.refl _ | assumption | refine Ext.alloc ?_ _ | refine Ext.drew ?_ | refine Ext.drewN ?_ _ | (refine Ext.setCell ?_ (by simp <;> omega) _) | refine Ext.trans ?_ (by assumption)))) ?_; rintro e w1 ⟨rfl, hx⟩; have HX1 := Lib.hid (Ext.trans (a := w) (by repeat (first | exact Ext.refl _ | assumption | refine Ext.alloc ?_ _ | refine Ext.drew ?_ | refine Ext.drewN ?_ _ | (refine Ext.setCell ?_ (by simp <;> omega) _) | refine Ext.trans ?_ (by assumption))) hx); clear hx) | (go_at_call 28; refine Calls.mono (CW.out _) ?_; rintro e w2 ⟨rfl, rfl⟩))
      go_ret
      exact Ret.mk' (by rw [HE.out]; rfl) HX1.out
end Go.Proofs.YtccdnieoaejgdaaGreatDoor
