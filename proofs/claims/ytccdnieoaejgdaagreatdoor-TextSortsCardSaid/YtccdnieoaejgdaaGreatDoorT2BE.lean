/-
  Walk: ReadBack.
-/
import Derived.Test.YtccdnieoaejgdaaGreatDoorT2BD
import Derived.Test.YtccdnieoaejgdaaGreatDoorT2AX
import Derived.Test.YtccdnieoaejgdaaGreatDoorT2BA
set_option linter.unusedVariables false
set_option linter.unusedSimpArgs false
set_option linter.unusedSectionVars false
namespace Go.Proofs.YtccdnieoaejgdaaGreatDoor
open Go.RowKit Go.Lib
attribute [local go_sem] stateAt vu known List.map_cons List.map_nil Option.getD_some

theorem rbLine_bd {ss : List TS} (h4 : ∀ k, k < ss.length → (ss.getD k TS.zero).text.size ≤ 4) (l : List Int) (hl : ∀ k, k < l.length → hasS ss (l.getD k 0) = true) (hn : l.length ≤ 300) (b : Bool) (r : RB) : (rbLine ss l b r).ws.length ≤ r.ws.length + 301 ∧ (rbLine ss l b r).wd.length ≤ r.wd.length + 1200 := by
  obtain ⟨h1, h2⟩ := rbTo_bd h4 l hl r l.length (Nat.le_refl _)
  unfold rbLine
  generalize rbTo ss l r l.length = r1 at *
  split
  · refine ⟨by simp only; omega, ?_⟩
    simp only
    unfold noHy
    split
    · rw [List.length_dropLast]; omega
    · omega
  · unfold RB.fin
    refine ⟨?_, by simp⟩
    simp only
    split
    · omega
    · rw [List.length_append, List.length_singleton]; omega
theorem rbErr_ok {ss : List TS} {ls : List (List Int)} {i : Nat} {b : Bool} (h : rbErr ss ls i b = 0) : (ls.getD i []).length ≤ 300 ∧ ∀ k, k < (ls.getD i []).length → hasS ss ((ls.getD i []).getD k 0) = true := by
  unfold rbErr at h
  split at h
  · cases h
  · rename_i h1
    split at h
    · cases h
    · rename_i h2
      refine ⟨by omega, fun k hk => ?_⟩
      cases hh : hasS ss ((ls.getD i []).getD k 0) with
      | true => rfl
      | false => exact absurd (any_at (p := fun s => !hasS ss s) hk (by rw [hh]; rfl)) h2
theorem rbAll_stop {ss : List TS} {ls : List (List Int)} {bs : List Bool} {k : Nat} (h : (rbAll ss ls bs k).1 ≠ 0) : ∀ n, k ≤ n → rbAll ss ls bs n = rbAll ss ls bs k
  | 0, hn => by rw [show k = 0 by omega]
  | n + 1, hn => by
    rcases Nat.lt_or_ge n k with h1 | h1
    · rw [show n + 1 = k by omega]
    · rw [rbAll, rbAll_stop h n h1, if_pos h]
theorem rbAll_next {ss : List TS} {ls : List (List Int)} {bs : List Bool} {k : Nat} (h : (rbAll ss ls bs k).1 = 0) : rbAll ss ls bs (k + 1) = if rbErr ss ls k (bs.getD k false) ≠ 0 then (rbErr ss ls k (bs.getD k false), ⟨[], []⟩) else (0, rbLine ss (ls.getD k []) (bs.getD k false) (rbAll ss ls bs k).2) := by
  rw [rbAll, if_neg (by rw [h]; decide)]
def backE (f : FT) (ls : List LN) (bs : List Bool) : Int := if (chk f).2 ≠ 0 then (chk f).2 else (backOf f.sorts (lineZs ls) bs).1
def backV (f : FT) (ls : List LN) (bs : List Bool) : List (List UInt8) := if (chk f).2 ≠ 0 then [] else (backOf f.sorts (lineZs ls) bs).2
/-- Words and an error. -/
def RetWs (ws : List (List UInt8)) (z : Int) (w : World) (e : Ending) (w' : World) : Prop := ∃ A c, e = .returned (.tuple #[.slice A ws.length c, .int .i64 z]) ∧ RC w' A ws.length 1 (strVs ws) ∧ Ext w w'
/-- Ahead of the call of line, and behind it. -/
structure Bk15 (w : World) (f : FT) (A : Option Addr) (c rb : Nat) (v : Value) (lb : Nat) (m : Int) (X : Option Addr) (xc : Nat) (zs : List Int) (r r2 : RB) (b : Bool) (W : World) : Prop where
  p : b = false → RdS w f A c rb v r.ws r.wd W ∧ Blk W lb 73 #[.int .i64 m, .slice X zs.length xc]
  q : b = true → ∃ v', RdS w f A c rb v' r2.ws r2.wd W
theorem Bk15.next {w W W' : World} {f : FT} {A : Option Addr} {c rb lb xc : Nat} {v : Value} {m : Int} {X : Option Addr} {zs : List Int} {r r2 : RB} {b : Bool} (h : Bk15 w f A c rb v lb m X xc zs r r2 b W) (hx : Ext W W') : Bk15 w f A c rb v lb m X xc zs r r2 b W' :=
  ⟨fun e => ⟨(h.p e).1.next hx, (h.p e).2.ext hx⟩, fun e => let ⟨v', h1⟩ := h.q e; ⟨v', h1.next hx⟩⟩
set_option maxRecDepth 100000 in
set_option maxHeartbeats 8000000 in
theorem ReadBack_any (f : FT) (A : Option Addr) (c : Nat) (B : Option Addr) (d : Nat) (ls : List LN) (C : Option Addr) (e : Nat) (bs : List Bool) (w : World) (hf : FR w A c f) (hl : RLN w B ls.length ls) (hb : RC w C bs.length 1 (bs.map .bool)) (hll : ls.length ≤ 9223372036854775807) (hbl : bs.length ≤ 9223372036854775807) :
    Calls Tryz.prog 40 #[f.val A c, .slice B ls.length d, .slice C bs.length e] w (RetWs (backV f ls bs) (backE f ls bs) w) := by
  have HF := Lib.hid hf
  have HL := Lib.hid hl
  have HB := Lib.hid hb
  have CF := Lib.hid fun W h => checkFount_any f A c W h
  have HE : Hid (backE f ls bs = if (chk f).2 ≠ 0 then (chk f).2 else (backOf f.sorts (lineZs ls) bs).1) := Lib.hid rfl
  have HV : Hid (backV f ls bs = if (chk f).2 ≠ 0 then [] else (backOf f.sorts (lineZs ls) bs).2) := Lib.hid rfl
  have HK : Hid ((chk f).2 = 0 → f.sorts.length ≤ 120 ∧ ∀ k, k < f.sorts.length → (f.sorts.getD k TS.zero).text.size ≤ 4) := Lib.hid fun h => ⟨chk_few h, fun k hk => by rcases chk_text h hk with h | h | h <;> omega⟩
  have HBO : Hid (backOf f.sorts (lineZs ls) bs = if bs.length ≠ ls.length then (10, []) else if 400 < ls.length then (8, []) else if (rbAll f.sorts (lineZs ls) bs ls.length).1 ≠ 0 then ((rbAll f.sorts (lineZs ls) bs ls.length).1, []) else (0, (rbAll f.sorts (lineZs ls) bs ls.length).2.ws)) := Lib.hid (by
    unfold backOf; rw [show (lineZs ls).length = ls.length by unfold lineZs; simp])
  generalize backOf f.sorts (lineZs ls) bs = BO at *
  generalize backE f ls bs = VE at *
  generalize backV f ls bs = VV at *
  clear hf hl hb
  unfold FT.val ChkV at *
  generalize (chk f).1 = cm at *
  generalize (chk f).2 = cz at *
  by_cases h0 : cz = 0
  case neg =>
    -- BEGIN A
    have e0 : (cz != 0) = true := by simpa using h0
    rw [if_pos h0] at HE HV
    clear h0
    go_enter Tryz.func40, Tryz.ntmps40
    go_wp2_with (first | (go_at_call 68; refine Calls.mono (CF.out _ (HF.out.ext (by repeat (first | exact Ext.refl _ | assumption | refine Ext.alloc ?_ _ | refine Ext.drew ?_ | refine Ext.drewN ?_ _ | (refine Ext.setCell ?_ (by simp <;> omega) _) | refine Ext.trans ?_ (by assumption))))) ?_; rintro e1 w1 ⟨rfl, hb⟩; have HX1 := Lib.hid (Ext.trans (a := w) (by repeat (first | exact Ext.refl _ | assumption | refine Ext.alloc ?_ _ | refine Ext.drew ?_ | refine Ext.drewN ?_ _ | (refine Ext.setCell ?_ (by simp <;> omega) _) | refine Ext.trans ?_ (by assumption))) hb); have HBF := Lib.hid ((Blk.new w _ _).ext hb); obtain ⟨y1, y2, y3, _, _, _, yl⟩ := HBF.out.c3f; clear hb))
    go_ret2
    rw [HE.out, HV.out]
    exact ⟨none, 0, rfl, RC.empty _ _ _, HX1.out⟩
    -- END A
  case pos =>
    subst h0
    rw [if_neg (by decide)] at HE HV
    obtain ⟨hfew, h4⟩ := HK.out rfl
    have H4 := Lib.hid h4
    clear h4 HK
    by_cases h1 : bs.length = ls.length
    case neg =>
      -- BEGIN B
      have e1 : ((bs.length : Int) != (ls.length : Int)) = true := by rw [bne_iff_ne]; omega
      rw [if_pos h1] at HBO
      clear h1
      go_enter Tryz.func40, Tryz.ntmps40
      go_wp2_with (first | (go_at_call 68; refine Calls.mono (CF.out _ (HF.out.ext (by repeat (first | exact Ext.refl _ | assumption | refine Ext.alloc ?_ _ | refine Ext.drew ?_ | refine Ext.drewN ?_ _ | (refine Ext.setCell ?_ (by simp <;> omega) _) | refine Ext.trans ?_ (by assumption))))) ?_; rintro e1 w1 ⟨rfl, hb⟩; have HX1 := Lib.hid (Ext.trans (a := w) (by repeat (first | exact Ext.refl _ | assumption | refine Ext.alloc ?_ _ | refine Ext.drew ?_ | refine Ext.drewN ?_ _ | (refine Ext.setCell ?_ (by simp <;> omega) _) | refine Ext.trans ?_ (by assumption))) hb); have HBF := Lib.hid ((Blk.new w _ _).ext hb); obtain ⟨y1, y2, y3, _, _, _, yl⟩ := HBF.out.c3f; clear hb))
      go_ret2
      rw [HE.out, HV.out, HBO.out]
      exact ⟨none, 0, rfl, RC.empty _ _ _, HX1.out⟩
      -- END B
    case pos =>
      have e1 : ((bs.length : Int) != (ls.length : Int)) = false := by rw [bne_eq_false_iff_eq]; omega
      rw [if_neg (fun h => h h1)] at HBO
      by_cases h2 : 400 < ls.length
      case pos =>
        -- BEGIN C
        have e2 : (400 : Int) < (ls.length : Int) := by omega
        rw [if_pos h2] at HBO
        clear h1 h2
        go_enter Tryz.func40, Tryz.ntmps40
        go_wp2_with (first | (go_at_call 68; refine Calls.mono (CF.out _ (HF.out.ext (by repeat (first | exact Ext.refl _ | assumption | refine Ext.alloc ?_ _ | refine Ext.drew ?_ | refine Ext.drewN ?_ _ | (refine Ext.setCell ?_ (by simp <;> omega) _) | refine Ext.trans ?_ (by assumption))))) ?_; rintro e1 w1 ⟨rfl, hb⟩; have HX1 := Lib.hid (Ext.trans (a := w) (by repeat (first | exact Ext.refl _ | assumption | refine Ext.alloc ?_ _ | refine Ext.drew ?_ | refine Ext.drewN ?_ _ | (refine Ext.setCell ?_ (by simp <;> omega) _) | refine Ext.trans ?_ (by assumption))) hb); have HBF := Lib.hid ((Blk.new w _ _).ext hb); obtain ⟨y1, y2, y3, _, _, _, yl⟩ := HBF.out.c3f; clear hb))
        go_ret2
        rw [HE.out, HV.out, HBO.out]
        exact ⟨none, 0, rfl, RC.empty _ _ _, HX1.out⟩
        -- END C
      case neg =>
        have e2 : ¬ (400 : Int) < (ls.length : Int) := by omega
        rw [if_neg h2] at HBO
        have HBL := Lib.hid h1
        clear h1
        go_enter Tryz.func40, Tryz.ntmps40
        go_upto_region 10 with (first | (go_at_call 68; refine Calls.mono (CF.out _ (HF.out.ext (by repeat (first | exact Ext.refl _ | assumption | refine Ext.alloc ?_ _ | refine Ext.drew ?_ | refine Ext.drewN ?_ _ | (refine Ext.setCell ?_ (by simp <;> omega) _) | refine Ext.trans ?_ (by assumption))))) ?_; rintro e1 w1 ⟨rfl, hb⟩; have HX1 := Lib.hid (Ext.trans (a := w) (by repeat (first | exact Ext.refl _ | assumption | refine Ext.alloc ?_ _ | refine Ext.drew ?_ | refine Ext.drewN ?_ _ | (refine Ext.setCell ?_ (by simp <;> omega) _) | refine Ext.trans ?_ (by assumption))) hb); have HBF := Lib.hid ((Blk.new w _ _).ext hb); obtain ⟨y1, y2, y3, _, _, _, yl⟩ := HBF.out.c3f; clear hb))
        rw [show decide ((400 : Int) < (ls.length : Int)) = false from decide_eq_false (by omega)]
        have HS0 : Hid (RdS w f A c w1.heap.size (.slice none 0 0) [] [] (w1.alloc (.cells (rdCells f A c (.slice none 0 0) []) 148))) := Lib.hid ⟨HX1.out.alloc _, Blk.new w1 _ _, HX1.out.size, OwnW.nil _ _⟩
        change Hid (RdS w f A c w1.heap.size (.slice none 0 0) [] [] (w1.alloc (.cells #[.string f.name, .int .i64 f.body, .slice A f.sorts.length c, .slice none 0 0, .string ⟨#[]⟩] 148))) at HS0
        obtain ⟨rb, hrb⟩ : ∃ rb, rb = w1.heap.size := ⟨_, rfl⟩
        rw [← hrb] at HS0 ⊢
        have HNX := Lib.hid (fun k h => rbAll_next (ss := f.sorts) (ls := lineZs ls) (bs := bs) (k := k) h)
        have HST := Lib.hid (fun k h => rbAll_stop (ss := f.sorts) (ls := lineZs ls) (bs := bs) (k := k) h)
        have HZE : Hid (rbAll f.sorts (lineZs ls) bs 0 = (0, ⟨[], []⟩)) := Lib.hid rfl
        have HLZ := Lib.hid (lineZs_at ls)
        have hls : ls.length ≤ 400 := by omega
        clear y1 y2 y3 yl hrb h2 HBF HX1
        go_loopw [38, 11, 12, 13] (fun v38 _ _ _ wr => ∃ (k : Nat) (v' : Value), k ≤ ls.length ∧ v38 = .int .i64 (k : Int) ∧ Hid ((rbAll f.sorts (lineZs ls) bs k).1 = 0 ∧ (rbAll f.sorts (lineZs ls) bs k).2.ws.length ≤ 301 * k ∧ (rbAll f.sorts (lineZs ls) bs k).2.wd.length ≤ 1200 * k) ∧ Hid (RdS w f A c rb v' (rbAll f.sorts (lineZs ls) bs k).2.ws (rbAll f.sorts (lineZs ls) bs k).2.wd wr)) (fun v38 _ _ _ _ => ls.length - (intOf v38).toNat)
        case atStart => exact ⟨0, _, Nat.zero_le _, rfl, Lib.hid (by rw [HZE.out]; exact ⟨rfl, Nat.le_refl _, Nat.le_refl _⟩), by rw [HZE.out]; exact HS0⟩
        case round =>
          obtain ⟨k, v, hk, rfl, HBD, HS⟩ := hrel
          clear HS0 HZE
          by_cases hlt : k < ls.length
          case neg =>
            -- BEGIN E
            obtain rfl : k = ls.length := by omega
            have ik : ¬ (ls.length : Int) < (ls.length : Int) := by omega
            rw [if_neg (by rw [HBD.out.1]; decide)] at HBO
            obtain ⟨hb0, hb1, hb2⟩ := HBD.out
            generalize rbAll f.sorts (lineZs ls) bs ls.length = R at *
            obtain ⟨z, r⟩ := R
            simp only at HS hb0 hb1 hb2 HBO
            obtain ⟨A9, c9, rfl, hrc⟩ := own_form HS.out.own (by omega)
            have HRC := Lib.hid hrc
            have y1 := HS.out.rd.cell 3 (.slice A9 r.ws.length c9) rfl; have yl := HS.out.rd.lt
            clear hlt hrc hb0 HNX HST
            go_wp2
            go_ret2
            rw [HE.out, HV.out, HBO.out]
            exact ⟨A9, c9, rfl, HRC.out, HS.out.ext⟩
            -- END E
          case pos =>
            have ik : (k : Int) < (ls.length : Int) := by omega
            have ik2 : (k : Int) < (bs.length : Int) := by have := HBL.out; omega
            obtain ⟨lb0, lo, hlA, hlb, hlc⟩ := (HL.out.ext HS.out.ext).2.2.1 (by omega)
            obtain ⟨d0, d1⟩ := hlc k hlt
            obtain ⟨cb, co, hcA, hcb, hcc⟩ := HB.out.2.2 (by have := HBL.out; omega)
            have hbk : (bs.map Value.bool)[k]? = some (.bool (bs.getD k false)) := by
              rw [List.getElem?_map, List.getElem?_eq_getElem (by have := HBL.out; omega), List.getD_eq_getElem?_getD, List.getElem?_eq_getElem (by have := HBL.out; omega)]; rfl
            have d2 := (HS.out.ext.cell (p := ⟨cb, co + k, none⟩) hcb).trans (hcc k _ hbk)
            have hcb2 := Nat.lt_of_lt_of_le hcb HS.out.ext.size
            have HCB0 := Lib.hid (hcc k _ hbk)
            have HRI := Lib.hid (HL.out.2.2.2 k hlt)
            have CHK := Lib.hid (fun W h1 h2 h3 => rdCheck_any f A c v (rbAll f.sorts (lineZs ls) bs k).2.wd rb B d ls k (bs.getD k false) W h1 h2 hfew h3 hlt (by omega))
            have hnx := HNX.out k HBD.out.1
            have HLZK := Lib.hid (HLZ.out k)
            have HEK := Lib.hid (fun h => rbErr_ok (ss := f.sorts) (ls := lineZs ls) (i := k) (b := bs.getD k false) h)
            have HSK := Lib.hid (HST.out (k + 1))
            rw [HLZK.out] at hnx HEK
            subst hlA
            subst hcA
            obtain ⟨⟨m, X, xc, zs⟩, hx⟩ : ∃ x, ls.getD k LN.zero = x := by exact ⟨_, rfl⟩
            rw [hx] at d0 d1 HRI hnx HEK
            simp only [SI.val] at d0 d1 HRI hnx HEK
            have HCB := HCB0
            generalize bs.getD k false = bk at *
            generalize hre : rbErr f.sorts (lineZs ls) k bk = re at *
            have HNR := Lib.hid hnx
            have hlb2 := hlb
            clear hx hre hlc hcc hbk hnx HLZK HNX HST HCB0
            generalize hR1 : rbAll f.sorts (lineZs ls) bs (k + 1) = R1 at *
            have HR1 := Lib.hid hR1
            clear hR1
            obtain ⟨hb0, hb1, hb2⟩ := HBD.out
            generalize rbAll f.sorts (lineZs ls) bs k = R at *
            obtain ⟨z0, r⟩ := R
            simp only at HS hb0 hb1 hb2 HNR CHK
            clear HBD
            by_cases h3 : re = 0
            case neg =>
              -- BEGIN F
              have e3 : (re != 0) = true := by simpa using h3
              rw [if_pos h3] at HNR
              have HER := Lib.hid h3
              have HALL := Lib.hid (HSK.out (by rw [HNR.out]; exact h3) ls.length (by omega))
              rw [if_pos (by rw [HALL.out, HNR.out]; exact h3)] at HBO
              clear h3 HSK hb0
              go_wp2_with (first | (go_at_call 91; refine Calls.mono (CHK.out _ (HF.out.ext (HS.out.ext.trans (by repeat (first | exact Ext.refl _ | assumption | refine Ext.alloc ?_ _ | refine Ext.drew ?_ | refine Ext.drewN ?_ _ | (refine Ext.setCell ?_ (by simp <;> omega) _) | refine Ext.trans ?_ (by assumption))))) (HS.out.rd.ext (by repeat (first | exact Ext.refl _ | assumption | refine Ext.alloc ?_ _ | refine Ext.drew ?_ | refine Ext.drewN ?_ _ | (refine Ext.setCell ?_ (by simp <;> omega) _) | refine Ext.trans ?_ (by assumption)))) (HL.out.ext (HS.out.ext.trans (by repeat (first | exact Ext.refl _ | assumption | refine Ext.alloc ?_ _ | refine Ext.drew ?_ | refine Ext.drewN ?_ _ | (refine Ext.setCell ?_ (by simp <;> omega) _) | refine Ext.trans ?_ (by assumption)))))) ?_; rintro e1 w2 ⟨rfl, hb⟩; have HX2 := Lib.hid (Ext.trans (a := wr) (by repeat (first | exact Ext.refl _ | assumption | refine Ext.alloc ?_ _ | refine Ext.drew ?_ | refine Ext.drewN ?_ _ | (refine Ext.setCell ?_ (by simp <;> omega) _) | refine Ext.trans ?_ (by assumption))) hb); clear hb))
              go_ret2
              rw [HE.out, HV.out, HBO.out, HALL.out, HNR.out]
              exact ⟨none, 0, rfl, RC.empty _ _ _, HS.out.ext.trans HX2.out⟩
              -- END F
            case pos =>
              -- BEGIN G
              subst h3
              rw [if_neg (by decide)] at HNR
              obtain ⟨hz1, hz2⟩ := HEK.out rfl
              have HBN := Lib.hid (rbLine_bd H4.out zs hz2 hz1 bk r)
              have CLI := Lib.hid fun W h => rdLine_any w f A c rb v r X xc zs bk W h HF.out H4.out HRI.out hz2 hz1 (by omega) (by omega)
              have HRE : Hid (R1 = (0, rbLine f.sorts zs bk r)) := Lib.hid HNR.out
              generalize rbLine f.sorts zs bk r = r2 at *
              clear HNR HSK hz1 hz2 hb0
              go_upto_region 15 with (first | (go_at_call 91; refine Calls.mono (CHK.out _ (HF.out.ext (HS.out.ext.trans (by repeat (first | exact Ext.refl _ | assumption | refine Ext.alloc ?_ _ | refine Ext.drew ?_ | refine Ext.drewN ?_ _ | (refine Ext.setCell ?_ (by simp <;> omega) _) | refine Ext.trans ?_ (by assumption))))) (HS.out.rd.ext (by repeat (first | exact Ext.refl _ | assumption | refine Ext.alloc ?_ _ | refine Ext.drew ?_ | refine Ext.drewN ?_ _ | (refine Ext.setCell ?_ (by simp <;> omega) _) | refine Ext.trans ?_ (by assumption)))) (HL.out.ext (HS.out.ext.trans (by repeat (first | exact Ext.refl _ | assumption | refine Ext.alloc ?_ _ | refine Ext.drew ?_ | refine Ext.drewN ?_ _ | (refine Ext.setCell ?_ (by simp <;> omega) _) | refine Ext.trans ?_ (by assumption)))))) ?_; rintro e1 w2 ⟨rfl, hb⟩; have HX2 := Lib.hid (Ext.trans (a := wr) (by repeat (first | exact Ext.refl _ | assumption | refine Ext.alloc ?_ _ | refine Ext.drew ?_ | refine Ext.drewN ?_ _ | (refine Ext.setCell ?_ (by simp <;> omega) _) | refine Ext.trans ?_ (by assumption))) hb); have HLB := Lib.hid ((Blk.new wr _ _).ext hb); clear hb))
              obtain ⟨lb, hlb9⟩ : ∃ lb, lb = wr.heap.size := ⟨_, rfl⟩
              rw [← hlb9] at HLB ⊢
              have HB0 : Hid (Bk15 w f (A) c rb v lb m X xc zs r r2 false w2.drew) := Lib.hid (Bk15.next ⟨fun _ => ⟨HS.out.next HX2.out, HLB.out⟩, fun h => (by cases h)⟩ (Ext.refl w2).drew)
              clear hlb9 d0 d1 d2 hcb2 hlb2
              refine wp_region_sp [7] [some (.pointer (some ⟨rb, 0, none⟩)), some (.pointer (some ⟨lb, 1, none⟩)), some (.slice X zs.length xc), some (.slice (some ⟨cb, co, none⟩) bs.length e), some (.int .i64 (k : Int)), some (.pointer (some ⟨cb, co + k, none⟩)), some (.bool bk), none] (fun k v fl W => (k = 7 → (fun (v : Value) (fl : List Bool) (W : World) => True) v fl W)) (fun fl W => Bk15 w f A c rb v lb m X xc zs r r2 (fl.getD 0 false) W) (by kernel_rfl) (by kernel_rfl) rfl (by decide) (fun fl W W' h hx => h.next hx) (fun k v fl W W' h hx => fun e => trivial) (HB0.out) ⟨?_, ?_, ?_, ?_, ?_, ?_, ?_, ?_, trivial⟩ ?_
              · intro U fl W hS hl hn hd hR
                obtain ⟨f0, rfl⟩ := flen1 hl
                obtain rfl : f0 = false := hn 0 (by decide) (by kernel_rfl)
                clear hR hl hn hd
                have hT : Bk15 w f A c rb v lb m X xc zs r r2 _ W := hS; clear hS
                refine StepZ.go rfl ?_
                go_simp
                exact ⟨Turn.ext rfl (by repeat (first | exact Ext.refl _ | assumption | refine Ext.alloc ?_ _ | refine Ext.drew ?_ | refine Ext.drewN ?_ _ | (refine Ext.setCell ?_ (by simp <;> omega) _) | refine Ext.trans ?_ (by assumption))), givesS_k (by kernel_rfl)⟩
              · intro U fl W hS hl hn hd hR
                obtain ⟨f0, rfl⟩ := flen1 hl
                obtain rfl : f0 = false := hn 0 (by decide) (by kernel_rfl)
                clear hR hl hn hd
                have hT : Bk15 w f A c rb v lb m X xc zs r r2 _ W := hS; clear hS
                refine StepZ.go rfl ?_
                go_simp
                exact ⟨Turn.ext rfl (by repeat (first | exact Ext.refl _ | assumption | refine Ext.alloc ?_ _ | refine Ext.drew ?_ | refine Ext.drewN ?_ _ | (refine Ext.setCell ?_ (by simp <;> omega) _) | refine Ext.trans ?_ (by assumption))), givesS_k (by kernel_rfl)⟩
              · intro U fl W hS hl hn hd hR
                obtain ⟨f0, rfl⟩ := flen1 hl
                obtain rfl : f0 = false := hn 0 (by decide) (by kernel_rfl)
                clear hR hl hn hd
                have hT : Bk15 w f A c rb v lb m X xc zs r r2 _ W := hS; clear hS
                have y1 := (hT.p rfl).2.cell 1 (.slice X zs.length xc) rfl; have l1 := (hT.p rfl).2.lt
                refine StepZ.go rfl ?_
                go_simp
                exact ⟨Turn.ext rfl (by repeat (first | exact Ext.refl _ | assumption | refine Ext.alloc ?_ _ | refine Ext.drew ?_ | refine Ext.drewN ?_ _ | (refine Ext.setCell ?_ (by simp <;> omega) _) | refine Ext.trans ?_ (by assumption))), givesS_k (by kernel_rfl)⟩
              · intro U fl W hS hl hn hd hR
                obtain ⟨f0, rfl⟩ := flen1 hl
                obtain rfl : f0 = false := hn 0 (by decide) (by kernel_rfl)
                clear hR hl hn hd
                have hT : Bk15 w f A c rb v lb m X xc zs r r2 _ W := hS; clear hS
                refine StepZ.go rfl ?_
                go_simp
                exact ⟨Turn.ext rfl (by repeat (first | exact Ext.refl _ | assumption | refine Ext.alloc ?_ _ | refine Ext.drew ?_ | refine Ext.drewN ?_ _ | (refine Ext.setCell ?_ (by simp <;> omega) _) | refine Ext.trans ?_ (by assumption))), givesS_k (by kernel_rfl)⟩
              · intro U fl W hS hl hn hd hR
                obtain ⟨f0, rfl⟩ := flen1 hl
                obtain rfl : f0 = false := hn 0 (by decide) (by kernel_rfl)
                clear hR hl hn hd
                have hT : Bk15 w f A c rb v lb m X xc zs r r2 _ W := hS; clear hS
                refine StepZ.go rfl ?_
                go_simp
                exact ⟨Turn.ext rfl (by repeat (first | exact Ext.refl _ | assumption | refine Ext.alloc ?_ _ | refine Ext.drew ?_ | refine Ext.drewN ?_ _ | (refine Ext.setCell ?_ (by simp <;> omega) _) | refine Ext.trans ?_ (by assumption))), givesS_k (by kernel_rfl)⟩
              · intro U fl W hS hl hn hd hR
                obtain ⟨f0, rfl⟩ := flen1 hl
                obtain rfl : f0 = false := hn 0 (by decide) (by kernel_rfl)
                clear hR hl hn hd
                have hT : Bk15 w f A c rb v lb m X xc zs r r2 _ W := hS; clear hS
                refine StepZ.go rfl ?_
                go_simp
                exact ⟨Turn.ext rfl (by repeat (first | exact Ext.refl _ | assumption | refine Ext.alloc ?_ _ | refine Ext.drew ?_ | refine Ext.drewN ?_ _ | (refine Ext.setCell ?_ (by simp <;> omega) _) | refine Ext.trans ?_ (by assumption))), givesS_k (by kernel_rfl)⟩
              · intro U fl W hS hl hn hd hR
                obtain ⟨f0, rfl⟩ := flen1 hl
                obtain rfl : f0 = false := hn 0 (by decide) (by kernel_rfl)
                clear hR hl hn hd
                have hT : Bk15 w f A c rb v lb m X xc zs r r2 _ W := hS; clear hS
                have y1 := ((hT.p rfl).1.ext.cell (p := ⟨cb, co + k, none⟩) hcb).trans HCB.out; have l1 := Nat.lt_of_lt_of_le hcb (hT.p rfl).1.ext.size
                refine StepZ.go rfl ?_
                go_simp
                exact ⟨Turn.ext rfl (by repeat (first | exact Ext.refl _ | assumption | refine Ext.alloc ?_ _ | refine Ext.drew ?_ | refine Ext.drewN ?_ _ | (refine Ext.setCell ?_ (by simp <;> omega) _) | refine Ext.trans ?_ (by assumption))), givesS_k (by kernel_rfl)⟩
              · intro U fl W hS hl hn hd hR
                obtain ⟨f0, rfl⟩ := flen1 hl
                obtain rfl : f0 = false := hn 0 (by decide) (by kernel_rfl)
                clear hR hl hn hd
                have hT : Bk15 w f A c rb v lb m X xc zs r r2 _ W := hS; clear hS
                have hp := (hT.p rfl).1
                refine StepZ.go rfl ?_
                go_simp
                refine Calls.mono (CLI.out _ hp) ?_; rintro e9 w9 ⟨⟨x9, rfl⟩, v9, h9⟩; exact ⟨_, rfl, Turn.sp rfl (⟨fun e => (by cases e), fun _ => ⟨v9, h9⟩⟩ : Bk15 w f A c rb v lb m X xc zs r r2 true w9) (fun k9 v9 hk9 h9 => trivial), givesS_e (by kernel_rfl) trivial⟩
              · intro U W hS hR
                clear hR
                have hT : Bk15 w f A c rb v lb m X xc zs r r2 true W := hS; clear hS
                simp only [putAll, vu, Act.put, List.setIfInBounds_toArray, List.set_cons_zero, List.set_cons_succ]
                obtain ⟨v9, h9⟩ := hT.q rfl
                have HS9 := Lib.hid h9
                clear hT h9
                go_wp2
                go_roundw
                case rel => exact ⟨k + 1, v9, by omega, by go_num, Lib.hid (by rw [HR1.out, HRE.out]; exact ⟨rfl, by have := HBN.out; simp only; omega, by have := HBN.out; simp only; omega⟩), Lib.hid (by rw [HR1.out, HRE.out]; exact HS9.out)⟩
                case measure => simp [intOf]; omega
              -- END G
end Go.Proofs.YtccdnieoaejgdaaGreatDoor
