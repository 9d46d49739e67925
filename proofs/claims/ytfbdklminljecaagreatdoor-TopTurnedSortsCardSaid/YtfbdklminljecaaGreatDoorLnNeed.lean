/-
  Walks: what lines need (page.NeedOf).
-/
import Derived.Test.YtfbdklminljecaaGreatDoorLnMem
namespace Go.Proofs.YtfbdklminljecaaGreatDoor
open Go.RowKit

set_option maxHeartbeats 2000000 in
theorem pFountErr_any (f : FT) (A : Option Addr) (c : Nat) (w : World) (hf : FR w A c f) :
    Calls Tryz.prog 19 #[f.val A c] w (Ret (.int .i64 (chk f).2) w) := by
  have cF := fun W h => checkFount_any f A c W h
  unfold ChkV at cF
  have HF := Lib.hid hf; clear hf
  generalize (chk f).2 = z at *
  generalize (chk f).1 = n at *
  obtain ⟨name, body, ss⟩ := f
  simp only [FT.val] at *
  have CF := Lib.hid cF; clear cF
  go_enter Tryz.func19, Tryz.ntmps19
  go_wp2_with (first | (go_at_call 43; refine Calls.mono (CF.out _ (HF.out.ext (by repeat (first | exact Ext.refl _ | assumption | refine Ext.alloc ?_ _ | refine Ext.drew ?_ | refine Ext.drewN ?_ _ | (refine Ext.setCell ?_ (by simp <;> omega) _) | refine Ext.trans ?_ (by assumption))))) ?_; rintro e w1 ⟨rfl, hb⟩))
  go_ret
  exact Ret.mk' rfl (Ext.trans (by repeat (first | exact Ext.refl _ | assumption | refine Ext.alloc ?_ _ | refine Ext.drew ?_ | refine Ext.drewN ?_ _ | (refine Ext.setCell ?_ (by simp <;> omega) _) | refine Ext.trans ?_ (by assumption))) hb)
/-- How many sorts stand ahead of line k. -/
def offZ (ls : List LN) (k : Nat) : Nat := (allZ ls k).length
theorem offZ_succ (ls : List LN) (k : Nat) : offZ ls (k + 1) = offZ ls k + (lineZ ls k).length := by unfold offZ; rw [allZ, List.length_append]
theorem allZ_at (ls : List LN) : ∀ m k, k < m → ∀ j, j < (lineZ ls k).length → (allZ ls m).getD (offZ ls k + j) 0 = (lineZ ls k).getD j 0
  | m + 1, k, hk, j, hj => by
    rw [allZ]
    rcases Nat.lt_or_ge k m with h | h
    · have hl : offZ ls k + j < (allZ ls m).length := by
        have h1 : offZ ls (k + 1) ≤ offZ ls m := by
          have mono : ∀ a b, a ≤ b → offZ ls a ≤ offZ ls b := fun a b hab => by
            induction hab with
            | refl => exact Nat.le_refl _
            | step _ ih => exact Nat.le_trans ih (by rw [offZ_succ]; omega)
          exact mono _ _ h
        rw [offZ_succ] at h1
        unfold offZ at h1 ⊢
        omega
      rw [List.getD_eq_getElem?_getD, List.getElem?_append_left hl, ← List.getD_eq_getElem?_getD]
      exact allZ_at ls m k h j hj
    · obtain rfl : k = m := by omega
      rw [List.getD_eq_getElem?_getD, List.getElem?_append_right (by unfold offZ; omega), ← List.getD_eq_getElem?_getD]
      congr 1
      unfold offZ; omega
/-- What lines need, or the error. -/
def pNeedE (f : FT) (ls : List LN) : Int := if (chk f).2 ≠ 0 then (chk f).2 else linesE f ls
def pNeedL (f : FT) (ls : List LN) : List Int := if pNeedE f ls ≠ 0 then [] else needTo f.sorts.length (allZ ls ls.length) (allZ ls ls.length).length
theorem SameL.needE {cl ls : List LN} (h : SameL cl ls) (f : FT) : pNeedE f cl = pNeedE f ls := by unfold pNeedE; rw [h.lines f]
theorem SameL.needL {cl ls : List LN} (h : SameL cl ls) (f : FT) : pNeedL f cl = pNeedL f ls := by unfold pNeedL; rw [h.needE f, h.len, h.all]
set_option maxRecDepth 100000 in
set_option maxHeartbeats 4000000 in
theorem pNeedOf_any (f : FT) (A : Option Addr) (c : Nat) (B : Option Addr) (d : Nat) (ls : List LN) (w : World) (hf : FR w A c f) (h : RLN w B ls.length ls) :
    Calls Tryz.prog 8 #[f.val A c, .slice B ls.length d] w (RetSE (pNeedL f ls) (pNeedE f ls) w) := by
  have cF := fun W h => pFountErr_any f A c W h
  have cL := fun W h h' => linesErr_any f A c B ls.length d ls W h h'
  have HF := Lib.hid hf; have HR := Lib.hid h; clear hf h
  by_cases h1 : (chk f).2 = 0
  case neg =>
    have hE : pNeedE f ls = (chk f).2 := by unfold pNeedE; rw [if_pos h1]
    have hL : pNeedL f ls = [] := by unfold pNeedL; rw [if_pos (by rw [hE]; exact h1)]
    rw [hE, hL]
    have e0 : ((chk f).2 != 0) = true := by simpa using h1
    generalize (chk f).2 = z at *
    obtain ⟨name, body, ss⟩ := f
    simp only [FT.val] at *
    have CF := Lib.hid cF; clear cF cL h1 hE hL
    go_enter Tryz.func8, Tryz.ntmps8
    go_wp2_with (first | (go_at_call 19; refine Calls.mono (CF.out _ ?_) ?_; (exact HF.out.ext (by repeat (first | exact Ext.refl _ | assumption | refine Ext.alloc ?_ _ | refine Ext.drew ?_ | refine Ext.drewN ?_ _ | (refine Ext.setCell ?_ (by simp <;> omega) _) | refine Ext.trans ?_ (by assumption)))); rintro e w1 ⟨rfl, hb⟩))
    go_ret2
    exact ⟨none, 0, rfl, SL.nil _ _, Ext.trans (by repeat (first | exact Ext.refl _ | assumption | refine Ext.alloc ?_ _ | refine Ext.drew ?_ | refine Ext.drewN ?_ _ | (refine Ext.setCell ?_ (by simp <;> omega) _) | refine Ext.trans ?_ (by assumption))) hb⟩
  case pos =>
  rw [h1] at cF
  by_cases h2 : linesE f ls = 0
  case neg =>
    have hE : pNeedE f ls = linesE f ls := by unfold pNeedE; rw [if_neg (by simpa using h1)]
    have hL : pNeedL f ls = [] := by unfold pNeedL; rw [if_pos (by rw [hE]; exact h2)]
    rw [hE, hL]
    have e0 : (linesE f ls != 0) = true := by simpa using h2
    generalize linesE f ls = z at *
    obtain ⟨name, body, ss⟩ := f
    simp only [FT.val] at *
    have CF := Lib.hid cF; have CL := Lib.hid cL; clear cF cL h1 h2 hE hL
    go_enter Tryz.func8, Tryz.ntmps8
    go_wp2_with (first | (go_at_call 19; refine Calls.mono (CF.out _ ?_) ?_; (exact HF.out.ext (by repeat (first | exact Ext.refl _ | assumption | refine Ext.alloc ?_ _ | refine Ext.drew ?_ | refine Ext.drewN ?_ _ | (refine Ext.setCell ?_ (by simp <;> omega) _) | refine Ext.trans ?_ (by assumption)))); rintro e w1 ⟨rfl, hb⟩; have HB1 := Lib.hid ((Blk.new w 24 #[.string name, .int .i64 body, .slice A ss.length c]).ext hb); have HE1 : Hid (Ext w w1) := Lib.hid (Ext.trans (by repeat (first | exact Ext.refl _ | assumption | refine Ext.alloc ?_ _ | refine Ext.drew ?_ | refine Ext.drewN ?_ _ | (refine Ext.setCell ?_ (by simp <;> omega) _) | refine Ext.trans ?_ (by assumption))) hb); obtain ⟨k0, k1, k2, kl⟩ := HB1.out.c3; clear hb) | (go_at_call 20; refine Calls.mono (CL.out _ ?_ ?_) ?_; (exact HF.out.ext (HE1.out.trans (by repeat (first | exact Ext.refl _ | assumption | refine Ext.alloc ?_ _ | refine Ext.drew ?_ | refine Ext.drewN ?_ _ | (refine Ext.setCell ?_ (by simp <;> omega) _) | refine Ext.trans ?_ (by assumption))))); (exact HR.out.ext (HE1.out.trans (by repeat (first | exact Ext.refl _ | assumption | refine Ext.alloc ?_ _ | refine Ext.drew ?_ | refine Ext.drewN ?_ _ | (refine Ext.setCell ?_ (by simp <;> omega) _) | refine Ext.trans ?_ (by assumption))))); rintro e w2 ⟨rfl, hb⟩))
    go_ret2
    exact ⟨none, 0, rfl, SL.nil _ _, HE1.out.trans hb⟩
  case pos =>
  rw [h2] at cL
  have hE : pNeedE f ls = 0 := by unfold pNeedE; rw [if_neg (by simpa using h1)]; exact h2
  have hL : pNeedL f ls = needTo f.sorts.length (allZ ls ls.length) (allZ ls ls.length).length := by unfold pNeedL; rw [if_neg (by simpa using hE)]
  rw [hE, hL]
  obtain ⟨_, _, hs2, _⟩ := chk_zero h1
  obtain ⟨hl1, hl2⟩ := linesE_zero h2
  have HG : Hid (∀ i, i < ls.length → (lineZ ls i).length ≤ 10000 ∧ ∀ k, k < (lineZ ls i).length → 0 ≤ (lineZ ls i).getD k 0 ∧ (lineZ ls i).getD k 0 < f.sorts.length) := Lib.hid fun i hi => listErr_zero (listChk_zero (hl2 i hi)).2
  have HOF : Hid (∀ k, k ≤ ls.length → offZ ls k ≤ k * 10000) := Lib.hid fun k hk => allZ_len (fun i hi => (HG.out i hi).1) k hk
  have HAT : Hid (∀ k j, k < ls.length → j < (lineZ ls k).length → (allZ ls ls.length).getD (offZ ls k + j) 0 = (lineZ ls k).getD j 0) := Lib.hid fun k j hk hj => allZ_at ls ls.length k hk j hj
  have HEN : Hid ((allZ ls ls.length).length = offZ ls ls.length) := Lib.hid rfl
  generalize allZ ls ls.length = AZ at *
  rw [HEN.out]
  obtain ⟨name, body, ss⟩ := f
  simp only [FT.val] at *
  have CF := Lib.hid cF; have CL := Lib.hid cL; clear cF cL h1 h2 hE hL hl2
  go_enter Tryz.func8, Tryz.ntmps8
  go_wp2_with (first | (go_at_call 19; refine Calls.mono (CF.out _ ?_) ?_; (exact HF.out.ext (by repeat (first | exact Ext.refl _ | assumption | refine Ext.alloc ?_ _ | refine Ext.drew ?_ | refine Ext.drewN ?_ _ | (refine Ext.setCell ?_ (by simp <;> omega) _) | refine Ext.trans ?_ (by assumption)))); rintro e w1 ⟨rfl, hb⟩; have HB1 := Lib.hid ((Blk.new w 24 #[.string name, .int .i64 body, .slice A ss.length c]).ext hb); have HE1 : Hid (Ext w w1) := Lib.hid (Ext.trans (by repeat (first | exact Ext.refl _ | assumption | refine Ext.alloc ?_ _ | refine Ext.drew ?_ | refine Ext.drewN ?_ _ | (refine Ext.setCell ?_ (by simp <;> omega) _) | refine Ext.trans ?_ (by assumption))) hb); obtain ⟨k0, k1, k2, kl⟩ := HB1.out.c3; clear hb) | (go_at_call 20; refine Calls.mono (CL.out _ ?_ ?_) ?_; (exact HF.out.ext (HE1.out.trans (by repeat (first | exact Ext.refl _ | assumption | refine Ext.alloc ?_ _ | refine Ext.drew ?_ | refine Ext.drewN ?_ _ | (refine Ext.setCell ?_ (by simp <;> omega) _) | refine Ext.trans ?_ (by assumption))))); (exact HR.out.ext (HE1.out.trans (by repeat (first | exact Ext.refl _ | assumption | refine Ext.alloc ?_ _ | refine Ext.drew ?_ | refine Ext.drewN ?_ _ | (refine Ext.setCell ?_ (by simp <;> omega) _) | refine Ext.trans ?_ (by assumption))))); rintro e w2 ⟨rfl, hb⟩; have HE2 : Hid (Ext w w2) := Lib.hid (HE1.out.trans (Ext.trans (by repeat (first | exact Ext.refl _ | assumption | refine Ext.alloc ?_ _ | refine Ext.drew ?_ | refine Ext.drewN ?_ _ | (refine Ext.setCell ?_ (by simp <;> omega) _) | refine Ext.trans ?_ (by assumption))) hb)); have HB2 := Lib.hid (HB1.out.ext (Ext.trans (by repeat (first | exact Ext.refl _ | assumption | refine Ext.alloc ?_ _ | refine Ext.drew ?_ | refine Ext.drewN ?_ _ | (refine Ext.setCell ?_ (by simp <;> omega) _) | refine Ext.trans ?_ (by assumption))) hb)); clear hb k0 k1 k2 kl; obtain ⟨k0, k1, k2, kl⟩ := HB2.out.c3) | (at_make; refine list_makeI rfl (.tmp 26) (.tmp 26) rfl ss.length rfl rfl (by omega) ?_; intro W2 hS hx hlt; have HS2 := Lib.hid hS.own; have HE3 := Lib.hid (HE2.out.trans (Ext.trans (by repeat (first | exact Ext.refl _ | assumption | refine Ext.alloc ?_ _ | refine Ext.drew ?_ | refine Ext.drewN ?_ _ | (refine Ext.setCell ?_ (by simp <;> omega) _) | refine Ext.trans ?_ (by assumption))) hx)); clear hS hx k0 k1 k2 kl))
  have hgb : w.heap.size ≤ w2.heap.size := HE2.out.size
  have HT0 : Hid (needTo ss.length AZ (offZ ls 0) = List.replicate ss.length 0) := Lib.hid rfl
  go_loopw [30] (fun i wr => ∃ k : Nat, k ≤ ls.length ∧ i = .int .i64 (k : Int) ∧ Hid (Own wr w2.heap.size (.slice (some ⟨w2.heap.size, 0, none⟩) ss.length ss.length) (needTo ss.length AZ (offZ ls k))) ∧ Hid (Ext w wr)) (fun i _ => ls.length - (intOf i).toNat)
  case atStart => exact ⟨0, Nat.zero_le _, rfl, Lib.hid (by have := HS2.out; rw [HT0.out]; rw [List.length_replicate] at this; exact this), HE3⟩
  case round =>
    obtain ⟨k, hk, rfl, HO, HX⟩ := hrel
    clear HT0
    by_cases hlt : k < ls.length
    case neg =>
      obtain rfl : k = ls.length := by omega
      have hnl := needTo_len ss.length AZ (offZ ls ls.length)
      have HSL := Lib.hid (needSL HO.out hnl (by omega) hgb)
      have i1 : ¬ (ls.length : Int) < (ls.length : Int) := by omega
      clear hnl hlt
      go_wp2
      go_ret2
      exact ⟨some ⟨w2.heap.size, 0, none⟩, ss.length, by simp only [needTo_len]; rfl, HSL.out, HX.out⟩
    case pos =>
      have hkl : (k : Int) < (ls.length : Int) := by omega
      obtain ⟨b, off, rfl, hbw, hcell⟩ := (HR.out.ext HX.out).2.2.1 (by omega)
      have hrow := HR.out.2.2.2 k hlt
      obtain ⟨c0, c1⟩ := hcell k hlt
      have hG1 := HG.out k hlt
      have HA1 := Lib.hid (fun j hj => HAT.out k j hlt hj)
      have HOS : Hid (offZ ls (k + 1) = offZ ls k + (lineZ ls k).length) := Lib.hid (offZ_succ ls k)
      have hof := HOF.out k hk
      clear hcell
      unfold lineZ at hG1 HA1 HOS
      generalize offZ ls k = o at *
      generalize ls.getD k LN.zero = r at *
      obtain ⟨mm, X2, e2, zs⟩ := r
      simp only [SI.val] at *
      have HRW := Lib.hid hrow; have HGN := Lib.hid hG1; clear hrow hG1
      have hzl := HGN.out.1
      obtain ⟨wa, rfl⟩ : ∃ x, x = wr := ⟨_, rfl⟩
      go_wp2
      go_loopw [37] (fun i wr => ∃ j : Nat, j ≤ zs.length ∧ i = .int .i64 (j : Int) ∧ Hid (Own wr w2.heap.size (.slice (some ⟨w2.heap.size, 0, none⟩) ss.length ss.length) (needTo ss.length AZ (o + j))) ∧ Hid (Ext w wr)) (fun i _ => zs.length - (intOf i).toNat)
      case atStart => exact ⟨0, Nat.zero_le _, rfl, Lib.hid (HO.out.ext (by repeat (first | exact Ext.refl _ | assumption | refine Ext.alloc ?_ _ | refine Ext.drew ?_ | refine Ext.drewN ?_ _ | (refine Ext.setCell ?_ (by simp <;> omega) _) | refine Ext.trans ?_ (by assumption)))), Lib.hid (HX.out.trans (by repeat (first | exact Ext.refl _ | assumption | refine Ext.alloc ?_ _ | refine Ext.drew ?_ | refine Ext.drewN ?_ _ | (refine Ext.setCell ?_ (by simp <;> omega) _) | refine Ext.trans ?_ (by assumption))))⟩
      case round =>
        obtain ⟨j, hj, rfl, HO2, HX2⟩ := hrel
        clear HO
        by_cases hjl : j < zs.length
        case neg =>
          obtain rfl : j = zs.length := by omega
          have i1 : ¬ (zs.length : Int) < (zs.length : Int) := by omega
          clear c0 c1 hjl
          go_wp2
          go_roundw
          case rel => exact ⟨k + 1, by omega, by go_num, Lib.hid (by rw [HOS.out]; exact HO2.out), HX2⟩
          case measure => simp [intOf]; omega
        case pos =>
          have hji : (j : Int) < (zs.length : Int) := by omega
          obtain ⟨i1, i2⟩ := HGN.out.2 j hjl
          obtain ⟨q, hq⟩ : ∃ q : Nat, zs.getD j 0 = (q : Int) := ⟨(zs.getD j 0).toNat, by omega⟩
          have HN : Hid (needTo ss.length AZ (o + (j + 1)) = (needTo ss.length AZ (o + j)).set q ((needTo ss.length AZ (o + j)).getD q 0 + 1)) := Lib.hid (by rw [show o + (j + 1) = (o + j) + 1 by omega, needTo, HA1.out j hjl, hq, Int.toNat_natCast])
          rw [hq] at i2
          have hqn : q < ss.length := by omega
          obtain ⟨b2, off2, rfl, hb2, hc2⟩ := (HRW.out.ext HX2.out).2.2 (by omega)
          have r1 := hc2 j hjl
          rw [hq] at r1
          have hlen : q < (needTo ss.length AZ (o + j)).length := by rw [needTo_len]; exact hqn
          have l1 := (HO2.out.at rfl q hlen).1
          have l2 := (HO2.out.at rfl q hlen).2.1
          obtain ⟨y1, y2⟩ := needTo_bd ss.length AZ (o + j) q hqn
          have hqi : (q : Int) < (ss.length : Int) := by omega
          clear hc2 c0 c1 hq i1 hlen
          generalize (needTo ss.length AZ (o + j)).getD q 0 = y at *
          have hy3 : y ≤ 2000000 := by omega
          go_wp2
          go_roundw
          case rel => exact ⟨j + 1, by omega, by go_num, Lib.hid (by rw [HN.out]; exact HO2.out.set q (y + 1)), Lib.hid (HX2.out.setCell (p := ⟨w2.heap.size, q, none⟩) hgb _)⟩
          case measure => simp [intOf]; omega
end Go.Proofs.YtfbdklminljecaaGreatDoor
