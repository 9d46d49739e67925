/-
  Walks: the reference's errors of lines, what they need, and where sorts lack.
-/
import Derived.Test.YtpkmapngdkkglaaGreatDoorLnMem
import Derived.Test.YtpkmapngdkkglaaGreatDoorLnNeed
namespace Go.Proofs.YtpkmapngdkkglaaGreatDoor
open Go.RowKit
attribute [local go_sem ↓] Go.wp_at_zero Go.wp_at_succ

/-- The error of lines of a right fount. -/
def rLinesE (n : Nat) (ls : List LN) : Int := if 100 < ls.length then 8 else firstE (fun k => listErr n (lineZ ls k)) ls.length
theorem rLinesE_eq {f : FT} (h : (chk f).2 = 0) (ls : List LN) : rLinesE f.sorts.length ls = linesE f ls := by
  unfold rLinesE linesE
  have e : (fun k => listErr f.sorts.length (lineZ ls k)) = fun k => listChk f (ls.getD k LN.zero).s.zs := by
    funext k
    unfold listChk
    rw [if_neg (by simpa using h)]
    rfl
  rw [e]
set_option maxRecDepth 100000 in
set_option maxHeartbeats 4000000 in
theorem rLinesErr_any (f : FT) (A : Option Addr) (c : Nat) (B : Option Addr) (d : Nat) (ls : List LN) (w : World) (hf : FR w A c f) (h : RLN w B ls.length ls) :
    Calls Tryz.prog 29 #[f.val A c, .slice B ls.length d] w (Ret (.int .i64 (rLinesE f.sorts.length ls)) w) := by
  have hbig := h.2.1
  have cC := fun X e zs W h1 h2 => rListErr_any f A c X e zs W h1 h2
  have HE : Hid (rLinesE f.sorts.length ls = if 100 < ls.length then 8 else firstE (fun k => listErr f.sorts.length (lineZ ls k)) ls.length) := Lib.hid rfl
  have HF := Lib.hid hf; have HR := Lib.hid h; clear hf h
  generalize rLinesE f.sorts.length ls = R at *
  obtain ⟨name, body, ss⟩ := f
  simp only [FT.val] at *
  have CC := Lib.hid cC; clear cC
  by_cases hl : 100 < ls.length
  case pos =>
    have HV : Hid (R = 8) := Lib.hid (by rw [HE.out, if_pos hl])
    have i1 : (100 : Int) < (ls.length : Int) := by omega
    clear HE hl
    go_enter Tryz.func29, Tryz.ntmps29
    go_wp2
    go_ret
    exact Ret.mk' (by rw [HV.out]; rfl) (by repeat (first | exact Ext.refl _ | assumption | refine Ext.alloc ?_ _ | refine Ext.drew ?_ | refine Ext.drewN ?_ _ | (refine Ext.setCell ?_ (by simp <;> omega) _) | refine Ext.trans ?_ (by assumption)))
  case neg =>
  have i1 : ¬ (100 : Int) < (ls.length : Int) := by omega
  have HZ : Hid ((∀ k, k < ls.length → listErr ss.length (lineZ ls k) = 0) → R = 0) := Lib.hid fun h => by rw [HE.out, if_neg hl]; exact firstE_none h
  have HH : Hid (∀ k, (∀ j, j < k → listErr ss.length (lineZ ls j) = 0) → k < ls.length → listErr ss.length (lineZ ls k) ≠ 0 → R = listErr ss.length (lineZ ls k)) := Lib.hid fun k h0 hk hb => by rw [HE.out, if_neg hl]; exact firstE_hit (g := fun k => listErr ss.length (lineZ ls k)) h0 hb hk
  clear HE hl
  go_enter Tryz.func29, Tryz.ntmps29
  have HB0 := Lib.hid (Blk.new w 48 #[.string name, .int .i64 body, .slice A ss.length c])
  go_wp2
  go_loopw [5] (fun i wr => ∃ k : Nat, k ≤ ls.length ∧ i = .int .i64 (k : Int) ∧ Hid (∀ j, j < k → listErr ss.length (lineZ ls j) = 0) ∧ Hid (Blk wr w.heap.size 48 #[.string name, .int .i64 body, .slice A ss.length c]) ∧ Hid (Ext w wr)) (fun i _ => ls.length - (intOf i).toNat)
  case atStart => exact ⟨0, Nat.zero_le _, rfl, Lib.hid (fun j hj => absurd hj (by omega)), HB0, Lib.hid (by repeat (first | exact Ext.refl _ | assumption | refine Ext.alloc ?_ _ | refine Ext.drew ?_ | refine Ext.drewN ?_ _ | (refine Ext.setCell ?_ (by simp <;> omega) _) | refine Ext.trans ?_ (by assumption)))⟩
  case round =>
    obtain ⟨k, hk, rfl, H0, HB, HX⟩ := hrel
    clear HB0
    obtain ⟨f0, f1, f2, fl⟩ := HB.out.c3
    by_cases hlt : k < ls.length
    case neg =>
      obtain rfl : k = ls.length := by omega
      have HV := Lib.hid (HZ.out H0.out)
      clear HZ HH
      go_wp2
      go_ret
      exact Ret.mk' (by rw [HV.out]; rfl) (HX.out.trans (by repeat (first | exact Ext.refl _ | assumption | refine Ext.alloc ?_ _ | refine Ext.drew ?_ | refine Ext.drewN ?_ _ | (refine Ext.setCell ?_ (by simp <;> omega) _) | refine Ext.trans ?_ (by assumption))))
    case pos =>
      have hki : (k : Int) < (ls.length : Int) := by omega
      obtain ⟨b, off, rfl, hbw, hcell⟩ := (HR.out.ext HX.out).2.2.1 (by omega)
      have hrow := HR.out.2.2.2 k hlt
      obtain ⟨c0, c1⟩ := hcell k hlt
      have HB1 := Lib.hid (HH.out k H0.out hlt)
      have HS1 : Hid (listErr ss.length (lineZ ls k) = 0 → ∀ j, j < k + 1 → listErr ss.length (lineZ ls j) = 0) := Lib.hid fun hz j hj => by
        rcases Nat.lt_or_ge j k with h9 | h9
        · exact H0.out j h9
        · obtain rfl : j = k := by omega
          exact hz
      have HLZ : Hid (lineZ ls k = (ls.getD k LN.zero).s.zs) := Lib.hid rfl
      rw [HLZ.out] at HB1 HS1
      clear hcell HLZ
      generalize ls.getD k LN.zero = r at *
      obtain ⟨mm, X2, e2, zs⟩ := r
      simp only [SI.val] at *
      have CK := Lib.hid (fun W h1 h2 => CC.out X2 e2 zs W h1 h2)
      generalize listErr ss.length zs = y at *
      have HRW := Lib.hid hrow; have HC1 := Lib.hid c1; have HBW : Hid (b < wr.heap.size) := Lib.hid hbw
      clear hrow
      by_cases hy : y = 0
      case pos =>
        have HS2 := Lib.hid (HS1.out hy)
        subst hy
        clear HS1 HB1 HZ HH
        go_upto_region 6 with fail
        refine wp_region_steady (Ext _) [?_, ?_, ?_, ?_, ?_, ?_, ?_, ?_] (by kernel_rfl) (by kernel_rfl) rfl (Ext.refl _).drew ?_ ?_
        rotate_left 8
        · refine StepsT.cons (fun W hW => ?_) ?_
          · have c1 := (hW.cell (p := ⟨b, off + k * 2 + 1, none⟩) HBW.out).trans HC1.out; obtain ⟨f0, f1, f2, fl⟩ := (HB.out.ext hW).c3; first | (refine StepT.off rfl hW ?_; rfl) | (refine StepT.go rfl ?_; go_simp; first | (refine ⟨?_, hW⟩; rfl) | (refine Calls.mono (CK.out _ (HF.out.ext (HX.out.trans hW)) (HRW.out.ext (HX.out.trans hW))) ?_; rintro e w4 ⟨rfl, hb⟩; refine ⟨?_, hW.trans hb⟩; rfl))
          simp only [Act.put, List.setIfInBounds_toArray, List.set_cons_zero, List.set_cons_succ]
          refine StepsT.cons (fun W hW => ?_) ?_
          · have c1 := (hW.cell (p := ⟨b, off + k * 2 + 1, none⟩) HBW.out).trans HC1.out; obtain ⟨f0, f1, f2, fl⟩ := (HB.out.ext hW).c3; first | (refine StepT.off rfl hW ?_; rfl) | (refine StepT.go rfl ?_; go_simp; first | (refine ⟨?_, hW⟩; rfl) | (refine Calls.mono (CK.out _ (HF.out.ext (HX.out.trans hW)) (HRW.out.ext (HX.out.trans hW))) ?_; rintro e w4 ⟨rfl, hb⟩; refine ⟨?_, hW.trans hb⟩; rfl))
          simp only [Act.put, List.setIfInBounds_toArray, List.set_cons_zero, List.set_cons_succ]
          refine StepsT.cons (fun W hW => ?_) ?_
          · have c1 := (hW.cell (p := ⟨b, off + k * 2 + 1, none⟩) HBW.out).trans HC1.out; obtain ⟨f0, f1, f2, fl⟩ := (HB.out.ext hW).c3; first | (refine StepT.off rfl hW ?_; rfl) | (refine StepT.go rfl ?_; go_simp; first | (refine ⟨?_, hW⟩; rfl) | (refine Calls.mono (CK.out _ (HF.out.ext (HX.out.trans hW)) (HRW.out.ext (HX.out.trans hW))) ?_; rintro e w4 ⟨rfl, hb⟩; refine ⟨?_, hW.trans hb⟩; rfl))
          simp only [Act.put, List.setIfInBounds_toArray, List.set_cons_zero, List.set_cons_succ]
          refine StepsT.cons (fun W hW => ?_) ?_
          · have c1 := (hW.cell (p := ⟨b, off + k * 2 + 1, none⟩) HBW.out).trans HC1.out; obtain ⟨f0, f1, f2, fl⟩ := (HB.out.ext hW).c3; first | (refine StepT.off rfl hW ?_; rfl) | (refine StepT.go rfl ?_; go_simp; first | (refine ⟨?_, hW⟩; rfl) | (refine Calls.mono (CK.out _ (HF.out.ext (HX.out.trans hW)) (HRW.out.ext (HX.out.trans hW))) ?_; rintro e w4 ⟨rfl, hb⟩; refine ⟨?_, hW.trans hb⟩; rfl))
          simp only [Act.put, List.setIfInBounds_toArray, List.set_cons_zero, List.set_cons_succ]
          refine StepsT.cons (fun W hW => ?_) ?_
          · have c1 := (hW.cell (p := ⟨b, off + k * 2 + 1, none⟩) HBW.out).trans HC1.out; obtain ⟨f0, f1, f2, fl⟩ := (HB.out.ext hW).c3; first | (refine StepT.off rfl hW ?_; rfl) | (refine StepT.go rfl ?_; go_simp; first | (refine ⟨?_, hW⟩; rfl) | (refine Calls.mono (CK.out _ (HF.out.ext (HX.out.trans hW)) (HRW.out.ext (HX.out.trans hW))) ?_; rintro e w4 ⟨rfl, hb⟩; refine ⟨?_, hW.trans hb⟩; rfl))
          simp only [Act.put, List.setIfInBounds_toArray, List.set_cons_zero, List.set_cons_succ]
          refine StepsT.cons (fun W hW => ?_) ?_
          · have c1 := (hW.cell (p := ⟨b, off + k * 2 + 1, none⟩) HBW.out).trans HC1.out; obtain ⟨f0, f1, f2, fl⟩ := (HB.out.ext hW).c3; first | (refine StepT.off rfl hW ?_; rfl) | (refine StepT.go rfl ?_; go_simp; first | (refine ⟨?_, hW⟩; rfl) | (refine Calls.mono (CK.out _ (HF.out.ext (HX.out.trans hW)) (HRW.out.ext (HX.out.trans hW))) ?_; rintro e w4 ⟨rfl, hb⟩; refine ⟨?_, hW.trans hb⟩; rfl))
          simp only [Act.put, List.setIfInBounds_toArray, List.set_cons_zero, List.set_cons_succ]
          refine StepsT.cons (fun W hW => ?_) ?_
          · have c1 := (hW.cell (p := ⟨b, off + k * 2 + 1, none⟩) HBW.out).trans HC1.out; obtain ⟨f0, f1, f2, fl⟩ := (HB.out.ext hW).c3; first | (refine StepT.off rfl hW ?_; rfl) | (refine StepT.go rfl ?_; go_simp; first | (refine ⟨?_, hW⟩; rfl) | (refine Calls.mono (CK.out _ (HF.out.ext (HX.out.trans hW)) (HRW.out.ext (HX.out.trans hW))) ?_; rintro e w4 ⟨rfl, hb⟩; refine ⟨?_, hW.trans hb⟩; rfl))
          simp only [Act.put, List.setIfInBounds_toArray, List.set_cons_zero, List.set_cons_succ]
          refine StepsT.cons (fun W hW => ?_) ?_
          · have c1 := (hW.cell (p := ⟨b, off + k * 2 + 1, none⟩) HBW.out).trans HC1.out; obtain ⟨f0, f1, f2, fl⟩ := (HB.out.ext hW).c3; first | (refine StepT.off rfl hW ?_; rfl) | (refine StepT.go rfl ?_; go_simp; first | (refine ⟨?_, hW⟩; rfl) | (refine Calls.mono (CK.out _ (HF.out.ext (HX.out.trans hW)) (HRW.out.ext (HX.out.trans hW))) ?_; rintro e w4 ⟨rfl, hb⟩; refine ⟨?_, hW.trans hb⟩; rfl))
          simp only [Act.put, List.setIfInBounds_toArray, List.set_cons_zero, List.set_cons_succ]
          trivial
        intro W hW
        simp only [putAll, Act.put, List.setIfInBounds_toArray, List.set_cons_zero, List.set_cons_succ]
        go_wp2
        go_roundw
        case rel => exact ⟨k + 1, by omega, by go_num, HS2, Lib.hid (HB.out.ext (Ext.trans hW (by repeat (first | exact Ext.refl _ | assumption | refine Ext.alloc ?_ _ | refine Ext.drew ?_ | refine Ext.drewN ?_ _ | (refine Ext.setCell ?_ (by simp <;> omega) _) | refine Ext.trans ?_ (by assumption))))), Lib.hid (HX.out.trans (Ext.trans hW (by repeat (first | exact Ext.refl _ | assumption | refine Ext.alloc ?_ _ | refine Ext.drew ?_ | refine Ext.drewN ?_ _ | (refine Ext.setCell ?_ (by simp <;> omega) _) | refine Ext.trans ?_ (by assumption)))))⟩
        case measure => simp [intOf] <;> omega
      case neg =>
        have HV := Lib.hid (HB1.out hy)
        have e0 : (y != 0) = true := by simpa using hy
        clear HS1 HB1 HZ HH hy
        go_upto_region 6 with fail
        refine wp_region_steady (Ext _) [?_, ?_, ?_, ?_, ?_, ?_, ?_, ?_] (by kernel_rfl) (by kernel_rfl) rfl (Ext.refl _).drew ?_ ?_
        rotate_left 8
        · refine StepsT.cons (fun W hW => ?_) ?_
          · have c1 := (hW.cell (p := ⟨b, off + k * 2 + 1, none⟩) HBW.out).trans HC1.out; obtain ⟨f0, f1, f2, fl⟩ := (HB.out.ext hW).c3; first | (refine StepT.off rfl hW ?_; rfl) | (refine StepT.go rfl ?_; go_simp; first | (refine ⟨?_, hW⟩; rfl) | (refine Calls.mono (CK.out _ (HF.out.ext (HX.out.trans hW)) (HRW.out.ext (HX.out.trans hW))) ?_; rintro e w4 ⟨rfl, hb⟩; refine ⟨?_, hW.trans hb⟩; rfl))
          simp only [Act.put, List.setIfInBounds_toArray, List.set_cons_zero, List.set_cons_succ]
          refine StepsT.cons (fun W hW => ?_) ?_
          · have c1 := (hW.cell (p := ⟨b, off + k * 2 + 1, none⟩) HBW.out).trans HC1.out; obtain ⟨f0, f1, f2, fl⟩ := (HB.out.ext hW).c3; first | (refine StepT.off rfl hW ?_; rfl) | (refine StepT.go rfl ?_; go_simp; first | (refine ⟨?_, hW⟩; rfl) | (refine Calls.mono (CK.out _ (HF.out.ext (HX.out.trans hW)) (HRW.out.ext (HX.out.trans hW))) ?_; rintro e w4 ⟨rfl, hb⟩; refine ⟨?_, hW.trans hb⟩; rfl))
          simp only [Act.put, List.setIfInBounds_toArray, List.set_cons_zero, List.set_cons_succ]
          refine StepsT.cons (fun W hW => ?_) ?_
          · have c1 := (hW.cell (p := ⟨b, off + k * 2 + 1, none⟩) HBW.out).trans HC1.out; obtain ⟨f0, f1, f2, fl⟩ := (HB.out.ext hW).c3; first | (refine StepT.off rfl hW ?_; rfl) | (refine StepT.go rfl ?_; go_simp; first | (refine ⟨?_, hW⟩; rfl) | (refine Calls.mono (CK.out _ (HF.out.ext (HX.out.trans hW)) (HRW.out.ext (HX.out.trans hW))) ?_; rintro e w4 ⟨rfl, hb⟩; refine ⟨?_, hW.trans hb⟩; rfl))
          simp only [Act.put, List.setIfInBounds_toArray, List.set_cons_zero, List.set_cons_succ]
          refine StepsT.cons (fun W hW => ?_) ?_
          · have c1 := (hW.cell (p := ⟨b, off + k * 2 + 1, none⟩) HBW.out).trans HC1.out; obtain ⟨f0, f1, f2, fl⟩ := (HB.out.ext hW).c3; first | (refine StepT.off rfl hW ?_; rfl) | (refine StepT.go rfl ?_; go_simp; first | (refine ⟨?_, hW⟩; rfl) | (refine Calls.mono (CK.out _ (HF.out.ext (HX.out.trans hW)) (HRW.out.ext (HX.out.trans hW))) ?_; rintro e w4 ⟨rfl, hb⟩; refine ⟨?_, hW.trans hb⟩; rfl))
          simp only [Act.put, List.setIfInBounds_toArray, List.set_cons_zero, List.set_cons_succ]
          refine StepsT.cons (fun W hW => ?_) ?_
          · have c1 := (hW.cell (p := ⟨b, off + k * 2 + 1, none⟩) HBW.out).trans HC1.out; obtain ⟨f0, f1, f2, fl⟩ := (HB.out.ext hW).c3; first | (refine StepT.off rfl hW ?_; rfl) | (refine StepT.go rfl ?_; go_simp; first | (refine ⟨?_, hW⟩; rfl) | (refine Calls.mono (CK.out _ (HF.out.ext (HX.out.trans hW)) (HRW.out.ext (HX.out.trans hW))) ?_; rintro e w4 ⟨rfl, hb⟩; refine ⟨?_, hW.trans hb⟩; rfl))
          simp only [Act.put, List.setIfInBounds_toArray, List.set_cons_zero, List.set_cons_succ]
          refine StepsT.cons (fun W hW => ?_) ?_
          · have c1 := (hW.cell (p := ⟨b, off + k * 2 + 1, none⟩) HBW.out).trans HC1.out; obtain ⟨f0, f1, f2, fl⟩ := (HB.out.ext hW).c3; first | (refine StepT.off rfl hW ?_; rfl) | (refine StepT.go rfl ?_; go_simp; first | (refine ⟨?_, hW⟩; rfl) | (refine Calls.mono (CK.out _ (HF.out.ext (HX.out.trans hW)) (HRW.out.ext (HX.out.trans hW))) ?_; rintro e w4 ⟨rfl, hb⟩; refine ⟨?_, hW.trans hb⟩; rfl))
          simp only [Act.put, List.setIfInBounds_toArray, List.set_cons_zero, List.set_cons_succ]
          refine StepsT.cons (fun W hW => ?_) ?_
          · have c1 := (hW.cell (p := ⟨b, off + k * 2 + 1, none⟩) HBW.out).trans HC1.out; obtain ⟨f0, f1, f2, fl⟩ := (HB.out.ext hW).c3; first | (refine StepT.off rfl hW ?_; rfl) | (refine StepT.go rfl ?_; go_simp; first | (refine ⟨?_, hW⟩; rfl) | (refine Calls.mono (CK.out _ (HF.out.ext (HX.out.trans hW)) (HRW.out.ext (HX.out.trans hW))) ?_; rintro e w4 ⟨rfl, hb⟩; refine ⟨?_, hW.trans hb⟩; rfl))
          simp only [Act.put, List.setIfInBounds_toArray, List.set_cons_zero, List.set_cons_succ]
          refine StepsT.cons (fun W hW => ?_) ?_
          · have c1 := (hW.cell (p := ⟨b, off + k * 2 + 1, none⟩) HBW.out).trans HC1.out; obtain ⟨f0, f1, f2, fl⟩ := (HB.out.ext hW).c3; first | (refine StepT.off rfl hW ?_; rfl) | (refine StepT.go rfl ?_; go_simp; first | (refine ⟨?_, hW⟩; rfl) | (refine Calls.mono (CK.out _ (HF.out.ext (HX.out.trans hW)) (HRW.out.ext (HX.out.trans hW))) ?_; rintro e w4 ⟨rfl, hb⟩; refine ⟨?_, hW.trans hb⟩; rfl))
          simp only [Act.put, List.setIfInBounds_toArray, List.set_cons_zero, List.set_cons_succ]
          trivial
        intro W hW
        simp only [putAll, Act.put, List.setIfInBounds_toArray, List.set_cons_zero, List.set_cons_succ]
        go_wp2
        go_ret
        exact Ret.mk' (by rw [HV.out]; rfl) (HX.out.trans (Ext.trans hW (by repeat (first | exact Ext.refl _ | assumption | refine Ext.alloc ?_ _ | refine Ext.drew ?_ | refine Ext.drewN ?_ _ | (refine Ext.setCell ?_ (by simp <;> omega) _) | refine Ext.trans ?_ (by assumption)))))
set_option maxRecDepth 100000 in
set_option maxHeartbeats 4000000 in
theorem rNeedOfL_any (f : FT) (A : Option Addr) (c : Nat) (B : Option Addr) (d : Nat) (ls : List LN) (w : World) (h : RLN w B ls.length ls) (hss : f.sorts.length ≤ 120) (hl : ls.length ≤ 100) (hg : Good f.sorts.length (allZ ls ls.length)) :
    Calls Tryz.prog 30 #[f.val A c, .slice B ls.length d] w (RetS (needTo f.sorts.length (allZ ls ls.length) (allZ ls ls.length).length) w) := by
  have cN := fun X e W h => rNeedOf_any f A c X e (allZ ls ls.length) W h hg hss
  have HR := Lib.hid h; clear h
  have HAS : Hid (∀ k, allZ ls (k + 1) = allZ ls k ++ lineZ ls k) := Lib.hid fun _ => rfl
  have HAL : Hid (∀ k, k ≤ ls.length → (allZ ls k).length ≤ 10000) := Lib.hid fun k hk => by
    have mono : ∀ m, k ≤ m → m ≤ ls.length → (allZ ls k).length ≤ (allZ ls m).length := fun m hm => by
      induction hm with
      | refl => intro _; exact Nat.le_refl _
      | step _ ih => intro h2; refine Nat.le_trans (ih (by omega)) ?_; rw [allZ, List.length_append]; omega
    exact Nat.le_trans (mono _ hk (Nat.le_refl _)) hg.few
  clear hg
  generalize needTo f.sorts.length (allZ ls ls.length) (allZ ls ls.length).length = R at *
  obtain ⟨name, body, ss⟩ := f
  simp only [FT.val] at *
  have CN := Lib.hid cN; clear cN
  go_enter Tryz.func30, Tryz.ntmps30
  have HB0 := Lib.hid (Blk.new w 48 #[.string name, .int .i64 body, .slice A ss.length c])
  go_wp2
  go_loopw [5, 6] (fun v i wr => ∃ k : Nat, k ≤ ls.length ∧ i = .int .i64 (k : Int) ∧ Hid (Own wr (w.heap.size + 1) v (allZ ls k)) ∧ Hid (Blk wr w.heap.size 48 #[.string name, .int .i64 body, .slice A ss.length c]) ∧ Hid (Ext w wr)) (fun _ i _ => ls.length - (intOf i).toNat)
  case atStart => exact ⟨0, Nat.zero_le _, rfl, Lib.hid (Own.nil _ _), HB0, Lib.hid (by repeat (first | exact Ext.refl _ | assumption | refine Ext.alloc ?_ _ | refine Ext.drew ?_ | refine Ext.drewN ?_ _ | (refine Ext.setCell ?_ (by simp <;> omega) _) | refine Ext.trans ?_ (by assumption)))⟩
  case round =>
    obtain ⟨k, hk, rfl, HO, HB, HX⟩ := hrel
    clear HB0
    obtain ⟨f0, f1, f2, fl⟩ := HB.out.c3
    by_cases hlt : k < ls.length
    case neg =>
      obtain rfl : k = ls.length := by omega
      have hal := HAL.out ls.length (Nat.le_refl _)
      generalize allZ ls ls.length = L at *
      obtain ⟨X, e, rfl, _, hri⟩ := HO.out.form (by omega)
      have HRI := Lib.hid hri
      clear hri hal
      go_wp2_with (first | (go_at_call 67; refine Calls.mono (CN.out _ _ _ (HRI.out.ext (by repeat (first | exact Ext.refl _ | assumption | refine Ext.alloc ?_ _ | refine Ext.drew ?_ | refine Ext.drewN ?_ _ | (refine Ext.setCell ?_ (by simp <;> omega) _) | refine Ext.trans ?_ (by assumption))))) ?_; rintro e w2 ⟨RA, rc, rfl, hsl, hb⟩; have HSL := Lib.hid hsl; have HXR := Lib.hid (HX.out.trans (Ext.trans (by repeat (first | exact Ext.refl _ | assumption | refine Ext.alloc ?_ _ | refine Ext.drew ?_ | refine Ext.drewN ?_ _ | (refine Ext.setCell ?_ (by simp <;> omega) _) | refine Ext.trans ?_ (by assumption))) hb)); have HSZ := Lib.hid (show w.heap.size ≤ _ from (HX.out.trans (by exact (by repeat (first | exact Ext.refl _ | assumption | refine Ext.alloc ?_ _ | refine Ext.drew ?_ | refine Ext.drewN ?_ _ | (refine Ext.setCell ?_ (by simp <;> omega) _) | refine Ext.trans ?_ (by assumption))) : Ext wr _)).size); clear hsl hb))
      go_ret
      exact ⟨RA, rc, rfl, (HSL.out.mono (by have := HX.out.size; simp; omega)).ext (by repeat (first | exact Ext.refl _ | assumption | refine Ext.alloc ?_ _ | refine Ext.drew ?_ | refine Ext.drewN ?_ _ | (refine Ext.setCell ?_ (by simp <;> omega) _) | refine Ext.trans ?_ (by assumption))), HXR.out.trans (by repeat (first | exact Ext.refl _ | assumption | refine Ext.alloc ?_ _ | refine Ext.drew ?_ | refine Ext.drewN ?_ _ | (refine Ext.setCell ?_ (by simp <;> omega) _) | refine Ext.trans ?_ (by assumption)))⟩
    case pos =>
      have hki : (k : Int) < (ls.length : Int) := by omega
      obtain ⟨b, off, rfl, hbw, hcell⟩ := (HR.out.ext HX.out).2.2.1 (by omega)
      have hrow := HR.out.2.2.2 k hlt
      obtain ⟨c0, c1⟩ := hcell k hlt
      have HN := Lib.hid (HAS.out k)
      have HNL := Lib.hid (HAL.out (k + 1) hlt)
      have HLZ : Hid (lineZ ls k = (ls.getD k LN.zero).s.zs) := Lib.hid rfl
      rw [HN.out, List.length_append, HLZ.out] at HNL
      rw [HLZ.out] at HN
      generalize allZ ls k = L at *
      clear hcell HLZ
      generalize ls.getD k LN.zero = r at *
      obtain ⟨mm, X2, e2, zs⟩ := r
      simp only [SI.val] at *
      have HRW := Lib.hid (hrow.ext HX.out)
      clear hrow
      go_wp2_with (first | (at_builtin; refine list_appendI rfl (.tmp 13) (.tmp 18) rfl (w.heap.size + 1) _ L rfl (HO.out.ext (by repeat (first | exact Ext.refl _ | assumption | refine Ext.alloc ?_ _ | refine Ext.drew ?_ | refine Ext.drewN ?_ _ | (refine Ext.setCell ?_ (by simp <;> omega) _) | refine Ext.trans ?_ (by assumption)))) X2 e2 zs rfl (HRW.out.ext (by repeat (first | exact Ext.refl _ | assumption | refine Ext.alloc ?_ _ | refine Ext.drew ?_ | refine Ext.drewN ?_ _ | (refine Ext.setCell ?_ (by simp <;> omega) _) | refine Ext.trans ?_ (by assumption)))) (by have := HNL.out; omega) (by have := HB.out.lt; simp; omega) ?_; intro v' w' ho hg; have HO2 := Lib.hid ho; have HB2 : Hid (Blk w' w.heap.size 48 #[.string name, .int .i64 body, .slice A ss.length c]) := Lib.hid ((hg.block _ (HB.out.ext (by repeat (first | exact Ext.refl _ | assumption | refine Ext.alloc ?_ _ | refine Ext.drew ?_ | refine Ext.drewN ?_ _ | (refine Ext.setCell ?_ (by simp <;> omega) _) | refine Ext.trans ?_ (by assumption)))).lt fun e9 => by have := HO.out.base_le _ e9.symm; omega).trans (HB.out.ext (by repeat (first | exact Ext.refl _ | assumption | refine Ext.alloc ?_ _ | refine Ext.drew ?_ | refine Ext.drewN ?_ _ | (refine Ext.setCell ?_ (by simp <;> omega) _) | refine Ext.trans ?_ (by assumption))))); have HX2 : Hid (Ext w w') := Lib.hid (Ext.grown (HX.out.trans (by repeat (first | exact Ext.refl _ | assumption | refine Ext.alloc ?_ _ | refine Ext.drew ?_ | refine Ext.drewN ?_ _ | (refine Ext.setCell ?_ (by simp <;> omega) _) | refine Ext.trans ?_ (by assumption)))) hg fun k9 hk9 => by have := HO.out.base_le k9 hk9; omega); clear ho hg))
      go_roundw
      case rel => exact ⟨k + 1, by omega, by go_num, Lib.hid (by rw [HN.out]; exact HO2.out), HB2, HX2⟩
      case measure => simp [intOf] <;> omega
end Go.Proofs.YtpkmapngdkkglaaGreatDoor
