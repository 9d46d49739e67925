/-
  Walk: the reference's casts.
-/
import Derived.Test.YtphkffndhifdkaaDoorRefC
namespace Go.Proofs.YtphkffndhifdkaaDoor
open Go.RowKit
set_option maxRecDepth 100000 in
set_option maxHeartbeats 4000000 in
theorem rCast_any (f : FT) (A : Option Addr) (c : Nat) (stock : Int) (B : Option Addr) (d : Nat) (cs : List Int) (w : World) (hf : FR w A c f) (hc : RI w B cs.length cs) (hck : (chk f).2 = 0) :
    Calls Tryd.prog 52 #[f.val A c, .int .i64 stock, .slice B cs.length d] w (Ret (castV f stock cs) w) := by
  have cK := fun W h1 h2 => rCheckCase_any f A c B d cs W h1 h2
  have cM := fun (h : countsErr f cs = 0) W h1 h2 => rMetal_any f A c B d cs W h1 h2 (MetalOk.of hck h)
  have cBd := fun (h : countsErr f cs = 0) => (MetalOk.of (f := f) (cs := cs) hck h).bd f.sorts.length (Nat.le_refl _)
  have hce : caseErr f cs = countsErr f cs := by unfold caseErr; rw [if_neg (by rw [hck]; simp)]
  rw [hce] at cK
  have HF := Lib.hid hf; have HC := Lib.hid hc; clear hf hc
  have HV : Hid (castR f stock cs = if ¬ (0 ≤ stock ∧ stock ≤ 1000000000000000000) then (0, 0, 2) else if countsErr f cs ≠ 0 then (0, 0, countsErr f cs)
    else if metalR f cs = 0 then (0, 0, 11) else (stock / metalR f cs, stock % metalR f cs, 0)) := Lib.hid (by unfold castR; rw [if_neg (by rw [hck]; simp)])
  unfold castV
  change (∀ h : countsErr f cs = 0, 0 ≤ metalR f cs ∧ metalR f cs ≤ 1728000000000000) at cBd
  clear hce hck
  generalize metalR f cs = m at *
  generalize castR f stock cs = r at *
  generalize countsErr f cs = y at *
  obtain ⟨name, body, ss⟩ := f
  simp only [FT.val] at *
  have CK := Lib.hid cK; clear cK
  by_cases hs : 0 ≤ stock ∧ stock ≤ 1000000000000000000
  case neg =>
    have HR : Hid (r = (0, 0, 2)) := Lib.hid (by rw [HV.out, if_pos hs])
    clear cM cBd HV
    go_enter Tryd.func52, Tryd.ntmps52
    go_wp2_with (first | (go_at_call 17; refine Calls.mono (bWithin_yes _ _ _ _ ?_) ?_; (omega); rintro e w1 ⟨rfl, rfl⟩) | (go_at_call 17; refine Calls.mono (bWithin_no _ _ _ _ ?_) ?_; (omega); rintro e w1 ⟨rfl, rfl⟩))
    go_ret3
    exact Ret.mk' (by rw [HR.out]; rfl) (by repeat (first | exact Ext.refl _ | assumption | refine Ext.alloc ?_ _ | refine Ext.drew ?_ | refine Ext.drewN ?_ _ | (refine Ext.setCell ?_ (by simp <;> omega) _) | refine Ext.trans ?_ (by assumption)))
  case pos =>
  have HV2 : Hid (r = if y ≠ 0 then (0, 0, y) else if m = 0 then (0, 0, 11) else (stock / m, stock % m, 0)) := Lib.hid (by rw [HV.out, if_neg (by simpa using hs)])
  obtain ⟨s1, s2⟩ := hs
  clear HV
  by_cases hy : y = 0
  case neg =>
    have e0 : (y != 0) = true := by simpa using hy
    have HR : Hid (r = (0, 0, y)) := Lib.hid (by rw [HV2.out, if_pos hy])
    clear cM cBd HV2 hy
    go_enter Tryd.func52, Tryd.ntmps52
    go_wp2_with (first | (go_at_call 17; refine Calls.mono (bWithin_yes _ _ _ _ ?_) ?_; (omega); rintro e w1 ⟨rfl, rfl⟩) | (go_at_call 17; refine Calls.mono (bWithin_no _ _ _ _ ?_) ?_; (omega); rintro e w1 ⟨rfl, rfl⟩) | (go_at_call 15; refine Calls.mono (CK.out _ ?_ ?_) ?_; (exact HF.out.ext (by repeat (first | exact Ext.refl _ | assumption | refine Ext.alloc ?_ _ | refine Ext.drew ?_ | refine Ext.drewN ?_ _ | (refine Ext.setCell ?_ (by simp <;> omega) _) | refine Ext.trans ?_ (by assumption)))); (exact HC.out.ext (by repeat (first | exact Ext.refl _ | assumption | refine Ext.alloc ?_ _ | refine Ext.drew ?_ | refine Ext.drewN ?_ _ | (refine Ext.setCell ?_ (by simp <;> omega) _) | refine Ext.trans ?_ (by assumption)))); rintro e w1 ⟨rfl, hb⟩))
    go_ret3
    exact Ret.mk' (by rw [HR.out]; rfl) (by repeat (first | exact Ext.refl _ | assumption | refine Ext.alloc ?_ _ | refine Ext.drew ?_ | refine Ext.drewN ?_ _ | (refine Ext.setCell ?_ (by simp <;> omega) _) | refine Ext.trans ?_ (by assumption)))
  case pos =>
  subst hy
  have HV3 : Hid (r = if m = 0 then (0, 0, 11) else (stock / m, stock % m, 0)) := Lib.hid (by rw [HV2.out, if_neg (by simp)])
  have CM := Lib.hid (cM rfl)
  obtain ⟨m1, m2⟩ := cBd rfl
  clear cM cBd HV2
  by_cases hm : m = 0
  case pos =>
    subst hm
    have HR : Hid (r = (0, 0, 11)) := Lib.hid (by rw [HV3.out, if_pos rfl])
    clear HV3
    go_enter Tryd.func52, Tryd.ntmps52
    go_wp2_with (first | (go_at_call 17; refine Calls.mono (bWithin_yes _ _ _ _ ?_) ?_; (omega); rintro e w1 ⟨rfl, rfl⟩) | (go_at_call 17; refine Calls.mono (bWithin_no _ _ _ _ ?_) ?_; (omega); rintro e w1 ⟨rfl, rfl⟩) | (go_at_call 15; refine Calls.mono (CK.out _ ?_ ?_) ?_; (exact HF.out.ext (by repeat (first | exact Ext.refl _ | assumption | refine Ext.alloc ?_ _ | refine Ext.drew ?_ | refine Ext.drewN ?_ _ | (refine Ext.setCell ?_ (by simp <;> omega) _) | refine Ext.trans ?_ (by assumption)))); (exact HC.out.ext (by repeat (first | exact Ext.refl _ | assumption | refine Ext.alloc ?_ _ | refine Ext.drew ?_ | refine Ext.drewN ?_ _ | (refine Ext.setCell ?_ (by simp <;> omega) _) | refine Ext.trans ?_ (by assumption)))); rintro e w1 ⟨rfl, hb⟩; have HB := Lib.hid (Box.start (name := name) (body := body) (A := A) (n := ss.length) (c := c) w hb); obtain ⟨b0, b1, b2, bl⟩ := HB.out.blk.c3; clear hb) | (go_at_call 51; refine Calls.mono (CM.out _ ?_ ?_) ?_; (exact HF.out.ext (HB.out.ext.trans (by repeat (first | exact Ext.refl _ | assumption | refine Ext.alloc ?_ _ | refine Ext.drew ?_ | refine Ext.drewN ?_ _ | (refine Ext.setCell ?_ (by simp <;> omega) _) | refine Ext.trans ?_ (by assumption))))); (exact HC.out.ext (HB.out.ext.trans (by repeat (first | exact Ext.refl _ | assumption | refine Ext.alloc ?_ _ | refine Ext.drew ?_ | refine Ext.drewN ?_ _ | (refine Ext.setCell ?_ (by simp <;> omega) _) | refine Ext.trans ?_ (by assumption))))); rintro e w2 ⟨rfl, hb⟩))
    go_ret3
    exact Ret.mk' (by rw [HR.out]; rfl) (HB.out.ext.trans (Ext.trans (by repeat (first | exact Ext.refl _ | assumption | refine Ext.alloc ?_ _ | refine Ext.drew ?_ | refine Ext.drewN ?_ _ | (refine Ext.setCell ?_ (by simp <;> omega) _) | refine Ext.trans ?_ (by assumption))) hb))
  case neg =>
  have HR : Hid (r = (stock / m, stock % m, 0)) := Lib.hid (by rw [HV3.out, if_neg hm])
  have e0 : (m == 0) = false := by simpa using hm
  have hm1 : 1 ≤ m := by omega
  clear HV3 hm
  go_enter Tryd.func52, Tryd.ntmps52
  go_wp2_with (first | (go_at_call 17; refine Calls.mono (bWithin_yes _ _ _ _ ?_) ?_; (omega); rintro e w1 ⟨rfl, rfl⟩) | (go_at_call 17; refine Calls.mono (bWithin_no _ _ _ _ ?_) ?_; (omega); rintro e w1 ⟨rfl, rfl⟩) | (go_at_call 15; refine Calls.mono (CK.out _ ?_ ?_) ?_; (exact HF.out.ext (by repeat (first | exact Ext.refl _ | assumption | refine Ext.alloc ?_ _ | refine Ext.drew ?_ | refine Ext.drewN ?_ _ | (refine Ext.setCell ?_ (by simp <;> omega) _) | refine Ext.trans ?_ (by assumption)))); (exact HC.out.ext (by repeat (first | exact Ext.refl _ | assumption | refine Ext.alloc ?_ _ | refine Ext.drew ?_ | refine Ext.drewN ?_ _ | (refine Ext.setCell ?_ (by simp <;> omega) _) | refine Ext.trans ?_ (by assumption)))); rintro e w1 ⟨rfl, hb⟩; have HB := Lib.hid (Box.start (name := name) (body := body) (A := A) (n := ss.length) (c := c) w hb); obtain ⟨b0, b1, b2, bl⟩ := HB.out.blk.c3; clear hb) | (go_at_call 51; refine Calls.mono (CM.out _ ?_ ?_) ?_; (exact HF.out.ext (HB.out.ext.trans (by repeat (first | exact Ext.refl _ | assumption | refine Ext.alloc ?_ _ | refine Ext.drew ?_ | refine Ext.drewN ?_ _ | (refine Ext.setCell ?_ (by simp <;> omega) _) | refine Ext.trans ?_ (by assumption))))); (exact HC.out.ext (HB.out.ext.trans (by repeat (first | exact Ext.refl _ | assumption | refine Ext.alloc ?_ _ | refine Ext.drew ?_ | refine Ext.drewN ?_ _ | (refine Ext.setCell ?_ (by simp <;> omega) _) | refine Ext.trans ?_ (by assumption))))); rintro e w2 ⟨rfl, hb⟩))
  go_quiet (fail)
  go_wp2
  go_ret3
  exact Ret.mk' (by rw [HR.out]; rfl) (HB.out.ext.trans (Ext.trans (Ext.trans (by repeat (first | exact Ext.refl _ | assumption | refine Ext.alloc ?_ _ | refine Ext.drew ?_ | refine Ext.drewN ?_ _ | (refine Ext.setCell ?_ (by simp <;> omega) _) | refine Ext.trans ?_ (by assumption))) hb) (by repeat (first | exact Ext.refl _ | assumption | refine Ext.alloc ?_ _ | refine Ext.drew ?_ | refine Ext.drewN ?_ _ | (refine Ext.setCell ?_ (by simp <;> omega) _) | refine Ext.trans ?_ (by assumption)))))
end Go.Proofs.YtphkffndhifdkaaDoor
