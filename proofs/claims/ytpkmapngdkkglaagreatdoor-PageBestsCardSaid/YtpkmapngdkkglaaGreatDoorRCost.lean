/-
  Walk: chapter 5: the reference's cost of a page.
-/
import Derived.Test.YtpkmapngdkkglaaGreatDoorRPage
import Derived.Deep.CutRange
import Derived.Deep.DeepCutAuto
namespace Go.Proofs.YtpkmapngdkkglaaGreatDoor
open Go.RowKit
attribute [local go_sem ↓] Go.wp_at_zero Go.wp_at_succ

set_option maxRecDepth 100000 in
set_option maxHeartbeats 16000000 in
theorem rCost_any (g : GT) (p : GA) (r : QT) (a b : Nat) (w : World) (hg : GR w p g) (hab : a < b) (hb : b ≤ g.items.length) (hr : RightG g) (hq : chkQ r = 0) :
    Calls Tryz.prog 20 #[g.val p, r.val, .agg #[.int .i64 (a : Int), .int .i64 (b : Int)]] w (Ret (costV g r a b) w) := by
  obtain ⟨pA, pc, pB, pd⟩ := p
  have hn := hr.many
  have cC := fun W h => rCore_any g ⟨pA, pc, pB, pd⟩ a b W h hab hb (by omega)
  have cU := fun W h => rUsed_any g ⟨pA, pc, pB, pd⟩ r a b W h hab hb hr hq
  obtain ⟨bA, off, rfl, hbw, hcell⟩ := hg.rp.2.2 (by omega)
  have HG := Lib.hid hg; have HRP := Lib.hid hg.rp; clear hcell
  obtain ⟨cb1, cb2, cb3⟩ := core_bd g.items a b (Nat.le_of_lt hab)
  obtain ⟨hu1, hu2⟩ := usesR_bd hr hq a b (Nat.le_of_lt hab) hb
  obtain ⟨⟨hh1, hh2⟩, _, ⟨hw1, hw2⟩, ho1, ho2⟩ := chkQ_zero hq
  obtain ⟨hcr1, hcr2⟩ := core_ref g.items a b (Nat.le_of_lt hab)
  have HC : Hid (costR g r a b = if coreB g.items a b ≤ coreA g.items a b then (0, 3)
    else if r.height - usesR g r a b < 0 then (0, 26)
    else if (g.items.getD (coreB g.items a b - 1) IT.zero).kind = 2 ∧ b ≠ g.items.length then (0, 15)
    else ((if b = g.items.length then 0 else (r.height - usesR g r a b) * (r.height - usesR g r a b)) +
      (if 1 < (g.items.getD (coreB g.items a b - 1) IT.zero).many ∧ (g.items.getD (coreB g.items a b - 1) IT.zero).line = 1 then r.orphan else 0) +
      (if 1 < (g.items.getD (coreA g.items a b) IT.zero).many ∧ (g.items.getD (coreA g.items a b) IT.zero).line = (g.items.getD (coreA g.items a b) IT.zero).many then r.widow else 0), 0)) := Lib.hid rfl
  have HIO := Lib.hid (fun k hk => (hr.items k hk).other)
  have HZL : Hid (((b : Int) == (g.items.length : Int)) = decide (b = g.items.length)) := Lib.hid (by
    rw [Bool.eq_iff_iff, beq_iff_eq, decide_eq_true_eq]; omega)
  unfold costV
  generalize costR g r a b = cR at *
  generalize coreA g.items a b = i0 at *
  generalize coreB g.items a b = j0 at *
  generalize usesR g r a b = us at *
  simp only [GT.val, QT.val] at *
  by_cases hc : i0 < j0
  case neg =>
    have hF := hcr2 hc
    rw [hF] at cC
    have HV : Hid (cR = (0, 3)) := Lib.hid (by rw [HC.out, if_pos (by omega)])
    generalize backR g.items a b = K at *
    have CC := Lib.hid cC; clear cC cU hg hr hq hcr1 hcr2 hF HC HIO
    go_enter Tryz.func20, Tryz.ntmps20
    have HS0 := Lib.hid (B3.start w #[.slice (some ⟨bA, off, none⟩) g.items.length pc, .slice pB g.notes.length pd] #[.int .i64 r.height, .int .i64 r.gap, .int .i64 r.widow, .int .i64 r.orphan] #[.int .i64 (a : Int), .int .i64 (b : Int)])
    obtain ⟨g0, g1, ⟨q0, q1, q2, q3⟩, a0, a1, gl⟩ := HS0.out.at
    go_wp2_with (first | (go_at_call 60; refine Calls.mono (CC.out _ ?_) ?_; (exact HG.out.ext (by repeat (first | exact Ext.refl _ | assumption | refine Ext.alloc ?_ _ | refine Ext.drew ?_ | refine Ext.drewN ?_ _ | (refine Ext.setCell ?_ (by simp <;> omega) _) | refine Ext.trans ?_ (by assumption)))); rintro e w1 ⟨rfl, hb1⟩; have HS1 := Lib.hid (HS0.out.next hb1); clear g0 g1 q0 q1 q2 q3 a0 a1 gl hb1; obtain ⟨g0, g1, ⟨q0, q1, q2, q3⟩, a0, a1, gl⟩ := HS1.out.at))
    go_ret2
    exact Ret.mk' (by rw [HV.out]; rfl) (HS1.out.ext.trans (by repeat (first | exact Ext.refl _ | assumption | refine Ext.alloc ?_ _ | refine Ext.drew ?_ | refine Ext.drewN ?_ _ | (refine Ext.setCell ?_ (by simp <;> omega) _) | refine Ext.trans ?_ (by assumption))))
  case pos =>
  obtain ⟨hF, hK⟩ := hcr1 hc
  rw [hF, hK] at cC
  obtain ⟨q, hq9⟩ : ∃ q, j0 = q + 1 := ⟨j0 - 1, by omega⟩
  subst hq9
  have hfk : ((i0 : Int) == (q : Int) + 1) = false := by rw [beq_eq_false_iff_ne]; omega
  have HV := HC.out
  rw [if_neg (by omega), Nat.add_sub_cancel] at HV
  have HC5 := Lib.hid HV; clear HC HV hF hK hcr1 hcr2
  have HI0 : Hid (i0 < g.items.length) := Lib.hid (by omega)
  have HQ0 : Hid (q < g.items.length) := Lib.hid (by omega)
  have hxo := HIO.out i0 (by omega)
  have hyo := HIO.out q (by omega)
  have hqn : (q : Int) < (g.items.length : Int) := by omega
  have hin : (i0 : Int) < (g.items.length : Int) := by omega
  obtain ⟨xk, hxk⟩ : ∃ v, (g.items.getD i0 IT.zero).kind = v := ⟨_, rfl⟩
  obtain ⟨xh, hxh⟩ : ∃ v, (g.items.getD i0 IT.zero).height = v := ⟨_, rfl⟩
  obtain ⟨xn, hxn⟩ : ∃ v, (g.items.getD i0 IT.zero).note = v := ⟨_, rfl⟩
  obtain ⟨xl, hxl⟩ : ∃ v, (g.items.getD i0 IT.zero).line = v := ⟨_, rfl⟩
  obtain ⟨xm, hxm⟩ : ∃ v, (g.items.getD i0 IT.zero).many = v := ⟨_, rfl⟩
  obtain ⟨yk, hyk⟩ : ∃ v, (g.items.getD q IT.zero).kind = v := ⟨_, rfl⟩
  obtain ⟨yh, hyh⟩ : ∃ v, (g.items.getD q IT.zero).height = v := ⟨_, rfl⟩
  obtain ⟨yn, hyn⟩ : ∃ v, (g.items.getD q IT.zero).note = v := ⟨_, rfl⟩
  obtain ⟨yl, hyl⟩ : ∃ v, (g.items.getD q IT.zero).line = v := ⟨_, rfl⟩
  obtain ⟨ym, hym⟩ : ∃ v, (g.items.getD q IT.zero).many = v := ⟨_, rfl⟩
  have hc5 := HC5.out
  rw [hxl, hxm, hyk, hyl, hym] at hc5
  rw [hxk, hxm] at hxo; rw [hyk, hym] at hyo
  have HXV := Lib.hid (And.intro hxk (And.intro hxh (And.intro hxn (And.intro hxl hxm))))
  have HYV := Lib.hid (And.intro hyk (And.intro hyh (And.intro hyn (And.intro hyl hym))))
  have HC6 := Lib.hid hc5
  have H4 : Hid (((yk == 1) = false ∧ Hid ((if 1 < ym ∧ yl = 1 then r.orphan else 0) = 0)) ∨ ((yk == 1) = true ∧ (yl == 1) = false ∧ Hid ((if 1 < ym ∧ yl = 1 then r.orphan else 0) = 0)) ∨ ((yk == 1) = true ∧ (yl == 1) = true ∧ ¬ 1 < ym ∧ Hid ((if 1 < ym ∧ yl = 1 then r.orphan else 0) = 0)) ∨ ((yk == 1) = true ∧ (yl == 1) = true ∧ 1 < ym ∧ Hid ((if 1 < ym ∧ yl = 1 then r.orphan else 0) = r.orphan))) := Lib.hid (by
    cases h1 : (yk == 1)
    · refine .inl ⟨rfl, Lib.hid (if_neg fun h => ?_)⟩
      have h9 := hyo (by rw [beq_eq_false_iff_ne] at h1; exact h1)
      omega
    cases h2 : (yl == 1)
    · exact .inr (.inl ⟨rfl, rfl, Lib.hid (if_neg fun h => by rw [beq_eq_false_iff_ne] at h2; exact h2 h.2)⟩)
    by_cases h3 : 1 < ym
    · exact .inr (.inr (.inr ⟨rfl, rfl, h3, Lib.hid (if_pos ⟨h3, by simpa using h2⟩)⟩))
    · exact .inr (.inr (.inl ⟨rfl, rfl, h3, Lib.hid (if_neg fun h => h3 h.1)⟩)))
  have H5 : Hid (((xk == 1) = false ∧ Hid ((if 1 < xm ∧ xl = xm then r.widow else 0) = 0)) ∨ ((xk == 1) = true ∧ (xl == xm) = false ∧ Hid ((if 1 < xm ∧ xl = xm then r.widow else 0) = 0)) ∨ ((xk == 1) = true ∧ (xl == xm) = true ∧ ¬ 1 < xm ∧ Hid ((if 1 < xm ∧ xl = xm then r.widow else 0) = 0)) ∨ ((xk == 1) = true ∧ (xl == xm) = true ∧ 1 < xm ∧ Hid ((if 1 < xm ∧ xl = xm then r.widow else 0) = r.widow))) := Lib.hid (by
    cases h1 : (xk == 1)
    · refine .inl ⟨rfl, Lib.hid (if_neg fun h => ?_)⟩
      have h9 := hxo (by rw [beq_eq_false_iff_ne] at h1; exact h1)
      omega
    cases h2 : (xl == xm)
    · exact .inr (.inl ⟨rfl, rfl, Lib.hid (if_neg fun h => by rw [beq_eq_false_iff_ne] at h2; exact h2 h.2)⟩)
    by_cases h3 : 1 < xm
    · exact .inr (.inr (.inr ⟨rfl, rfl, h3, Lib.hid (if_pos ⟨h3, by simpa using h2⟩)⟩))
    · exact .inr (.inr (.inl ⟨rfl, rfl, h3, Lib.hid (if_neg fun h => h3 h.1)⟩)))
  simp only [Int.natCast_add, Int.natCast_one] at cC
  have CC := Lib.hid cC; have CU := Lib.hid cU
  clear cC cU hg hr hq HIO hc5 HC5 hxo hyo hxk hxh hxn hxl hxm hyk hyh hyn hyl hym
  generalize hzl : ((b : Int) == (g.items.length : Int)) = zl at *
  have HZN : Hid (b = g.items.length ↔ zl = true) := Lib.hid (by rw [HZL.out, decide_eq_true_eq])
  clear HZL
  by_cases t1 : r.height - us < 0
  case pos =>
    have HV : Hid (cR = (0, 26)) := Lib.hid (by rw [HC6.out, if_pos t1])
    have t1' : r.height < us := by omega
    clear HC6
    go_enter Tryz.func20, Tryz.ntmps20
    have HS0 := Lib.hid (B3.start w #[.slice (some ⟨bA, off, none⟩) g.items.length pc, .slice pB g.notes.length pd] #[.int .i64 r.height, .int .i64 r.gap, .int .i64 r.widow, .int .i64 r.orphan] #[.int .i64 (a : Int), .int .i64 (b : Int)])
    obtain ⟨g0, g1, ⟨q0, q1, q2, q3⟩, a0, a1, gl⟩ := HS0.out.at
    go_wp2_with (first | (go_at_call 60; refine Calls.mono (CC.out _ ?_) ?_; (exact HG.out.ext (by repeat (first | exact Ext.refl _ | assumption | refine Ext.alloc ?_ _ | refine Ext.drew ?_ | refine Ext.drewN ?_ _ | (refine Ext.setCell ?_ (by simp <;> omega) _) | refine Ext.trans ?_ (by assumption)))); rintro e w1 ⟨rfl, hb1⟩; have HS1 := Lib.hid (HS0.out.next hb1); clear g0 g1 q0 q1 q2 q3 a0 a1 gl hb1; obtain ⟨g0, g1, ⟨q0, q1, q2, q3⟩, a0, a1, gl⟩ := HS1.out.at) | (go_at_call 21; refine Calls.mono (CU.out _ ?_) ?_; (exact HG.out.ext (HS1.out.ext.trans (by repeat (first | exact Ext.refl _ | assumption | refine Ext.alloc ?_ _ | refine Ext.drew ?_ | refine Ext.drewN ?_ _ | (refine Ext.setCell ?_ (by simp <;> omega) _) | refine Ext.trans ?_ (by assumption))))); rintro e w2 ⟨rfl, hb2⟩; have HS2 := Lib.hid (HS1.out.next hb2); clear g0 g1 q0 q1 q2 q3 a0 a1 gl hb2; obtain ⟨g0, g1, ⟨q0, q1, q2, q3⟩, a0, a1, gl⟩ := HS2.out.at))
    go_ret2
    exact Ret.mk' (by rw [HV.out]; rfl) (HS2.out.ext.trans (by repeat (first | exact Ext.refl _ | assumption | refine Ext.alloc ?_ _ | refine Ext.drew ?_ | refine Ext.drewN ?_ _ | (refine Ext.setCell ?_ (by simp <;> omega) _) | refine Ext.trans ?_ (by assumption))))
  case neg =>
  obtain ⟨hs1, hs2⟩ := sq_bd (d := r.height - us) (by omega)
  have t1' : ¬ r.height < us := by omega
  have HV := HC6.out
  rw [if_neg t1] at HV
  have HC6b := Lib.hid HV; clear HC6 HV
  by_cases t2 : yk = 2 ∧ zl = false
  case pos =>
    obtain ⟨t2a, t2b⟩ := t2
    subst t2b
    have HV : Hid (cR = (0, 15)) := Lib.hid (by rw [HC6b.out, if_pos ⟨t2a, fun h => by have := HZN.out.1 h; cases this⟩])
    have e2 : (yk == 2) = true := by rw [beq_iff_eq]; exact t2a
    have HY0 := HYV.out.1
    have HYK := Lib.hid HY0
    clear t2a HY0
    go_enter Tryz.func20, Tryz.ntmps20
    have HS0 := Lib.hid (B3.start w #[.slice (some ⟨bA, off, none⟩) g.items.length pc, .slice pB g.notes.length pd] #[.int .i64 r.height, .int .i64 r.gap, .int .i64 r.widow, .int .i64 r.orphan] #[.int .i64 (a : Int), .int .i64 (b : Int)])
    obtain ⟨g0, g1, ⟨q0, q1, q2, q3⟩, a0, a1, gl⟩ := HS0.out.at
    go_upto_region 7 with (first | (go_at_call 60; refine Calls.mono (CC.out _ ?_) ?_; (exact HG.out.ext (by repeat (first | exact Ext.refl _ | assumption | refine Ext.alloc ?_ _ | refine Ext.drew ?_ | refine Ext.drewN ?_ _ | (refine Ext.setCell ?_ (by simp <;> omega) _) | refine Ext.trans ?_ (by assumption)))); rintro e w1 ⟨rfl, hb1⟩; have HS1 := Lib.hid (HS0.out.next hb1); clear g0 g1 q0 q1 q2 q3 a0 a1 gl hb1; obtain ⟨g0, g1, ⟨q0, q1, q2, q3⟩, a0, a1, gl⟩ := HS1.out.at) | (go_at_call 21; refine Calls.mono (CU.out _ ?_) ?_; (exact HG.out.ext (HS1.out.ext.trans (by repeat (first | exact Ext.refl _ | assumption | refine Ext.alloc ?_ _ | refine Ext.drew ?_ | refine Ext.drewN ?_ _ | (refine Ext.setCell ?_ (by simp <;> omega) _) | refine Ext.trans ?_ (by assumption))))); rintro e w2 ⟨rfl, hb2⟩; have HS2 := Lib.hid (HS1.out.next hb2); clear g0 g1 q0 q1 q2 q3 a0 a1 gl hb2; obtain ⟨g0, g1, ⟨q0, q1, q2, q3⟩, a0, a1, gl⟩ := HS2.out.at))
    obtain ⟨_, _, he9, hbl9, hcell⟩ := (HRP.out.ext HS2.out.ext).2.2 (by omega)
    cases he9
    obtain ⟨d0, d1, d2, d3, d4⟩ := hcell q HQ0.out
    rw [HYK.out] at d0
    clear hcell d1 d2 d3 d4
    go_wp2
    go_ret2
    exact Ret.mk' (by rw [HV.out]; rfl) (HS2.out.ext.trans (by repeat (first | exact Ext.refl _ | assumption | refine Ext.alloc ?_ _ | refine Ext.drew ?_ | refine Ext.drewN ?_ _ | (refine Ext.setCell ?_ (by simp <;> omega) _) | refine Ext.trans ?_ (by assumption))))
  case neg =>
  have HV := HC6b.out
  rw [if_neg (fun h => t2 ⟨h.1, by rw [← Bool.not_eq_true]; exact fun e => h.2 (HZN.out.2 e)⟩)] at HV
  have HC7 := Lib.hid HV; clear HC6b HV
  have h3 : ((yk == 2) = true ∧ zl = true ∧ Hid ((if b = g.items.length then 0 else (r.height - us) * (r.height - us)) = 0)) ∨ ((yk == 2) = false ∧ zl = true ∧ Hid ((if b = g.items.length then 0 else (r.height - us) * (r.height - us)) = 0)) ∨ ((yk == 2) = false ∧ zl = false ∧ Hid ((if b = g.items.length then 0 else (r.height - us) * (r.height - us)) = (r.height - us) * (r.height - us))) := by
    cases hz : zl
    · refine .inr (.inr ⟨?_, rfl, Lib.hid (if_neg fun e => ?_)⟩)
      · rw [beq_eq_false_iff_ne]; exact fun e => t2 ⟨e, hz⟩
      · have := HZN.out.1 e; rw [hz] at this; cases this
    · have h9 := HZN.out.2 hz
      cases hy : (yk == 2)
      · exact .inr (.inl ⟨rfl, rfl, Lib.hid (if_pos h9)⟩)
      · exact .inl ⟨rfl, rfl, Lib.hid (if_pos h9)⟩
  clear t2 HZN
  rcases h3 with ⟨e2, hz, HBN⟩ | ⟨e2, hz, HBN⟩ | ⟨e2, hz, HBN⟩ <;> subst hz
  all_goals
    go_enter Tryz.func20, Tryz.ntmps20
    have HS0 := Lib.hid (B3.start w #[.slice (some ⟨bA, off, none⟩) g.items.length pc, .slice pB g.notes.length pd] #[.int .i64 r.height, .int .i64 r.gap, .int .i64 r.widow, .int .i64 r.orphan] #[.int .i64 (a : Int), .int .i64 (b : Int)])
    obtain ⟨g0, g1, ⟨q0, q1, q2, q3⟩, a0, a1, gl⟩ := HS0.out.at
    go_upto_region 7 with (first | (go_at_call 60; refine Calls.mono (CC.out _ ?_) ?_; (exact HG.out.ext (by repeat (first | exact Ext.refl _ | assumption | refine Ext.alloc ?_ _ | refine Ext.drew ?_ | refine Ext.drewN ?_ _ | (refine Ext.setCell ?_ (by simp <;> omega) _) | refine Ext.trans ?_ (by assumption)))); rintro e w1 ⟨rfl, hb1⟩; have HS1 := Lib.hid (HS0.out.next hb1); clear g0 g1 q0 q1 q2 q3 a0 a1 gl hb1; obtain ⟨g0, g1, ⟨q0, q1, q2, q3⟩, a0, a1, gl⟩ := HS1.out.at) | (go_at_call 21; refine Calls.mono (CU.out _ ?_) ?_; (exact HG.out.ext (HS1.out.ext.trans (by repeat (first | exact Ext.refl _ | assumption | refine Ext.alloc ?_ _ | refine Ext.drew ?_ | refine Ext.drewN ?_ _ | (refine Ext.setCell ?_ (by simp <;> omega) _) | refine Ext.trans ?_ (by assumption))))); rintro e w2 ⟨rfl, hb2⟩; have HS2 := Lib.hid (HS1.out.next hb2); clear g0 g1 q0 q1 q2 q3 a0 a1 gl hb2; obtain ⟨g0, g1, ⟨q0, q1, q2, q3⟩, a0, a1, gl⟩ := HS2.out.at))
    obtain ⟨_, _, he9, hbl9, hcell⟩ := (HRP.out.ext HS2.out.ext).2.2 (by omega)
    cases he9
    obtain ⟨c0, c1, c2, c3, c4⟩ := hcell i0 HI0.out
    obtain ⟨d0, d1, d2, d3, d4⟩ := hcell q HQ0.out
    rw [HXV.out.1] at c0; rw [HXV.out.2.1] at c1; rw [HXV.out.2.2.1] at c2; rw [HXV.out.2.2.2.1] at c3; rw [HXV.out.2.2.2.2] at c4
    rw [HYV.out.1] at d0; rw [HYV.out.2.1] at d1; rw [HYV.out.2.2.1] at d2; rw [HYV.out.2.2.2.1] at d3; rw [HYV.out.2.2.2.2] at d4
    have hn1 : ¬ bA = w2.heap.size := by omega
    have hn2 : ¬ bA = w2.heap.size + 1 := by omega
    have hn3 : ¬ w2.heap.size = bA := by omega
    have hn4 : ¬ w2.heap.size + 1 = bA := by omega
    have hn5 : ¬ w.heap.size = w2.heap.size := by omega
    have hn6 : ¬ w.heap.size = w2.heap.size + 1 := by omega
    have hn7 : ¬ w2.heap.size = w.heap.size := by omega
    have hn8 : ¬ w2.heap.size + 1 = w.heap.size := by omega
    have hq1 : (0 : Int) ≤ (q : Int) := by omega
    have e3 : IntKind.i64.wrap (q : Int) = (q : Int) := IntWalk.i64_in _ (by omega)
    have e4 : IntKind.i64.wrap ((q : Int) + 1 - 1) = (q : Int) := by rw [IntWalk.i64_in _ (by omega)]; omega
    clear hcell
    go_upto_region 13 with fail
    go_cut [13, 14] from 61 to 71 (fun v13 v14 wx => ∃ b9 b10, v13 = .pointer (some ⟨b9, 0, none⟩) ∧ v14 = .pointer (some ⟨b10, 0, none⟩) ∧ Hid (Blk wx b9 86 #[.int .i64 xk, .int .i64 xh, .int .i64 xn, .int .i64 xl, .int .i64 xm]) ∧ Hid (Blk wx b10 86 #[.int .i64 yk, .int .i64 yh, .int .i64 yn, .int .i64 yl, .int .i64 ym]) ∧ Hid (Ext w2 wx))
    case first =>
      go_region_held3 (fun W => (W.cell? ⟨w.heap.size, 0, none⟩ = some (.slice (some ⟨bA, off, none⟩) g.items.length pc)) ∧ (W.cell? ⟨bA, off + i0 * 5, none⟩ = some (.int .i64 xk) ∧ W.cell? ⟨bA, off + i0 * 5 + 1, none⟩ = some (.int .i64 xh) ∧ W.cell? ⟨bA, off + i0 * 5 + 2, none⟩ = some (.int .i64 xn) ∧ W.cell? ⟨bA, off + i0 * 5 + 3, none⟩ = some (.int .i64 xl) ∧ W.cell? ⟨bA, off + i0 * 5 + 4, none⟩ = some (.int .i64 xm)) ∧ (W.cell? ⟨bA, off + q * 5, none⟩ = some (.int .i64 yk) ∧ W.cell? ⟨bA, off + q * 5 + 1, none⟩ = some (.int .i64 yh) ∧ W.cell? ⟨bA, off + q * 5 + 2, none⟩ = some (.int .i64 yn) ∧ W.cell? ⟨bA, off + q * 5 + 3, none⟩ = some (.int .i64 yl) ∧ W.cell? ⟨bA, off + q * 5 + 4, none⟩ = some (.int .i64 ym))) (first | exact ⟨g0, ⟨c0, c1, c2, c3, c4⟩, ⟨d0, d1, d2, d3, d4⟩⟩ | go_keep) (fail)
      all_goals
        go_wp2_with fail
        go_meet
        case rel => first | exact ⟨_, _, rfl, rfl, Lib.hid ((Blk.new _ _ _).alloc _), Lib.hid (Blk.new1 _ _ _ _), Lib.hid (by repeat (first | exact Ext.refl _ | assumption | refine Ext.alloc ?_ _ | refine Ext.drew ?_ | refine Ext.drewN ?_ _ | (refine Ext.setCell ?_ (by simp <;> omega) _) | refine Ext.trans ?_ (by assumption)))⟩ | exact ⟨_, _, rfl, rfl, Lib.hid (Blk.new1 _ _ _ _), Lib.hid ((Blk.new _ _ _).alloc _), Lib.hid (by repeat (first | exact Ext.refl _ | assumption | refine Ext.alloc ?_ _ | refine Ext.drew ?_ | refine Ext.drewN ?_ _ | (refine Ext.setCell ?_ (by simp <;> omega) _) | refine Ext.trans ?_ (by assumption)))⟩
    case rest =>
      obtain ⟨b9, b10, rfl, rfl, HB9, HB10, HX2⟩ := hcut
      have HX4 := Lib.hid (HS2.out.ext.trans HX2.out)
      clear c0 c1 c2 c3 c4 d0 d1 d2 d3 d4 hn1 hn2 hn3 hn4 hn5 hn6 hn7 hn8 hbl9 e3 e4 hq1 g0 g1 q0 q1 q2 q3 a0 a1 gl
      obtain ⟨g0, g1, ⟨q0, q1, q2, q3⟩, a0, a1, gl⟩ := (HS2.out.next HX2.out).at
      have f0 := HB9.out.cell 0 _ rfl
      have f3 := HB9.out.cell 3 _ rfl
      have f4 := HB9.out.cell 4 _ rfl
      have fl := HB9.out.lt
      have s0 := HB10.out.cell 0 _ rfl
      have s3 := HB10.out.cell 3 _ rfl
      have s4 := HB10.out.cell 4 _ rfl
      have sl := HB10.out.lt
      rcases H4.out with ⟨t4, I4⟩ | ⟨t4, t5, I4⟩ | ⟨t4, t5, t6, I4⟩ | ⟨t4, t5, t6, I4⟩ <;> rcases H5.out with ⟨z4, I5⟩ | ⟨z4, z5, I5⟩ | ⟨z4, z5, z6, I5⟩ | ⟨z4, z5, z6, I5⟩
      all_goals
        go_wp2
        go_ret2
        refine Ret.mk' ?_ (HX4.out.trans (by repeat (first | exact Ext.refl _ | assumption | refine Ext.alloc ?_ _ | refine Ext.drew ?_ | refine Ext.drewN ?_ _ | (refine Ext.setCell ?_ (by simp <;> omega) _) | refine Ext.trans ?_ (by assumption))))
        rw [HC7.out, I4.out, I5.out, HBN.out]
        first | rfl | (simp only [Int.add_zero]; rfl) | (simp only [Int.zero_add]; rfl) | (simp only [Int.add_zero, Int.zero_add]; rfl)
end Go.Proofs.YtpkmapngdkkglaaGreatDoor
