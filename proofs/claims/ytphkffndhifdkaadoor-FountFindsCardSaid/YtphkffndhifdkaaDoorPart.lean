/-
  Walk: PartOf, the width of a sort as a part of the em.
-/
import Derived.Test.YtphkffndhifdkaaDoorFind
namespace Go.Proofs.YtphkffndhifdkaaDoor
open Go.RowKit
def partG (f : FT) (j : Nat) : Int := gcdZ (f.sorts.getD j TS.zero).width (60 * f.body)
def partR (f : FT) (z : Int) : Int × Int × Int :=
  if (chk f).2 ≠ 0 then (0, 0, (chk f).2) else if ¬ (0 ≤ z ∧ z ≤ (f.sorts.length : Int) - 1) then (0, 0, 6)
  else ((f.sorts.getD z.toNat TS.zero).width / partG f z.toNat, 60 * f.body / partG f z.toNat, 0)
def partV (f : FT) (z : Int) : Value := .tuple #[.agg #[.int .i64 (partR f z).1, .int .i64 (partR f z).2.1], .int .i64 (partR f z).2.2]
theorem part_sc {w1 W : World} {g : Nat} {t : TypeId} (hb : Blk w1 g t #[.int .i64 0, .int .i64 0]) (hx : Ext w1 W) (p q : Int) :
    (W.setCell ⟨g, 0, none⟩ (.int .i64 p)).cell? ⟨g, 0, none⟩ = some (.int .i64 p) ∧ ((W.setCell ⟨g, 0, none⟩ (.int .i64 p)).setCell ⟨g, 1, none⟩ (.int .i64 q)).cell? ⟨g, 1, none⟩ = some (.int .i64 q) :=
  ⟨((hb.ext hx).set_ 0 _).c2.1, (((hb.ext hx).set_ 0 _).set_ 1 _).c2.2.1⟩
set_option maxRecDepth 100000 in
set_option maxHeartbeats 4000000 in
theorem partOf_any (f : FT) (A : Option Addr) (c : Nat) (z : Int) (w : World) (hf : FR w A c f) :
    Calls Tryd.prog 53 #[f.val A c, .int .i64 z] w (Ret (partV f z) w) := by
  have cR := fun W h => checkFount_any f A c W h
  unfold ChkV at cR
  have HV : Hid (partV f z = .tuple #[.agg #[.int .i64 (partR f z).1, .int .i64 (partR f z).2.1], .int .i64 (partR f z).2.2]) := Lib.hid rfl
  have hsb := hf.rt.big
  have HF := Lib.hid hf; clear hf
  by_cases hz : (chk f).2 = 0
  case neg =>
    have HE : Hid (partR f z = (0, 0, (chk f).2)) := Lib.hid (by unfold partR; rw [if_pos hz])
    generalize partV f z = V at *
    generalize partR f z = r at *
    generalize chk f = p at *
    obtain ⟨n, e⟩ := p
    simp only at cR hz HE
    have e0 : (e != 0) = true := by simpa using hz
    obtain ⟨name, body, ss⟩ := f
    simp only [FT.val] at *
    have CR := Lib.hid cR; clear cR hz
    go_enter Tryd.func53, Tryd.ntmps53
    go_wp2_with (first | (go_at_call 30; refine Calls.mono (CR.out _ ?_) ?_; (exact HF.out.ext (by repeat (first | exact Ext.refl _ | assumption | refine Ext.alloc ?_ _ | refine Ext.drew ?_ | refine Ext.drewN ?_ _ | (refine Ext.setCell ?_ (by simp <;> omega) _) | refine Ext.trans ?_ (by assumption)))); rintro e w1 ⟨rfl, hb⟩; have HB := Lib.hid ((Blk.new1 _ _ _ _).ext hb); have HX := Lib.hid (show Ext w w1 from Ext.trans (by repeat (first | exact Ext.refl _ | assumption | refine Ext.alloc ?_ _ | refine Ext.drew ?_ | refine Ext.drewN ?_ _ | (refine Ext.setCell ?_ (by simp <;> omega) _) | refine Ext.trans ?_ (by assumption))) hb); obtain ⟨r0, r1, g0, g1, rl⟩ := HB.out.c2; clear hb))
    obtain ⟨v0, v1⟩ := part_sc HB.out (Ext.refl _) 0 0
    refine bodyPost_ret (v := .tuple #[.agg #[.int .i64 0, .int .i64 0], .int .i64 e]) (by simp [results, Tryd.results53, go_sem, v0, v1]) rfl (Ret.mk' (by rw [HV.out, HE.out]) ?_)
    exact Ext.setCell (Ext.setCell HX.out (by simp) _) (by simp) _
  case pos =>
  have hss := (chk_zero hz).2.2.1
  obtain ⟨⟨bd1, bd2⟩, _⟩ := chk_zero hz
  by_cases hr : 0 ≤ z ∧ z ≤ (f.sorts.length : Int) - 1
  case neg =>
    have HE : Hid (partR f z = (0, 0, 6)) := Lib.hid (by unfold partR; rw [if_neg (by simpa using hz), if_pos hr])
    rw [hz] at cR
    clear hz
    generalize partV f z = V at *
    generalize partR f z = r at *
    generalize (chk f).1 = n1 at *
    obtain ⟨name, body, ss⟩ := f
    simp only [FT.val] at *
    have CR := Lib.hid cR; clear cR
    go_enter Tryd.func53, Tryd.ntmps53
    go_wp2_with (first | (go_at_call 63; refine Calls.mono (within_yes _ _ _ _ ?_) ?_; (omega); rintro e w1 ⟨rfl, rfl⟩) | (go_at_call 63; refine Calls.mono (within_no _ _ _ _ ?_) ?_; (omega); rintro e w1 ⟨rfl, rfl⟩) | (go_at_call 30; refine Calls.mono (CR.out _ ?_) ?_; (exact HF.out.ext (by repeat (first | exact Ext.refl _ | assumption | refine Ext.alloc ?_ _ | refine Ext.drew ?_ | refine Ext.drewN ?_ _ | (refine Ext.setCell ?_ (by simp <;> omega) _) | refine Ext.trans ?_ (by assumption)))); rintro e w1 ⟨rfl, hb⟩; have HB := Lib.hid ((Blk.new1 _ _ _ _).ext hb); have HX := Lib.hid (show Ext w w1 from Ext.trans (by repeat (first | exact Ext.refl _ | assumption | refine Ext.alloc ?_ _ | refine Ext.drew ?_ | refine Ext.drewN ?_ _ | (refine Ext.setCell ?_ (by simp <;> omega) _) | refine Ext.trans ?_ (by assumption))) hb); obtain ⟨k0, k1, k2, kl⟩ := (((Blk.new w _ _).alloc _).ext hb).c3; obtain ⟨r0, r1, g0, g1, rl⟩ := HB.out.c2; clear hb))
    obtain ⟨v0, v1⟩ := part_sc HB.out (Ext.refl _) 0 0
    refine bodyPost_ret (v := .tuple #[.agg #[.int .i64 0, .int .i64 0], .int .i64 6]) (by simp [results, Tryd.results53, go_sem, v0, v1]) rfl (Ret.mk' (by rw [HV.out, HE.out]) ?_)
    exact Ext.setCell (Ext.setCell HX.out (by simp) _) (by simp) _
  case pos =>
  obtain ⟨z1, z2⟩ := hr
  obtain ⟨j, rfl⟩ := Int.eq_ofNat_of_zero_le z1
  have hj : j < f.sorts.length := by omega
  obtain ⟨_, ⟨wd1, wd2⟩, _⟩ := sort_ok hz hj
  have HE : Hid (partR f (j : Int) = ((f.sorts.getD j TS.zero).width / partG f j, 60 * f.body / partG f j, 0)) := Lib.hid (by
    unfold partR; rw [if_neg (by simpa using hz), if_neg (by simp; omega), Int.toNat_natCast])
  have hgb := gcdZ_bd (a := (f.sorts.getD j TS.zero).width) (b := 60 * f.body) (by omega)
  have CD : Hid (∀ W, Calls Tryd.prog 88 #[.int .i64 (f.sorts.getD j TS.zero).width, .int .i64 (60 * f.body)] W (Same (.int .i64 (partG f j)) W)) := Lib.hid (fun W => divisor_any _ _ _ W (Nat.le_refl _) (by omega) (by omega) (by omega) (by omega))
  change 1 ≤ partG f j ∧ _ at hgb
  have CE := Lib.hid (fun W => em_any f.body W (by omega))
  rw [hz] at cR
  clear hz
  generalize partV f (j : Int) = V at *
  generalize partR f (j : Int) = r at *
  generalize partG f j = g at *
  generalize (chk f).1 = n1 at *
  obtain ⟨g1, _⟩ := hgb
  obtain ⟨name, body, ss⟩ := f
  simp only [FT.val] at *
  have CR := Lib.hid cR; clear cR
  obtain ⟨b, off, rfl, hbw, hcell⟩ := HF.out.rt.2.2 (by show 0 < ss.length; omega)
  have q4 := (hcell j hj).2.2.2
  have hji : (j : Int) < (ss.length : Int) := by omega
  clear hcell
  generalize (ss.getD j TS.zero).width = wd at *
  have j1 : wd.tdiv g = wd / g := Int.tdiv_eq_ediv_of_nonneg (by omega)
  have j2 : (60 * body).tdiv g = 60 * body / g := Int.tdiv_eq_ediv_of_nonneg (by omega)
  have i1 := Int.ediv_nonneg (show 0 ≤ wd by omega) (show 0 ≤ g by omega)
  have i2 := Int.ediv_le_self g (show 0 ≤ wd by omega)
  have i3 := Int.ediv_nonneg (show 0 ≤ 60 * body by omega) (show 0 ≤ g by omega)
  have i4 := Int.ediv_le_self g (show 0 ≤ 60 * body by omega)
  have j3 : IntKind.i64.wrap (wd / g) = wd / g := IntWalk.i64_in _ (by omega)
  have j4 : IntKind.i64.wrap (60 * body / g) = 60 * body / g := IntWalk.i64_in _ (by omega)
  have e0 : (g == 0) = false := by rw [beq_eq_false_iff_ne]; omega
  have e1 : ¬ g = 0 := by omega
  have HJ := Lib.hid (And.intro (And.intro j1 j2) (And.intro j3 j4))
  clear j1 j2 j3 j4
  go_enter Tryd.func53, Tryd.ntmps53
  go_wp2_with (first | (go_at_call 63; refine Calls.mono (within_yes _ _ _ _ ?_) ?_; (omega); rintro e w1 ⟨rfl, rfl⟩) | (go_at_call 63; refine Calls.mono (within_no _ _ _ _ ?_) ?_; (omega); rintro e w1 ⟨rfl, rfl⟩) | (go_at_call 30; refine Calls.mono (CR.out _ ?_) ?_; (exact HF.out.ext (by repeat (first | exact Ext.refl _ | assumption | refine Ext.alloc ?_ _ | refine Ext.drew ?_ | refine Ext.drewN ?_ _ | (refine Ext.setCell ?_ (by simp <;> omega) _) | refine Ext.trans ?_ (by assumption)))); rintro e w1 ⟨rfl, hb⟩; have HB := Lib.hid ((Blk.new1 _ _ _ _).ext hb); have HX := Lib.hid (show Ext w w1 from Ext.trans (by repeat (first | exact Ext.refl _ | assumption | refine Ext.alloc ?_ _ | refine Ext.drew ?_ | refine Ext.drewN ?_ _ | (refine Ext.setCell ?_ (by simp <;> omega) _) | refine Ext.trans ?_ (by assumption))) hb); obtain ⟨k0, k1, k2, kl⟩ := (((Blk.new w _ _).alloc _).ext hb).c3; have qq := (HX.out.cell (p := ⟨b, off + j * 4 + 3, none⟩) hbw).trans q4; obtain ⟨r0, r1, f0, f1, rl⟩ := HB.out.c2; clear hb))
  go_quiet ((go_at_call 72; exact Same.quiet (CE.out _)))
  go_wp2_with (go_at_call 88; refine Calls.mono (CD.out _) ?_; rintro e w2 ⟨rfl, rfl⟩)
  obtain ⟨⟨j1, j2⟩, ⟨j3, j4⟩⟩ := HJ.out
  go_still_tail 7, (by kernel_rfl)
  change wpList _ _ _ _ _ (World.drew _)
  clear j1 j2 j3 j4
  go_wp2
  obtain ⟨v0, v1⟩ := part_sc HB.out (show Ext w1 (w1.drewN (nq + 1)) from (by repeat (first | exact Ext.refl _ | assumption | refine Ext.alloc ?_ _ | refine Ext.drew ?_ | refine Ext.drewN ?_ _ | (refine Ext.setCell ?_ (by simp <;> omega) _) | refine Ext.trans ?_ (by assumption)))) (wd / g) (60 * body / g)
  refine bodyPost_ret (v := .tuple #[.agg #[.int .i64 (wd / g), .int .i64 (60 * body / g)], .int .i64 0]) (by simp [results, Tryd.results53, go_sem, v0, v1]) rfl (Ret.mk' (by rw [HV.out, HE.out]) ?_)
  exact Ext.setCell (Ext.setCell (HX.out.trans (by repeat (first | exact Ext.refl _ | assumption | refine Ext.alloc ?_ _ | refine Ext.drew ?_ | refine Ext.drewN ?_ _ | (refine Ext.setCell ?_ (by simp <;> omega) _) | refine Ext.trans ?_ (by assumption)))) (by simp) _) (by simp) _
end Go.Proofs.YtphkffndhifdkaaDoor
