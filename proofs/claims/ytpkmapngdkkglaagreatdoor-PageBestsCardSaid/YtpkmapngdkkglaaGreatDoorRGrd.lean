/-
  Walks: chapter 5: the reference's longest pages.
-/
import Derived.Test.YtpkmapngdkkglaaGreatDoorRBrk
import Derived.Test.YtpkmapngdkkglaaGreatDoorGreedLaw
namespace Go.Proofs.YtpkmapngdkkglaaGreatDoor
open Go.RowKit
attribute [local go_sem ↓] Go.wp_at_zero Go.wp_at_succ

theorem BQ.push {w W W' W2 : World} {cg cq : Array Value} {v : Value} {zs : List Int} (h : BQ w cg cq W) (ho : Own W (w.heap.size + 1 + 1) v zs) (hx : Ext W W') (hg : W'.grownBy W2 v.ownBlock) : BQ w cg cq W2 := by
  have h1 := h.next hx
  have hb : ∀ k, v.ownBlock = some k → w.heap.size + 1 + 1 ≤ k := fun k hk => ho.base_le k hk
  refine ⟨h1.ext.grown hg fun k hk => by have := hb k hk; omega, (hg.block _ h1.bg.lt fun e => ?_).trans h1.bg, (hg.block _ h1.bq.lt fun e => ?_).trans h1.bq⟩
  · have := hb _ e.symm; omega
  · have := hb _ e.symm; omega
set_option maxRecDepth 100000 in
set_option maxHeartbeats 8000000 in
theorem rGreedy_any (g : GT) (p : GA) (r : QT) (w : World) (hg : GR w p g) (hr : RightG g) (hq : chkQ r = 0) :
    Calls Tryz.prog 45 #[g.val p, r.val] w (RetSE (grdR (costR g r) g.items.length).1 (grdR (costR g r) g.items.length).2 w) := by
  have hn := hr.many
  have cC := fun W h a b hab hb => rCost_any g p r a b W h hab hb hr hq
  unfold costV at cC
  have HG := Lib.hid hg
  have HR : Hid (grdR (costR g r) g.items.length = if g.items.length = 0 then ([], 10) else grdF (costR g r) g.items.length (g.items.length + 1) 0) := Lib.hid rfl
  clear hg hr hq
  generalize grdR (costR g r) g.items.length = V at *
  simp only [GT.val, QT.val] at *
  have CC := Lib.hid cC; clear cC
  by_cases hn0 : g.items.length = 0
  case pos =>
    have HV : Hid (V = ([], 10)) := Lib.hid (by rw [HR.out, if_pos hn0])
    have i1 : ((g.items.length : Int) == 0) = true := by rw [beq_iff_eq]; omega
    clear HR hn0
    go_enter Tryz.func45, Tryz.ntmps45
    go_wp2
    go_ret2
    rw [HV.out]
    exact ⟨none, 0, rfl, SL.nil _ _, (by repeat first | exact xe0 _ | assumption | refine xea ?_ _ | refine xed ?_ | refine xet ?_ (by assumption))⟩
  case neg =>
  have i1 : ((g.items.length : Int) == 0) = false := by rw [beq_eq_false_iff_ne]; omega
  have HV0 : Hid (V = grdF (costR g r) g.items.length (g.items.length + 1 - 0) 0) := Lib.hid (by rw [HR.out, if_neg hn0]; rfl)
  have HN0 : Hid (g.items.length ≠ 0) := Lib.hid hn0
  clear HR hn0
  go_enter Tryz.func45, Tryz.ntmps45
  have HS0 := Lib.hid (BQ.start w #[.slice p.A g.items.length p.c, .slice p.B g.notes.length p.d] #[.int .i64 r.height, .int .i64 r.gap, .int .i64 r.widow, .int .i64 r.orphan])
  go_wp2
  go_loopw [6, 7] (fun v i wr => ∃ k : Nat, i = .int .i64 ((gAt (costR g r) g.items.length k : Nat) : Int) ∧ Hid (GOk (costR g r) g.items.length k) ∧ Hid (V = grdF (costR g r) g.items.length (g.items.length + 1 - k) k) ∧ Hid (Own wr (w.heap.size + 1 + 1) v (gL (costR g r) g.items.length k)) ∧ Hid (BQ w #[.slice p.A g.items.length p.c, .slice p.B g.notes.length p.d] #[.int .i64 r.height, .int .i64 r.gap, .int .i64 r.widow, .int .i64 r.orphan] wr)) (fun _ i _ => g.items.length - (intOf i).toNat)
  case atStart => exact ⟨0, rfl, Lib.hid .zero, HV0, Lib.hid (Own.nil _ _), HS0⟩
  case round =>
    obtain ⟨k, rfl, HK, HV, HO, HS⟩ := hrel
    clear HS0 HV0
    have hgo := HK.out.le
    have hgf := HK.out.few
    have HLL : Hid ((gL (costR g r) g.items.length k).length = k) := Lib.hid (gL_len k)
    have HF : Hid (g.items.length + 1 - k = (g.items.length - k) + 1) := Lib.hid (by omega)
    have hkn : k ≤ g.items.length := by omega
    obtain ⟨g0, g1, gl0, ⟨q0, q1, q2, q3⟩, gl⟩ := HS.out.at
    have HGA : Hid (gAt (costR g r) g.items.length (k + 1) = lonG (costR g r) (gAt (costR g r) g.items.length k) (g.items.length - gAt (costR g r) g.items.length k)) := Lib.hid rfl
    have HGL : Hid (gL (costR g r) g.items.length (k + 1) = gL (costR g r) g.items.length k ++ [(gAt (costR g r) g.items.length (k + 1) : Int)]) := Lib.hid rfl
    by_cases hend : gAt (costR g r) g.items.length k = g.items.length
    case pos =>
      have HV2 : Hid (V = (gL (costR g r) g.items.length k, 0)) := Lib.hid (by rw [HV.out, HF.out, grdF_end hend])
      rw [hend]
      have i2 : ¬ (g.items.length : Int) < (g.items.length : Int) := by omega
      generalize gL (costR g r) g.items.length k = L at *
      have hll : L.length ≤ 1000 := by have := HLL.out; omega
      obtain ⟨A, c, rfl, hc, hri⟩ := HO.out.form (by omega)
      have HSL := Lib.hid ((SL.of_own HO.out (by omega)).mono (base' := w.heap.size) (by omega))
      clear hc hri hll hend HLL HGA HGL HV HK hgo hgf
      go_wp2
      go_ret2
      rw [HV2.out]
      exact ⟨A, c, rfl, HSL.out.ext (by repeat first | exact xe0 _ | assumption | refine xea ?_ _ | refine xed ?_ | refine xet ?_ (by assumption)), HS.out.ext.trans (by repeat first | exact xe0 _ | assumption | refine xea ?_ _ | refine xed ?_ | refine xet ?_ (by assumption))⟩
    case neg =>
      have HNX : Hid (gAt (costR g r) g.items.length (k + 1) = 0 → V = ([], 12)) := Lib.hid fun h => by rw [HV.out, HF.out, grdF_none hend h]
      have HNY : Hid (gAt (costR g r) g.items.length (k + 1) ≠ 0 → V = grdF (costR g r) g.items.length (g.items.length + 1 - (k + 1)) (k + 1) ∧ GOk (costR g r) g.items.length (k + 1)) := Lib.hid fun h => by
        refine ⟨?_, HK.out.next h⟩
        rw [HV.out, HF.out, grdF_next hend h, show g.items.length + 1 - (k + 1) = g.items.length - k by omega]
      have hal : gAt (costR g r) g.items.length k < g.items.length := by omega
      have HNL := Lib.hid (fun h => gAt_next (cs := costR g r) (n := g.items.length) (k := k) hgo h)
      have HL0 : Hid (lonG (costR g r) (gAt (costR g r) g.items.length k) 0 = 0) := Lib.hid rfl
      have HLS : Hid (∀ m, lonG (costR g r) (gAt (costR g r) g.items.length k) (m + 1) = if (costR g r (gAt (costR g r) g.items.length k) (gAt (costR g r) g.items.length k + m + 1)).2 = 0 then gAt (costR g r) g.items.length k + m + 1 else lonG (costR g r) (gAt (costR g r) g.items.length k) m) := Lib.hid fun m => rfl
      generalize gL (costR g r) g.items.length k = L at *
      generalize ha1 : gAt (costR g r) g.items.length (k + 1) = a1 at *
      have HEQ := Lib.hid ha1; clear ha1
      generalize gAt (costR g r) g.items.length k = a at *
      have hai : (a : Int) < (g.items.length : Int) := by omega
      clear HV HK HF hend
      go_wp2
      have HO1 := Lib.hid (HO.out.ext (w' := wr) (by repeat first | exact xe0 _ | assumption | refine xea ?_ _ | refine xed ?_ | refine xet ?_ (by assumption)))
      have HS1 := Lib.hid (HS.out.next (by repeat first | exact xe0 _ | assumption | refine xea ?_ _ | refine xed ?_ | refine xet ?_ (by assumption)))
      have HX1 : Hid (Ext wr wr) := Lib.hid (Ext.refl _)
      obtain ⟨wa, rfl⟩ : ∃ x, x = wr := ⟨_, rfl⟩
      clear g0 g1 gl0 q0 q1 q2 q3 gl
      clear HS
      go_loopw [8, 9] (fun v i wr => ∃ (m : Nat) (e : Int), a + m ≤ g.items.length ∧ v = .int .i64 e ∧ i = .int .i64 ((a : Int) + 1 + m) ∧ Hid ((lonG (costR g r) a m = 0 ∧ e = -1) ∨ (lonG (costR g r) a m ≠ 0 ∧ e = lonG (costR g r) a m)) ∧ Hid (BQ w #[.slice p.A g.items.length p.c, .slice p.B g.notes.length p.d] #[.int .i64 r.height, .int .i64 r.gap, .int .i64 r.widow, .int .i64 r.orphan] wr) ∧ Hid (Ext wa wr)) (fun _ i _ => g.items.length + 1 - (intOf i).toNat)
      case atStart => exact ⟨0, -1, by omega, rfl, by simp, Lib.hid (.inl ⟨HL0.out, rfl⟩), HS1, HX1⟩
      case round =>
        obtain ⟨m, e, hm, rfl, rfl, HE, HS, HX⟩ := hrel
        clear HS1 HX1 HL0
        obtain ⟨g0, g1, gl0, ⟨q0, q1, q2, q3⟩, gl⟩ := HS.out.at
        by_cases hlt : a + m < g.items.length
        case neg =>
          have HM : Hid (a1 = lonG (costR g r) a m) := Lib.hid (by rw [HGA.out, show g.items.length - a = m by omega])
          have i2 : ¬ (a : Int) + 1 + m ≤ (g.items.length : Int) := by omega
          clear HGA HLS hlt
          by_cases hz : a1 = 0
          case pos =>
            have HV2 := Lib.hid (HNX.out hz)
            have he : e < 0 := by
              rcases HE.out with ⟨_, h2⟩ | ⟨h1, _⟩
              · omega
              · exact absurd (HM.out.symm.trans hz) h1
            clear HNX HNY HNL hz HM HE HGL
            go_wp2
            go_ret2
            rw [HV2.out]
            exact ⟨none, 0, rfl, SL.nil _ _, HS.out.ext.trans (by repeat first | exact xe0 _ | assumption | refine xea ?_ _ | refine xed ?_ | refine xet ?_ (by assumption))⟩
          case neg =>
            obtain ⟨y1, y2⟩ := HNY.out hz
            have HY1 := Lib.hid y1; have HY2 := Lib.hid y2
            obtain ⟨z1, z2, _⟩ := HNL.out hz
            have he : e = (a1 : Int) := by
              rcases HE.out with ⟨h1, _⟩ | ⟨_, h2⟩
              · exact absurd (HM.out.trans h1) hz
              · rw [h2, HM.out]
            subst he
            have i3 : ¬ (a1 : Int) < 0 := by omega
            have HLB : Hid (L.length ≤ 1000) := Lib.hid (by have := HLL.out; omega)
            have HA1 : Hid (a < a1 ∧ a1 ≤ g.items.length) := Lib.hid ⟨z1, z2⟩
            clear HNX HNY HNL hz HM HE y1 y2 HLL
            go_wp2_with (first | (at_builtin; refine list_push rfl (.tmp 44) (.tmp 46) rfl (w.heap.size + 1 + 1) _ L rfl (HO1.out.ext (HX.out.trans (by repeat first | exact xe0 _ | assumption | refine xea ?_ _ | refine xed ?_ | refine xet ?_ (by assumption)))) wr.heap.size (a1 : Int) rfl (by simp) (by have := HLB.out; omega) (by have := HS.out.bq.lt; simp; omega) ?_; intro v' w' ho hg; have HO2 := Lib.hid ho; have HS2 := Lib.hid (HS.out.push (HO1.out.ext HX.out) (by repeat first | exact xe0 _ | assumption | refine xea ?_ _ | refine xed ?_ | refine xet ?_ (by assumption)) hg); clear ho hg))
            go_roundw
            case rel => exact ⟨k + 1, by rw [HEQ.out], HY2, HY1, Lib.hid (by rw [HGL.out]; exact HO2.out), HS2⟩
            case measure => simp [intOf] <;> omega
        case pos =>
          have hk1 : IntKind.i64.wrap ((a : Int) + 1 + m + 1) = (a : Int) + 1 + ((m + 1 : Nat) : Int) := by rw [IntWalk.i64_in _ (by omega)]; omega
          have i2 : (a : Int) + 1 + m ≤ (g.items.length : Int) := by omega
          have h3 : ((a + m + 1 : Nat) : Int) = (a : Int) + 1 + m := by omega
          have cK := fun W h => CC.out W h a (a + m + 1) (by omega) (by omega)
          rw [h3] at cK
          have HLM := Lib.hid (HLS.out m)
          generalize costR g r a (a + m + 1) = cs at *
          obtain ⟨cv, cz⟩ := cs
          simp only at cK HLM
          have CK := Lib.hid cK; have H3 := Lib.hid h3; clear cK h3
          by_cases hz : cz = 0
          case pos =>
            have HE2 : Hid ((lonG (costR g r) a (m + 1) = 0 ∧ (a : Int) + 1 + m = -1) ∨ (lonG (costR g r) a (m + 1) ≠ 0 ∧ (a : Int) + 1 + m = lonG (costR g r) a (m + 1))) := Lib.hid (.inr (by rw [HLM.out, if_pos hz]; exact ⟨by omega, H3.out.symm⟩))
            subst hz
            clear HLM HE
            go_wp2_with (first | (go_at_call 20; refine Calls.mono (CK.out _ ?_) ?_; (exact HG.out.ext (HS.out.ext.trans (by repeat first | exact xe0 _ | assumption | refine xea ?_ _ | refine xed ?_ | refine xet ?_ (by assumption)))); rintro e w2 ⟨rfl, hb⟩; have HX2 := Lib.hid (Ext.trans (a := wr) (by repeat first | exact xe0 _ | assumption | refine xea ?_ _ | refine xed ?_ | refine xet ?_ (by assumption)) hb); clear hb))
            go_roundw
            case rel => exact ⟨m + 1, (a : Int) + 1 + m, by omega, rfl, rfl, HE2, Lib.hid (HS.out.next (HX2.out.trans (by repeat first | exact xe0 _ | assumption | refine xea ?_ _ | refine xed ?_ | refine xet ?_ (by assumption)))), Lib.hid (HX.out.trans (HX2.out.trans (by repeat first | exact xe0 _ | assumption | refine xea ?_ _ | refine xed ?_ | refine xet ?_ (by assumption))))⟩
            case measure => show g.items.length + 1 - ((a : Int) + 1 + ((m : Int) + 1)).toNat < g.items.length + 1 - ((a : Int) + 1 + (m : Int)).toNat; omega
          case neg =>
            have HE2 : Hid ((lonG (costR g r) a (m + 1) = 0 ∧ e = -1) ∨ (lonG (costR g r) a (m + 1) ≠ 0 ∧ e = lonG (costR g r) a (m + 1))) := Lib.hid (by rw [HLM.out, if_neg hz]; exact HE.out)
            have i3 : (cz == 0) = false := by simpa using hz
            clear HLM HE hz
            go_wp2_with (first | (go_at_call 20; refine Calls.mono (CK.out _ ?_) ?_; (exact HG.out.ext (HS.out.ext.trans (by repeat first | exact xe0 _ | assumption | refine xea ?_ _ | refine xed ?_ | refine xet ?_ (by assumption)))); rintro e w2 ⟨rfl, hb⟩; have HX2 := Lib.hid (Ext.trans (a := wr) (by repeat first | exact xe0 _ | assumption | refine xea ?_ _ | refine xed ?_ | refine xet ?_ (by assumption)) hb); clear hb))
            go_roundw
            case rel => exact ⟨m + 1, e, by omega, rfl, rfl, HE2, Lib.hid (HS.out.next (HX2.out.trans (by repeat first | exact xe0 _ | assumption | refine xea ?_ _ | refine xed ?_ | refine xet ?_ (by assumption)))), Lib.hid (HX.out.trans (HX2.out.trans (by repeat first | exact xe0 _ | assumption | refine xea ?_ _ | refine xed ?_ | refine xet ?_ (by assumption))))⟩
            case measure => show g.items.length + 1 - ((a : Int) + 1 + ((m : Int) + 1)).toNat < g.items.length + 1 - ((a : Int) + 1 + (m : Int)).toNat; omega
end Go.Proofs.YtpkmapngdkkglaaGreatDoor
