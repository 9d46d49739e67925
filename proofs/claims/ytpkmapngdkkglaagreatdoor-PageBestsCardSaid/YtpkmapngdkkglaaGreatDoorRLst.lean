/-
  Walks: chapter 5: the reference's least costs.
-/
import Derived.Test.YtpkmapngdkkglaaGreatDoorRGrd
namespace Go.Proofs.YtpkmapngdkkglaaGreatDoor
open Go.RowKit
attribute [local go_sem ↓] Go.wp_at_zero Go.wp_at_succ

theorem Own.litZ (w : World) (z : Int) : Own (w.alloc (.cells #[.int .i64 z] 3)) w.heap.size (.slice (some ⟨w.heap.size, 0, none⟩) 1 1) [z] :=
  World.ownsRow_lit (e := 3) (size := 1) w #[.int .i64 z] 1 (Nat.le_refl _) (by unfold maxLen; omega) rfl
theorem Own.litZ2 (w : World) (o x : Obj) (z : Int) : Own (((w.alloc o).alloc x).alloc (.cells #[.int .i64 z] 3)) (w.heap.size + 1 + 1) (.slice (some ⟨w.heap.size + 1 + 1, 0, none⟩) 1 1) [z] := by
  have h := Own.litZ ((w.alloc o).alloc x) z
  rwa [World.size_alloc, World.size_alloc] at h
set_option maxRecDepth 100000 in
set_option maxHeartbeats 8000000 in
theorem rLeast_any (g : GT) (p : GA) (r : QT) (w : World) (hg : GR w p g) (hr : RightG g) (hq : chkQ r = 0) :
    Calls Tryz.prog 39 #[g.val p, r.val] w (RetS (lstTo (costR g r) g.items.length) w) := by
  have hn := hr.many
  have hs := cost_small hr hq
  have cC := fun W h a b hab hb => rCost_any g p r a b W h hab hb hr hq
  unfold costV at cC
  have HG := Lib.hid hg; have HSM := Lib.hid hs
  clear hg hr hq
  simp only [GT.val, QT.val] at *
  have CC := Lib.hid cC; clear cC
  go_enter Tryz.func39, Tryz.ntmps39
  have HS0 := Lib.hid ((BQ.start w #[.slice p.A g.items.length p.c, .slice p.B g.notes.length p.d] #[.int .i64 r.height, .int .i64 r.gap, .int .i64 r.widow, .int .i64 r.orphan]).next (((Ext.refl _).alloc (.cells #[.int .i64 0] 3))))
  have HO0 : Hid (Own _ (w.heap.size + 1 + 1) _ (lstTo (costR g r) 0)) := Lib.hid (Own.litZ2 w (.cells #[.slice p.A g.items.length p.c, .slice p.B g.notes.length p.d] 25) (.cells #[.int .i64 r.height, .int .i64 r.gap, .int .i64 r.widow, .int .i64 r.orphan] 27) 0)
  go_wp2
  go_loopw [5, 6] (fun v i wr => ∃ k : Nat, k ≤ g.items.length ∧ i = .int .i64 ((k : Int) + 1) ∧ Hid (Own wr (w.heap.size + 1 + 1) v (lstTo (costR g r) k)) ∧ Hid (BQ w #[.slice p.A g.items.length p.c, .slice p.B g.notes.length p.d] #[.int .i64 r.height, .int .i64 r.gap, .int .i64 r.widow, .int .i64 r.orphan] wr)) (fun _ i _ => g.items.length + 2 - (intOf i).toNat)
  case atStart => exact ⟨0, Nat.zero_le _, by simp, HO0, HS0⟩
  case round =>
    obtain ⟨k, hk, rfl, HO, HS⟩ := hrel
    clear HS0 HO0
    have hLL := lstTo_len (costR g r) k
    have HLN : Hid (lstTo (costR g r) (k + 1) = lstTo (costR g r) k ++ [minL (costR g r) (lstTo (costR g r) k) (k + 1) (k + 1)]) := Lib.hid rfl
    have HLB := Lib.hid (lst_bd HSM.out k hk)
    obtain ⟨g0, g1, gl0, ⟨q0, q1, q2, q3⟩, gl⟩ := HS.out.at
    by_cases hkn : k < g.items.length
    case neg =>
      obtain rfl : k = g.items.length := by omega
      have i1 : ¬ (g.items.length : Int) + 1 ≤ (g.items.length : Int) := by omega
      generalize lstTo (costR g r) g.items.length = L at *
      have hll : L.length ≤ 1000 := by omega
      obtain ⟨A, c, rfl, hc, hri⟩ := HO.out.form (by omega)
      have HSL := Lib.hid ((SL.of_own HO.out (by omega)).mono (base' := w.heap.size) (by omega))
      clear hc hri hll hLL HLN HLB
      go_wp2
      go_ret
      exact ⟨A, c, rfl, HSL.out.ext (by repeat first | exact xe0 _ | assumption | refine xea ?_ _ | refine xed ?_ | refine xet ?_ (by assumption)), HS.out.ext.trans (by repeat first | exact xe0 _ | assumption | refine xea ?_ _ | refine xed ?_ | refine xet ?_ (by assumption))⟩
    case pos =>
      have i1 : (k : Int) + 1 ≤ (g.items.length : Int) := by omega
      have HMB := Lib.hid (fun m hm => minL_bd HSM.out (b := k) hkn m hm)
      have HM0 : Hid (minL (costR g r) (lstTo (costR g r) k) (k + 1) 0 = -1) := Lib.hid rfl
      have HMS : Hid (∀ m, minL (costR g r) (lstTo (costR g r) k) (k + 1) (m + 1) = if 0 ≤ (lstTo (costR g r) k).getD m 0 ∧ (costR g r m (k + 1)).2 = 0 ∧ (minL (costR g r) (lstTo (costR g r) k) (k + 1) m < 0 ∨ (lstTo (costR g r) k).getD m 0 + (costR g r m (k + 1)).1 < minL (costR g r) (lstTo (costR g r) k) (k + 1) m) then (lstTo (costR g r) k).getD m 0 + (costR g r m (k + 1)).1 else minL (costR g r) (lstTo (costR g r) k) (k + 1) m) := Lib.hid fun m => rfl
      generalize lstTo (costR g r) k = L at *
      obtain ⟨A, c, rfl, hc, hri⟩ := HO.out.form (by omega)
      have HRI := Lib.hid hri
      have HLL : Hid (L.length = k + 1) := Lib.hid hLL
      clear hc hri hLL
      go_wp2
      have HO1 := Lib.hid (HO.out.ext (w' := wr) (by repeat first | exact xe0 _ | assumption | refine xea ?_ _ | refine xed ?_ | refine xet ?_ (by assumption)))
      have HRI1 := Lib.hid (HRI.out.ext (w' := wr) (by repeat first | exact xe0 _ | assumption | refine xea ?_ _ | refine xed ?_ | refine xet ?_ (by assumption)))
      have HS1 := Lib.hid (HS.out.next (by repeat first | exact xe0 _ | assumption | refine xea ?_ _ | refine xed ?_ | refine xet ?_ (by assumption)))
      have HX1 : Hid (Ext wr wr) := Lib.hid (Ext.refl _)
      obtain ⟨wa, rfl⟩ : ∃ x, x = wr := ⟨_, rfl⟩
      clear g0 g1 gl0 q0 q1 q2 q3 gl
      clear HS
      go_loopw [7, 8] (fun v i wr => ∃ (a : Nat) (e : Int), a ≤ k + 1 ∧ v = .int .i64 e ∧ i = .int .i64 (a : Int) ∧ -1 ≤ e ∧ e ≤ 1300000000 ∧ Hid (e = minL (costR g r) L (k + 1) a) ∧ Hid (BQ w #[.slice p.A g.items.length p.c, .slice p.B g.notes.length p.d] #[.int .i64 r.height, .int .i64 r.gap, .int .i64 r.widow, .int .i64 r.orphan] wr) ∧ Hid (Ext wa wr)) (fun _ i _ => k + 1 - (intOf i).toNat)
      case atStart => exact ⟨0, -1, by omega, rfl, rfl, by omega, by omega, Lib.hid HM0.out.symm, HS1, HX1⟩
      case round =>
        obtain ⟨a, e, ha, rfl, rfl, he1, he2, HE, HS, HX⟩ := hrel
        clear HS1 HX1 HM0
        obtain ⟨g0, g1, gl0, ⟨q0, q1, q2, q3⟩, gl⟩ := HS.out.at
        by_cases hlt : a < k + 1
        case neg =>
          obtain rfl : a = k + 1 := by omega
          have i2 : ¬ (k : Int) + 1 < (k : Int) + 1 := by omega
          have HL1 : Hid (lstTo (costR g r) (k + 1) = L ++ [e]) := Lib.hid (by rw [HLN.out, HE.out])
          have HLQ : Hid (L.length ≤ 1000) := Lib.hid (by have := HLL.out; omega)
          clear HMS HMB HLB
          go_wp2_with (first | (at_builtin; refine list_push rfl (.tmp 60) (.tmp 62) rfl (w.heap.size + 1 + 1) _ L rfl (HO1.out.ext (HX.out.trans (by repeat first | exact xe0 _ | assumption | refine xea ?_ _ | refine xed ?_ | refine xet ?_ (by assumption)))) wr.heap.size e rfl (by simp) (by have := HLQ.out; omega) (by have := HS.out.bq.lt; simp; omega) ?_; intro v' w' ho hg; have HO2 := Lib.hid ho; have HS2 := Lib.hid (HS.out.push (HO1.out.ext HX.out) (by repeat first | exact xe0 _ | assumption | refine xea ?_ _ | refine xed ?_ | refine xet ?_ (by assumption)) hg); clear ho hg))
          go_roundw
          case rel => exact ⟨k + 1, by omega, by go_num, Lib.hid (by rw [HL1.out]; exact HO2.out), HS2⟩
          case measure => simp [intOf] <;> omega
        case pos =>
          have i2 : (a : Int) < (k : Int) + 1 := by omega
          have hal : (a : Int) < (L.length : Int) := by have := HLL.out; omega
          obtain ⟨o1, o2⟩ := HLB.out a (by omega)
          obtain ⟨m1, m2⟩ := HMB.out (a + 1) (by omega)
          have HMA := Lib.hid (HMS.out a)
          obtain ⟨bb, bo, rfl, hbw, hbc⟩ := (HRI1.out.ext HX.out).2.2 (by omega)
          have ca := hbc a (by omega)
          have HBW := Lib.hid hbw
          generalize hq3 : minL (costR g r) L (k + 1) (a + 1) = e3 at *
          have HQ3 := Lib.hid hq3; clear hq3
          rw [← HE.out] at HMA
          have CK0 := fun W h => CC.out W h a (k + 1) (by omega) (by omega)
          have hcv := HSM.out a (k + 1) (by omega) (by omega)
          rw [Int.natCast_add, Int.natCast_one] at CK0
          generalize costR g r a (k + 1) = cs at *
          obtain ⟨cv, cz⟩ := cs
          simp only at CK0 HMA hcv
          obtain ⟨oa, hoa⟩ : ∃ oa, L.getD a 0 = oa := ⟨_, rfl⟩
          rw [hoa] at ca o1 o2 HMA
          have CK := Lib.hid CK0; have HCA := Lib.hid ca; have HCV := Lib.hid hcv
          have ho3 : oa ≤ 1300000000 := by omega
          have hm3 : e3 ≤ 1300000000 := by omega
          clear hbc hbw hoa CK0 hcv m2 o2
          by_cases h1 : oa < 0
          case pos =>
            have HE3 : Hid (e3 = e) := Lib.hid (by rw [HMA.out, if_neg (by omega)])
            clear HMA
            go_wp2
            go_roundw
            case rel => exact ⟨a + 1, e, by omega, rfl, by go_num, he1, he2, Lib.hid (by rw [HQ3.out]; exact HE3.out.symm), Lib.hid (HS.out.next (by repeat first | exact xe0 _ | assumption | refine xea ?_ _ | refine xed ?_ | refine xet ?_ (by assumption))), Lib.hid (HX.out.trans (by repeat first | exact xe0 _ | assumption | refine xea ?_ _ | refine xed ?_ | refine xet ?_ (by assumption)))⟩
            case measure => simp [intOf] <;> omega
          case neg =>
          by_cases h2 : cz = 0
          case neg =>
            have HE3 : Hid (e3 = e) := Lib.hid (by rw [HMA.out, if_neg (fun h => h2 h.2.1)])
            have i3 : (cz == 0) = false := by simpa using h2
            clear HMA h2 HCV
            go_wp2_with (first | (go_at_call 20; refine Calls.mono (CK.out _ ?_) ?_; (exact HG.out.ext (HS.out.ext.trans (by repeat first | exact xe0 _ | assumption | refine xea ?_ _ | refine xed ?_ | refine xet ?_ (by assumption)))); rintro e2 w2 ⟨rfl, hb⟩; have HX2 := Lib.hid (Ext.trans (a := wr) (by repeat first | exact xe0 _ | assumption | refine xea ?_ _ | refine xed ?_ | refine xet ?_ (by assumption)) hb); have ca2 := (HX2.out.cell (p := ⟨bb, bo + a, none⟩) HBW.out).trans HCA.out; clear hb))
            go_roundw
            case rel => exact ⟨a + 1, e, by omega, rfl, by go_num, he1, he2, Lib.hid (by rw [HQ3.out]; exact HE3.out.symm), Lib.hid (HS.out.next (HX2.out.trans (by repeat first | exact xe0 _ | assumption | refine xea ?_ _ | refine xed ?_ | refine xet ?_ (by assumption)))), Lib.hid (HX.out.trans (HX2.out.trans (by repeat first | exact xe0 _ | assumption | refine xea ?_ _ | refine xed ?_ | refine xet ?_ (by assumption))))⟩
            case measure => simp [intOf] <;> omega
          case pos =>
            obtain ⟨v1, v2⟩ := HCV.out h2
            subst h2
            by_cases h3 : e < 0 ∨ oa + cv < e
            case neg =>
              have HE3 : Hid (e3 = e) := Lib.hid (by rw [HMA.out, if_neg (fun h => h3 h.2.2)])
              have i3 : ¬ e < 0 := fun h => h3 (.inl h)
              have i4 : ¬ oa + cv < e := fun h => h3 (.inr h)
              clear HMA h3 HCV
              go_wp2_with (first | (go_at_call 20; refine Calls.mono (CK.out _ ?_) ?_; (exact HG.out.ext (HS.out.ext.trans (by repeat first | exact xe0 _ | assumption | refine xea ?_ _ | refine xed ?_ | refine xet ?_ (by assumption)))); rintro e2 w2 ⟨rfl, hb⟩; have HX2 := Lib.hid (Ext.trans (a := wr) (by repeat first | exact xe0 _ | assumption | refine xea ?_ _ | refine xed ?_ | refine xet ?_ (by assumption)) hb); have ca2 := (HX2.out.cell (p := ⟨bb, bo + a, none⟩) HBW.out).trans HCA.out; clear hb))
              go_roundw
              case rel => exact ⟨a + 1, e, by omega, rfl, by go_num, he1, he2, Lib.hid (by rw [HQ3.out]; exact HE3.out.symm), Lib.hid (HS.out.next (HX2.out.trans (by repeat first | exact xe0 _ | assumption | refine xea ?_ _ | refine xed ?_ | refine xet ?_ (by assumption)))), Lib.hid (HX.out.trans (HX2.out.trans (by repeat first | exact xe0 _ | assumption | refine xea ?_ _ | refine xed ?_ | refine xet ?_ (by assumption))))⟩
              case measure => simp [intOf] <;> omega
            case pos =>
              have HE3 : Hid (e3 = oa + cv) := Lib.hid (by rw [HMA.out, if_pos ⟨by omega, rfl, h3⟩])
              have hb3 : oa + cv ≤ 1300000000 := by have := HE3.out; omega
              clear HMA HCV
              by_cases h4 : e < 0
              case pos =>
                clear h3
                go_wp2_with (first | (go_at_call 20; refine Calls.mono (CK.out _ ?_) ?_; (exact HG.out.ext (HS.out.ext.trans (by repeat first | exact xe0 _ | assumption | refine xea ?_ _ | refine xed ?_ | refine xet ?_ (by assumption)))); rintro e2 w2 ⟨rfl, hb⟩; have HX2 := Lib.hid (Ext.trans (a := wr) (by repeat first | exact xe0 _ | assumption | refine xea ?_ _ | refine xed ?_ | refine xet ?_ (by assumption)) hb); have ca2 := (HX2.out.cell (p := ⟨bb, bo + a, none⟩) HBW.out).trans HCA.out; clear hb))
                go_roundw
                case rel => exact ⟨a + 1, oa + cv, by omega, rfl, by go_num, by omega, hb3, Lib.hid (by rw [HQ3.out]; exact HE3.out.symm), Lib.hid (HS.out.next (HX2.out.trans (by repeat first | exact xe0 _ | assumption | refine xea ?_ _ | refine xed ?_ | refine xet ?_ (by assumption)))), Lib.hid (HX.out.trans (HX2.out.trans (by repeat first | exact xe0 _ | assumption | refine xea ?_ _ | refine xed ?_ | refine xet ?_ (by assumption))))⟩
                case measure => simp [intOf] <;> omega
              case neg =>
                have i5 : oa + cv < e := by omega
                clear h3
                go_wp2_with (first | (go_at_call 20; refine Calls.mono (CK.out _ ?_) ?_; (exact HG.out.ext (HS.out.ext.trans (by repeat first | exact xe0 _ | assumption | refine xea ?_ _ | refine xed ?_ | refine xet ?_ (by assumption)))); rintro e2 w2 ⟨rfl, hb⟩; have HX2 := Lib.hid (Ext.trans (a := wr) (by repeat first | exact xe0 _ | assumption | refine xea ?_ _ | refine xed ?_ | refine xet ?_ (by assumption)) hb); have ca2 := (HX2.out.cell (p := ⟨bb, bo + a, none⟩) HBW.out).trans HCA.out; clear hb))
                go_roundw
                case rel => exact ⟨a + 1, oa + cv, by omega, rfl, by go_num, by omega, hb3, Lib.hid (by rw [HQ3.out]; exact HE3.out.symm), Lib.hid (HS.out.next (HX2.out.trans (by repeat first | exact xe0 _ | assumption | refine xea ?_ _ | refine xed ?_ | refine xet ?_ (by assumption)))), Lib.hid (HX.out.trans (HX2.out.trans (by repeat first | exact xe0 _ | assumption | refine xea ?_ _ | refine xed ?_ | refine xet ?_ (by assumption))))⟩
                case measure => simp [intOf] <;> omega
end Go.Proofs.YtpkmapngdkkglaaGreatDoor
