/-
  Walks: chapter 5: the reference's check of labels.
-/
import Derived.Test.YtpkmapngdkkglaaGreatDoorRBrk
namespace Go.Proofs.YtpkmapngdkkglaaGreatDoor
open Go.RowKit
attribute [local go_sem ↓] Go.wp_at_zero Go.wp_at_succ

set_option maxRecDepth 100000 in
set_option maxHeartbeats 8000000 in
theorem rLabels_any (g : GT) (p : GA) (r : QT) (A : Option Addr) (c : Nat) (l : List Int) (w : World) (hg : GR w p g) (hl : RI w A l.length l) (hr : RightG g) (hq : chkQ r = 0) :
    Calls Tryz.prog 41 #[g.val p, r.val, .slice A l.length c] w (Ret (pairGV (clR (costR g r) g.items.length l)) w) := by
  have hbig := hl.big
  have hn := hr.many
  have hs := cost_small hr hq
  have cC := fun W h a b hab hb => rCost_any g p r a b W h hab hb hr hq
  unfold costV at cC
  have HR : Hid (clR (costR g r) g.items.length l = if l.length ≠ g.items.length + 1 then (0, 10) else if (idxOf badL l l.length).isSome = true then (0, 2) else if l.getD 0 0 ≠ 0 then (0, 22) else if labOk (costR g r) g.items.length l = false then (0, 22) else (l.getD g.items.length 0, 0)) := Lib.hid rfl
  have HLO := Lib.hid (labOk_iff (cs := costR g r) (n := g.items.length) (lab := l))
  generalize labOk (costR g r) g.items.length l = ok at *
  have HG := Lib.hid hg; have HSM := Lib.hid hs
  clear hg hs hr hq
  unfold pairGV
  generalize clR (costR g r) g.items.length l = V at *
  simp only [GT.val, QT.val] at *
  have CC := Lib.hid cC; clear cC
  by_cases hln : l.length = g.items.length + 1
  case neg =>
    have HV : Hid (V = (0, 10)) := Lib.hid (by rw [HR.out, if_pos hln])
    have i1 : ((l.length : Int) != (g.items.length : Int) + 1) = true := by rw [bne_iff_ne]; omega
    clear HR HLO hln
    go_enter Tryz.func41, Tryz.ntmps41
    go_wp2
    go_ret2
    exact Ret.mk' (by rw [HV.out]; rfl) (by repeat first | exact xe0 _ | assumption | refine xea ?_ _ | refine xed ?_ | refine xet ?_ (by assumption))
  case pos =>
  have HV := HR.out
  rw [if_neg (by omega), hln] at HV
  have HR1 := Lib.hid HV; clear HR HV
  rw [hln] at hl ⊢
  have HL := Lib.hid hl; clear hl hbig hln
  have HBI : Hid ((idxOf badL l (g.items.length + 1)).isSome = true ↔ ∃ k, k < g.items.length + 1 ∧ badL (l.getD k 0) = true) := Lib.hid (idxOf_isSome _ _ _)
  have HBL : Hid (∀ z, badL z = true ↔ ¬ (0 ≤ z ∧ z ≤ 1000000000000)) := Lib.hid fun z => by
    unfold badL; rw [Bool.not_eq_true', ← Bool.not_eq_true, Bool.and_eq_true, decide_eq_true_eq, decide_eq_true_eq]
  go_enter Tryz.func41, Tryz.ntmps41
  have HS0 := Lib.hid (BQ.start w #[.slice p.A g.items.length p.c, .slice p.B g.notes.length p.d] #[.int .i64 r.height, .int .i64 r.gap, .int .i64 r.widow, .int .i64 r.orphan])
  go_wp2
  go_loopw [8] (fun i wr => ∃ k : Nat, k ≤ g.items.length + 1 ∧ i = .int .i64 (k : Int) ∧ Hid (∀ j, j < k → 0 ≤ l.getD j 0 ∧ l.getD j 0 ≤ 1000000000000) ∧ Hid (BQ w #[.slice p.A g.items.length p.c, .slice p.B g.notes.length p.d] #[.int .i64 r.height, .int .i64 r.gap, .int .i64 r.widow, .int .i64 r.orphan] wr)) (fun i _ => g.items.length + 1 - (intOf i).toNat)
  case atStart => exact ⟨0, Nat.zero_le _, rfl, Lib.hid (fun j hj => absurd hj (by omega)), HS0⟩
  case round =>
    obtain ⟨k, hk, rfl, H0, HS⟩ := hrel
    clear HS0
    obtain ⟨g0, g1, gl0, ⟨q0, q1, q2, q3⟩, gl⟩ := HS.out.at
    by_cases hlt : k < g.items.length + 1
    case pos =>
      obtain ⟨bb, bo, rfl, hbb, hbc⟩ := (HL.out.ext HS.out.ext).2.2 (by omega)
      have hbk := hbc k hlt
      have hki : (k : Int) < (g.items.length : Int) + 1 := by omega
      obtain ⟨z, hz⟩ : ∃ z, l.getD k 0 = z := ⟨_, rfl⟩
      rw [hz] at hbk
      clear hbc
      by_cases h1 : 0 ≤ z ∧ z ≤ 1000000000000
      case neg =>
        have HV : Hid (V = (0, 2)) := Lib.hid (by
          rw [HR1.out, if_pos (HBI.out.2 ⟨k, hlt, by rw [hz]; exact (HBL.out z).2 h1⟩)])
        have CW := Lib.hid (fun W => bWithin_no z 0 1000000000000 W h1)
        clear h1 hz HR1 HLO
        go_wp2_with (first | (go_at_call 58; refine Calls.mono (CW.out _) ?_; rintro e w8 ⟨rfl, rfl⟩))
        go_ret2
        exact Ret.mk' (by rw [HV.out]; rfl) (HS.out.ext.trans (by repeat first | exact xe0 _ | assumption | refine xea ?_ _ | refine xed ?_ | refine xet ?_ (by assumption)))
      case pos =>
        have HN : Hid (∀ j, j < k + 1 → 0 ≤ l.getD j 0 ∧ l.getD j 0 ≤ 1000000000000) := Lib.hid fun j hj => by
          rcases Nat.lt_or_ge j k with h9 | h9
          · exact H0.out j h9
          · obtain rfl : j = k := by omega
            rw [hz]; exact h1
        have CW := Lib.hid (fun W => bWithin_yes z 0 1000000000000 W h1)
        clear h1 hz HR1 HLO
        go_wp2_with (first | (go_at_call 58; refine Calls.mono (CW.out _) ?_; rintro e w8 ⟨rfl, rfl⟩))
        go_roundw
        case rel => exact ⟨k + 1, by omega, by go_num, HN, Lib.hid (HS.out.next (by repeat first | exact xe0 _ | assumption | refine xea ?_ _ | refine xed ?_ | refine xet ?_ (by assumption)))⟩
        case measure => simp [intOf] <;> omega
    case neg =>
      obtain rfl : g.items.length + 1 = k := by omega
      have hki : ¬ (g.items.length : Int) + 1 < (g.items.length : Int) + 1 := by omega
      have HV := HR1.out
      rw [if_neg (fun h => by obtain ⟨j, hj, hb⟩ := HBI.out.1 h; exact (HBL.out _).1 hb (H0.out j hj))] at HV
      have HR2 := Lib.hid HV; clear HR1 HV
      obtain ⟨bb, bo, rfl, hbb, hbc⟩ := (HL.out.ext HS.out.ext).2.2 (by omega)
      have c0 := hbc 0 (by omega)
      rw [Nat.add_zero] at c0
      have hk0 : (0 : Int) < (g.items.length : Int) + 1 := by omega
      clear hbc
      by_cases h0 : l.getD 0 0 = 0
      case neg =>
        have HV : Hid (V = (0, 22)) := Lib.hid (by rw [HR2.out, if_pos h0])
        have i1 : (l.getD 0 0 != 0) = true := by simpa using h0
        generalize l.getD 0 0 = z at *
        clear h0 HR2 HLO
        go_wp2
        go_ret2
        exact Ret.mk' (by rw [HV.out]; rfl) (HS.out.ext.trans (by repeat first | exact xe0 _ | assumption | refine xea ?_ _ | refine xed ?_ | refine xet ?_ (by assumption)))
      case pos =>
      rw [h0] at c0
      have HV := HR2.out
      rw [if_neg (by simpa using h0)] at HV
      have HR3 := Lib.hid HV; clear HR2 HV h0
      go_wp2
      have HS1 := Lib.hid (HS.out.next (by repeat first | exact xe0 _ | assumption | refine xea ?_ _ | refine xed ?_ | refine xet ?_ (by assumption)))
      clear g0 g1 gl0 q0 q1 q2 q3 gl
      clear c0 HS
      go_loopw [9] (fun i wr => ∃ a : Nat, a ≤ g.items.length ∧ i = .int .i64 (a : Int) ∧ Hid (∀ a' b', a' < a → a' < b' → b' ≤ g.items.length → (costR g r a' b').2 = 0 → l.getD b' 0 ≤ l.getD a' 0 + (costR g r a' b').1) ∧ Hid (BQ w #[.slice p.A g.items.length p.c, .slice p.B g.notes.length p.d] #[.int .i64 r.height, .int .i64 r.gap, .int .i64 r.widow, .int .i64 r.orphan] wr)) (fun i _ => g.items.length - (intOf i).toNat)
      case atStart => exact ⟨0, Nat.zero_le _, rfl, Lib.hid (fun a' b' hj => absurd hj (by omega)), HS1⟩
      case round =>
        obtain ⟨a, ha, rfl, HA, HS⟩ := hrel
        clear HS1
        obtain ⟨g0, g1, gl0, ⟨q0, q1, q2, q3⟩, gl⟩ := HS.out.at
        by_cases han : a < g.items.length
        case neg =>
          obtain rfl : g.items.length = a := by omega
          have hok : ok = true := HLO.out.2 fun a' b' h1 h2 h3 => HA.out a' b' (by omega) h1 h2 h3
          have HV : Hid (V = (l.getD g.items.length 0, 0)) := Lib.hid (by rw [HR3.out, if_neg (by rw [hok]; decide)])
          obtain ⟨b9, o9, he9, _, hbc⟩ := (HL.out.ext HS.out.ext).2.2 (by omega)
          cases he9
          have c0 := hbc g.items.length (by omega)
          have hk1 : (g.items.length : Int) < (g.items.length : Int) + 1 := by omega
          have hk2 : (0 : Int) ≤ (g.items.length : Int) := by omega
          generalize l.getD g.items.length 0 = z at *
          clear hbc hok HR3 HLO HA
          go_wp2
          go_ret2
          exact Ret.mk' (by rw [HV.out]; rfl) (HS.out.ext.trans (by repeat first | exact xe0 _ | assumption | refine xea ?_ _ | refine xed ?_ | refine xet ?_ (by assumption)))
        case pos =>
          have hai : (a : Int) < (g.items.length : Int) := by omega
          go_wp2
          have HS1 := Lib.hid (HS.out.next (by repeat first | exact xe0 _ | assumption | refine xea ?_ _ | refine xed ?_ | refine xet ?_ (by assumption)))
          clear g0 g1 gl0 q0 q1 q2 q3 gl
          clear HS
          go_loopw [10] (fun i wr => ∃ b : Nat, a < b ∧ b ≤ g.items.length + 1 ∧ i = .int .i64 (b : Int) ∧ Hid (∀ b', a < b' → b' < b → (costR g r a b').2 = 0 → l.getD b' 0 ≤ l.getD a 0 + (costR g r a b').1) ∧ Hid (BQ w #[.slice p.A g.items.length p.c, .slice p.B g.notes.length p.d] #[.int .i64 r.height, .int .i64 r.gap, .int .i64 r.widow, .int .i64 r.orphan] wr)) (fun i _ => g.items.length + 1 - (intOf i).toNat)
          case atStart => exact ⟨a + 1, by omega, by omega, by go_num, Lib.hid (fun b' h1 h2 => absurd h1 (by omega)), HS1⟩
          case round =>
            obtain ⟨b, hab, hb, rfl, HB, HS⟩ := hrel
            clear HS1
            obtain ⟨g0, g1, gl0, ⟨q0, q1, q2, q3⟩, gl⟩ := HS.out.at
            by_cases hbn : b ≤ g.items.length
            case neg =>
              obtain rfl : g.items.length + 1 = b := by omega
              have hb1 : ¬ (g.items.length : Int) + 1 ≤ (g.items.length : Int) := by omega
              go_wp2
              go_roundw
              case rel => exact ⟨a + 1, by omega, by go_num, Lib.hid (fun a' b' h1 h2 h3 h4 => by
                rcases Nat.lt_or_ge a' a with h9 | h9
                · exact HA.out a' b' h9 h2 h3 h4
                · obtain rfl : a' = a := by omega
                  exact HB.out b' h2 (by omega) h4), Lib.hid (HS.out.next (by repeat first | exact xe0 _ | assumption | refine xea ?_ _ | refine xed ?_ | refine xet ?_ (by assumption)))⟩
              case measure => simp [intOf] <;> omega
            case pos =>
              have hbi : (b : Int) ≤ (g.items.length : Int) := by omega
              have hbi2 : (b : Int) < (g.items.length : Int) + 1 := by omega
              have hai2 : (a : Int) < (g.items.length : Int) + 1 := by omega
              obtain ⟨b9, o9, he9, hbr, hbc⟩ := (HL.out.ext HS.out.ext).2.2 (by omega)
              cases he9
              have ca := hbc a (by omega)
              have cb := hbc b (by omega)
              have CK := Lib.hid (fun W h => CC.out W h a b hab hbn)
              have HNX : Hid ((costR g r a b).2 = 0 → ¬ l.getD b 0 ≤ l.getD a 0 + (costR g r a b).1 → ok = false) := Lib.hid fun h1 h2 => by
                rw [← Bool.not_eq_true]
                exact fun h3 => h2 (HLO.out.1 h3 a b hab hbn h1)
              have HBX : Hid ((costR g r a b).2 ≠ 0 ∨ l.getD b 0 ≤ l.getD a 0 + (costR g r a b).1 → ∀ b', a < b' → b' < b + 1 → (costR g r a b').2 = 0 → l.getD b' 0 ≤ l.getD a 0 + (costR g r a b').1) := Lib.hid fun h b' h1 h2 h3 => by
                rcases Nat.lt_or_ge b' b with h9 | h9
                · exact HB.out b' h1 h9 h3
                · obtain rfl : b' = b := by omega
                  rcases h with h | h
                  · exact absurd h3 h
                  · exact h
              have hcv : (costR g r a b).2 = 0 → 0 ≤ (costR g r a b).1 ∧ (costR g r a b).1 ≤ 6000000 := fun h => HSM.out a b hab hbn h
              obtain ⟨la1, la2⟩ := H0.out a (by omega)
              generalize l.getD a 0 = la at *
              generalize l.getD b 0 = lb at *
              generalize costR g r a b = cs at *
              obtain ⟨cv, cz⟩ := cs
              simp only at HNX HBX hcv CK
              have HCV := Lib.hid hcv
              have HHA := Lib.hid ca; have HHB := Lib.hid cb; have HBWr := Lib.hid hbr
              clear hbc hcv
              by_cases h3 : cz = 0
              case neg =>
                have HN := Lib.hid (HBX.out (.inl h3))
                have i3 : (cz == 0) = false := by simpa using h3
                clear h3 HNX HBX HCV
                go_upto_region 17 with (first | (go_at_call 20; refine Calls.mono (CK.out _ ?_) ?_; (exact HG.out.ext (HS.out.ext.trans (by repeat first | exact xe0 _ | assumption | refine xea ?_ _ | refine xed ?_ | refine xet ?_ (by assumption)))); rintro e w2 ⟨rfl, hb⟩; have HX2 := Lib.hid (Ext.trans (a := wr) (by repeat first | exact xe0 _ | assumption | refine xea ?_ _ | refine xed ?_ | refine xet ?_ (by assumption)) hb); clear g0 g1 gl0 q0 q1 q2 q3 gl; clear hb ca cb))
                refine wp_region_steady (Ext _) [?_, ?_, ?_, ?_, ?_, ?_, ?_, ?_, ?_, ?_, ?_, ?_, ?_, ?_, ?_] (by kernel_rfl) (by kernel_rfl) rfl (Ext.refl _).drew ?_ ?_
                rotate_left 15
                · refine StepsT.cons (fun W hW => ?_) ?_
                  · skip; first | (refine StepT.off rfl hW ?_; rfl) | (refine StepT.go rfl ?_; go_simp; first | (refine ⟨?_, hW⟩; rfl))
                  simp only [Act.put, List.setIfInBounds_toArray, List.set_cons_zero, List.set_cons_succ]
                  refine StepsT.cons (fun W hW => ?_) ?_
                  · skip; first | (refine StepT.off rfl hW ?_; rfl) | (refine StepT.go rfl ?_; go_simp; first | (refine ⟨?_, hW⟩; rfl))
                  simp only [Act.put, List.setIfInBounds_toArray, List.set_cons_zero, List.set_cons_succ]
                  refine StepsT.cons (fun W hW => ?_) ?_
                  · skip; first | (refine StepT.off rfl hW ?_; rfl) | (refine StepT.go rfl ?_; go_simp; first | (refine ⟨?_, hW⟩; rfl))
                  simp only [Act.put, List.setIfInBounds_toArray, List.set_cons_zero, List.set_cons_succ]
                  refine StepsT.cons (fun W hW => ?_) ?_
                  · skip; first | (refine StepT.off rfl hW ?_; rfl) | (refine StepT.go rfl ?_; go_simp; first | (refine ⟨?_, hW⟩; rfl))
                  simp only [Act.put, List.setIfInBounds_toArray, List.set_cons_zero, List.set_cons_succ]
                  refine StepsT.cons (fun W hW => ?_) ?_
                  · skip; first | (refine StepT.off rfl hW ?_; rfl) | (refine StepT.go rfl ?_; go_simp; first | (refine ⟨?_, hW⟩; rfl))
                  simp only [Act.put, List.setIfInBounds_toArray, List.set_cons_zero, List.set_cons_succ]
                  refine StepsT.cons (fun W hW => ?_) ?_
                  · skip; first | (refine StepT.off rfl hW ?_; rfl) | (refine StepT.go rfl ?_; go_simp; first | (refine ⟨?_, hW⟩; rfl))
                  simp only [Act.put, List.setIfInBounds_toArray, List.set_cons_zero, List.set_cons_succ]
                  refine StepsT.cons (fun W hW => ?_) ?_
                  · skip; first | (refine StepT.off rfl hW ?_; rfl) | (refine StepT.go rfl ?_; go_simp; first | (refine ⟨?_, hW⟩; rfl))
                  simp only [Act.put, List.setIfInBounds_toArray, List.set_cons_zero, List.set_cons_succ]
                  refine StepsT.cons (fun W hW => ?_) ?_
                  · skip; first | (refine StepT.off rfl hW ?_; rfl) | (refine StepT.go rfl ?_; go_simp; first | (refine ⟨?_, hW⟩; rfl))
                  simp only [Act.put, List.setIfInBounds_toArray, List.set_cons_zero, List.set_cons_succ]
                  refine StepsT.cons (fun W hW => ?_) ?_
                  · skip; first | (refine StepT.off rfl hW ?_; rfl) | (refine StepT.go rfl ?_; go_simp; first | (refine ⟨?_, hW⟩; rfl))
                  simp only [Act.put, List.setIfInBounds_toArray, List.set_cons_zero, List.set_cons_succ]
                  refine StepsT.cons (fun W hW => ?_) ?_
                  · skip; first | (refine StepT.off rfl hW ?_; rfl) | (refine StepT.go rfl ?_; go_simp; first | (refine ⟨?_, hW⟩; rfl))
                  simp only [Act.put, List.setIfInBounds_toArray, List.set_cons_zero, List.set_cons_succ]
                  refine StepsT.cons (fun W hW => ?_) ?_
                  · skip; first | (refine StepT.off rfl hW ?_; rfl) | (refine StepT.go rfl ?_; go_simp; first | (refine ⟨?_, hW⟩; rfl))
                  simp only [Act.put, List.setIfInBounds_toArray, List.set_cons_zero, List.set_cons_succ]
                  refine StepsT.cons (fun W hW => ?_) ?_
                  · skip; first | (refine StepT.off rfl hW ?_; rfl) | (refine StepT.go rfl ?_; go_simp; first | (refine ⟨?_, hW⟩; rfl))
                  simp only [Act.put, List.setIfInBounds_toArray, List.set_cons_zero, List.set_cons_succ]
                  refine StepsT.cons (fun W hW => ?_) ?_
                  · skip; first | (refine StepT.off rfl hW ?_; rfl) | (refine StepT.go rfl ?_; go_simp; first | (refine ⟨?_, hW⟩; rfl))
                  simp only [Act.put, List.setIfInBounds_toArray, List.set_cons_zero, List.set_cons_succ]
                  refine StepsT.cons (fun W hW => ?_) ?_
                  · skip; first | (refine StepT.off rfl hW ?_; rfl) | (refine StepT.go rfl ?_; go_simp; first | (refine ⟨?_, hW⟩; rfl))
                  simp only [Act.put, List.setIfInBounds_toArray, List.set_cons_zero, List.set_cons_succ]
                  refine StepsT.cons (fun W hW => ?_) ?_
                  · skip; first | (refine StepT.off rfl hW ?_; rfl) | (refine StepT.go rfl ?_; go_simp; first | (refine ⟨?_, hW⟩; rfl))
                  simp only [Act.put, List.setIfInBounds_toArray, List.set_cons_zero, List.set_cons_succ]
                  trivial
                intro W hW
                simp only [putAll, Act.put, List.setIfInBounds_toArray, List.set_cons_zero, List.set_cons_succ]
                go_wp2
                go_roundw
                case rel => exact ⟨b + 1, by omega, by omega, by go_num, HN, Lib.hid (HS.out.next (HX2.out.trans (Ext.trans hW (by repeat first | exact xe0 _ | assumption | refine xea ?_ _ | refine xed ?_ | refine xet ?_ (by assumption)))))⟩
                case measure => simp [intOf] <;> omega
              case pos =>
                obtain ⟨v1, v2⟩ := HCV.out h3
                subst h3
                have hws : IntKind.i64.wrap (la + cv) = la + cv := by rw [IntWalk.i64_in _ (by omega)]
                by_cases h4 : lb ≤ la + cv
                case pos =>
                  have HN := Lib.hid (HBX.out (.inr h4))
                  have i4 : ¬ la + cv < lb := by omega
                  clear h4 HNX HBX HCV
                  go_upto_region 17 with (first | (go_at_call 20; refine Calls.mono (CK.out _ ?_) ?_; (exact HG.out.ext (HS.out.ext.trans (by repeat first | exact xe0 _ | assumption | refine xea ?_ _ | refine xed ?_ | refine xet ?_ (by assumption)))); rintro e w2 ⟨rfl, hb⟩; have HX2 := Lib.hid (Ext.trans (a := wr) (by repeat first | exact xe0 _ | assumption | refine xea ?_ _ | refine xed ?_ | refine xet ?_ (by assumption)) hb); clear g0 g1 gl0 q0 q1 q2 q3 gl; clear hb ca cb))
                  refine wp_region_steady (Ext _) [?_, ?_, ?_, ?_, ?_, ?_, ?_, ?_, ?_, ?_, ?_, ?_, ?_, ?_, ?_] (by kernel_rfl) (by kernel_rfl) rfl (Ext.refl _).drew ?_ ?_
                  rotate_left 15
                  · refine StepsT.cons (fun W hW => ?_) ?_
                    · have ca := ((HX2.out.trans hW).cell (p := ⟨bb, bo + a, none⟩) HBWr.out).trans HHA.out; have cb := ((HX2.out.trans hW).cell (p := ⟨bb, bo + b, none⟩) HBWr.out).trans HHB.out; first | (refine StepT.off rfl hW ?_; rfl) | (refine StepT.go rfl ?_; go_simp; first | (refine ⟨?_, hW⟩; rfl))
                    simp only [Act.put, List.setIfInBounds_toArray, List.set_cons_zero, List.set_cons_succ]
                    refine StepsT.cons (fun W hW => ?_) ?_
                    · have ca := ((HX2.out.trans hW).cell (p := ⟨bb, bo + a, none⟩) HBWr.out).trans HHA.out; have cb := ((HX2.out.trans hW).cell (p := ⟨bb, bo + b, none⟩) HBWr.out).trans HHB.out; first | (refine StepT.off rfl hW ?_; rfl) | (refine StepT.go rfl ?_; go_simp; first | (refine ⟨?_, hW⟩; rfl))
                    simp only [Act.put, List.setIfInBounds_toArray, List.set_cons_zero, List.set_cons_succ]
                    refine StepsT.cons (fun W hW => ?_) ?_
                    · have ca := ((HX2.out.trans hW).cell (p := ⟨bb, bo + a, none⟩) HBWr.out).trans HHA.out; have cb := ((HX2.out.trans hW).cell (p := ⟨bb, bo + b, none⟩) HBWr.out).trans HHB.out; first | (refine StepT.off rfl hW ?_; rfl) | (refine StepT.go rfl ?_; go_simp; first | (refine ⟨?_, hW⟩; rfl))
                    simp only [Act.put, List.setIfInBounds_toArray, List.set_cons_zero, List.set_cons_succ]
                    refine StepsT.cons (fun W hW => ?_) ?_
                    · have ca := ((HX2.out.trans hW).cell (p := ⟨bb, bo + a, none⟩) HBWr.out).trans HHA.out; have cb := ((HX2.out.trans hW).cell (p := ⟨bb, bo + b, none⟩) HBWr.out).trans HHB.out; first | (refine StepT.off rfl hW ?_; rfl) | (refine StepT.go rfl ?_; go_simp; first | (refine ⟨?_, hW⟩; rfl))
                    simp only [Act.put, List.setIfInBounds_toArray, List.set_cons_zero, List.set_cons_succ]
                    refine StepsT.cons (fun W hW => ?_) ?_
                    · have ca := ((HX2.out.trans hW).cell (p := ⟨bb, bo + a, none⟩) HBWr.out).trans HHA.out; have cb := ((HX2.out.trans hW).cell (p := ⟨bb, bo + b, none⟩) HBWr.out).trans HHB.out; first | (refine StepT.off rfl hW ?_; rfl) | (refine StepT.go rfl ?_; go_simp; first | (refine ⟨?_, hW⟩; rfl))
                    simp only [Act.put, List.setIfInBounds_toArray, List.set_cons_zero, List.set_cons_succ]
                    refine StepsT.cons (fun W hW => ?_) ?_
                    · have ca := ((HX2.out.trans hW).cell (p := ⟨bb, bo + a, none⟩) HBWr.out).trans HHA.out; have cb := ((HX2.out.trans hW).cell (p := ⟨bb, bo + b, none⟩) HBWr.out).trans HHB.out; first | (refine StepT.off rfl hW ?_; rfl) | (refine StepT.go rfl ?_; go_simp; first | (refine ⟨?_, hW⟩; rfl))
                    simp only [Act.put, List.setIfInBounds_toArray, List.set_cons_zero, List.set_cons_succ]
                    refine StepsT.cons (fun W hW => ?_) ?_
                    · have ca := ((HX2.out.trans hW).cell (p := ⟨bb, bo + a, none⟩) HBWr.out).trans HHA.out; have cb := ((HX2.out.trans hW).cell (p := ⟨bb, bo + b, none⟩) HBWr.out).trans HHB.out; first | (refine StepT.off rfl hW ?_; rfl) | (refine StepT.go rfl ?_; go_simp; first | (refine ⟨?_, hW⟩; rfl))
                    simp only [Act.put, List.setIfInBounds_toArray, List.set_cons_zero, List.set_cons_succ]
                    refine StepsT.cons (fun W hW => ?_) ?_
                    · have ca := ((HX2.out.trans hW).cell (p := ⟨bb, bo + a, none⟩) HBWr.out).trans HHA.out; have cb := ((HX2.out.trans hW).cell (p := ⟨bb, bo + b, none⟩) HBWr.out).trans HHB.out; first | (refine StepT.off rfl hW ?_; rfl) | (refine StepT.go rfl ?_; go_simp; first | (refine ⟨?_, hW⟩; rfl))
                    simp only [Act.put, List.setIfInBounds_toArray, List.set_cons_zero, List.set_cons_succ]
                    refine StepsT.cons (fun W hW => ?_) ?_
                    · have ca := ((HX2.out.trans hW).cell (p := ⟨bb, bo + a, none⟩) HBWr.out).trans HHA.out; have cb := ((HX2.out.trans hW).cell (p := ⟨bb, bo + b, none⟩) HBWr.out).trans HHB.out; first | (refine StepT.off rfl hW ?_; rfl) | (refine StepT.go rfl ?_; go_simp; first | (refine ⟨?_, hW⟩; rfl))
                    simp only [Act.put, List.setIfInBounds_toArray, List.set_cons_zero, List.set_cons_succ]
                    refine StepsT.cons (fun W hW => ?_) ?_
                    · have ca := ((HX2.out.trans hW).cell (p := ⟨bb, bo + a, none⟩) HBWr.out).trans HHA.out; have cb := ((HX2.out.trans hW).cell (p := ⟨bb, bo + b, none⟩) HBWr.out).trans HHB.out; first | (refine StepT.off rfl hW ?_; rfl) | (refine StepT.go rfl ?_; go_simp; first | (refine ⟨?_, hW⟩; rfl))
                    simp only [Act.put, List.setIfInBounds_toArray, List.set_cons_zero, List.set_cons_succ]
                    refine StepsT.cons (fun W hW => ?_) ?_
                    · have ca := ((HX2.out.trans hW).cell (p := ⟨bb, bo + a, none⟩) HBWr.out).trans HHA.out; have cb := ((HX2.out.trans hW).cell (p := ⟨bb, bo + b, none⟩) HBWr.out).trans HHB.out; first | (refine StepT.off rfl hW ?_; rfl) | (refine StepT.go rfl ?_; go_simp; first | (refine ⟨?_, hW⟩; rfl))
                    simp only [Act.put, List.setIfInBounds_toArray, List.set_cons_zero, List.set_cons_succ]
                    refine StepsT.cons (fun W hW => ?_) ?_
                    · have ca := ((HX2.out.trans hW).cell (p := ⟨bb, bo + a, none⟩) HBWr.out).trans HHA.out; have cb := ((HX2.out.trans hW).cell (p := ⟨bb, bo + b, none⟩) HBWr.out).trans HHB.out; first | (refine StepT.off rfl hW ?_; rfl) | (refine StepT.go rfl ?_; go_simp; first | (refine ⟨?_, hW⟩; rfl))
                    simp only [Act.put, List.setIfInBounds_toArray, List.set_cons_zero, List.set_cons_succ]
                    refine StepsT.cons (fun W hW => ?_) ?_
                    · have ca := ((HX2.out.trans hW).cell (p := ⟨bb, bo + a, none⟩) HBWr.out).trans HHA.out; have cb := ((HX2.out.trans hW).cell (p := ⟨bb, bo + b, none⟩) HBWr.out).trans HHB.out; first | (refine StepT.off rfl hW ?_; rfl) | (refine StepT.go rfl ?_; go_simp; first | (refine ⟨?_, hW⟩; rfl))
                    simp only [Act.put, List.setIfInBounds_toArray, List.set_cons_zero, List.set_cons_succ]
                    refine StepsT.cons (fun W hW => ?_) ?_
                    · have ca := ((HX2.out.trans hW).cell (p := ⟨bb, bo + a, none⟩) HBWr.out).trans HHA.out; have cb := ((HX2.out.trans hW).cell (p := ⟨bb, bo + b, none⟩) HBWr.out).trans HHB.out; first | (refine StepT.off rfl hW ?_; rfl) | (refine StepT.go rfl ?_; go_simp; first | (refine ⟨?_, hW⟩; rfl))
                    simp only [Act.put, List.setIfInBounds_toArray, List.set_cons_zero, List.set_cons_succ]
                    refine StepsT.cons (fun W hW => ?_) ?_
                    · have ca := ((HX2.out.trans hW).cell (p := ⟨bb, bo + a, none⟩) HBWr.out).trans HHA.out; have cb := ((HX2.out.trans hW).cell (p := ⟨bb, bo + b, none⟩) HBWr.out).trans HHB.out; first | (refine StepT.off rfl hW ?_; rfl) | (refine StepT.go rfl ?_; go_simp; first | (refine ⟨?_, hW⟩; rfl))
                    simp only [Act.put, List.setIfInBounds_toArray, List.set_cons_zero, List.set_cons_succ]
                    trivial
                  intro W hW
                  simp only [putAll, Act.put, List.setIfInBounds_toArray, List.set_cons_zero, List.set_cons_succ]
                  go_wp2
                  go_roundw
                  case rel => exact ⟨b + 1, by omega, by omega, by go_num, HN, Lib.hid (HS.out.next (HX2.out.trans (Ext.trans hW (by repeat first | exact xe0 _ | assumption | refine xea ?_ _ | refine xed ?_ | refine xet ?_ (by assumption)))))⟩
                  case measure => simp [intOf] <;> omega
                case neg =>
                  have hok := HNX.out rfl h4
                  have HV : Hid (V = (0, 22)) := Lib.hid (by rw [HR3.out, if_pos hok])
                  have i4 : la + cv < lb := by omega
                  clear h4 HNX HBX HCV hok HR3 HLO
                  go_upto_region 17 with (first | (go_at_call 20; refine Calls.mono (CK.out _ ?_) ?_; (exact HG.out.ext (HS.out.ext.trans (by repeat first | exact xe0 _ | assumption | refine xea ?_ _ | refine xed ?_ | refine xet ?_ (by assumption)))); rintro e w2 ⟨rfl, hb⟩; have HX2 := Lib.hid (Ext.trans (a := wr) (by repeat first | exact xe0 _ | assumption | refine xea ?_ _ | refine xed ?_ | refine xet ?_ (by assumption)) hb); clear g0 g1 gl0 q0 q1 q2 q3 gl; clear hb ca cb))
                  refine wp_region_steady (Ext _) [?_, ?_, ?_, ?_, ?_, ?_, ?_, ?_, ?_, ?_, ?_, ?_, ?_, ?_, ?_] (by kernel_rfl) (by kernel_rfl) rfl (Ext.refl _).drew ?_ ?_
                  rotate_left 15
                  · refine StepsT.cons (fun W hW => ?_) ?_
                    · have ca := ((HX2.out.trans hW).cell (p := ⟨bb, bo + a, none⟩) HBWr.out).trans HHA.out; have cb := ((HX2.out.trans hW).cell (p := ⟨bb, bo + b, none⟩) HBWr.out).trans HHB.out; first | (refine StepT.off rfl hW ?_; rfl) | (refine StepT.go rfl ?_; go_simp; first | (refine ⟨?_, hW⟩; rfl))
                    simp only [Act.put, List.setIfInBounds_toArray, List.set_cons_zero, List.set_cons_succ]
                    refine StepsT.cons (fun W hW => ?_) ?_
                    · have ca := ((HX2.out.trans hW).cell (p := ⟨bb, bo + a, none⟩) HBWr.out).trans HHA.out; have cb := ((HX2.out.trans hW).cell (p := ⟨bb, bo + b, none⟩) HBWr.out).trans HHB.out; first | (refine StepT.off rfl hW ?_; rfl) | (refine StepT.go rfl ?_; go_simp; first | (refine ⟨?_, hW⟩; rfl))
                    simp only [Act.put, List.setIfInBounds_toArray, List.set_cons_zero, List.set_cons_succ]
                    refine StepsT.cons (fun W hW => ?_) ?_
                    · have ca := ((HX2.out.trans hW).cell (p := ⟨bb, bo + a, none⟩) HBWr.out).trans HHA.out; have cb := ((HX2.out.trans hW).cell (p := ⟨bb, bo + b, none⟩) HBWr.out).trans HHB.out; first | (refine StepT.off rfl hW ?_; rfl) | (refine StepT.go rfl ?_; go_simp; first | (refine ⟨?_, hW⟩; rfl))
                    simp only [Act.put, List.setIfInBounds_toArray, List.set_cons_zero, List.set_cons_succ]
                    refine StepsT.cons (fun W hW => ?_) ?_
                    · have ca := ((HX2.out.trans hW).cell (p := ⟨bb, bo + a, none⟩) HBWr.out).trans HHA.out; have cb := ((HX2.out.trans hW).cell (p := ⟨bb, bo + b, none⟩) HBWr.out).trans HHB.out; first | (refine StepT.off rfl hW ?_; rfl) | (refine StepT.go rfl ?_; go_simp; first | (refine ⟨?_, hW⟩; rfl))
                    simp only [Act.put, List.setIfInBounds_toArray, List.set_cons_zero, List.set_cons_succ]
                    refine StepsT.cons (fun W hW => ?_) ?_
                    · have ca := ((HX2.out.trans hW).cell (p := ⟨bb, bo + a, none⟩) HBWr.out).trans HHA.out; have cb := ((HX2.out.trans hW).cell (p := ⟨bb, bo + b, none⟩) HBWr.out).trans HHB.out; first | (refine StepT.off rfl hW ?_; rfl) | (refine StepT.go rfl ?_; go_simp; first | (refine ⟨?_, hW⟩; rfl))
                    simp only [Act.put, List.setIfInBounds_toArray, List.set_cons_zero, List.set_cons_succ]
                    refine StepsT.cons (fun W hW => ?_) ?_
                    · have ca := ((HX2.out.trans hW).cell (p := ⟨bb, bo + a, none⟩) HBWr.out).trans HHA.out; have cb := ((HX2.out.trans hW).cell (p := ⟨bb, bo + b, none⟩) HBWr.out).trans HHB.out; first | (refine StepT.off rfl hW ?_; rfl) | (refine StepT.go rfl ?_; go_simp; first | (refine ⟨?_, hW⟩; rfl))
                    simp only [Act.put, List.setIfInBounds_toArray, List.set_cons_zero, List.set_cons_succ]
                    refine StepsT.cons (fun W hW => ?_) ?_
                    · have ca := ((HX2.out.trans hW).cell (p := ⟨bb, bo + a, none⟩) HBWr.out).trans HHA.out; have cb := ((HX2.out.trans hW).cell (p := ⟨bb, bo + b, none⟩) HBWr.out).trans HHB.out; first | (refine StepT.off rfl hW ?_; rfl) | (refine StepT.go rfl ?_; go_simp; first | (refine ⟨?_, hW⟩; rfl))
                    simp only [Act.put, List.setIfInBounds_toArray, List.set_cons_zero, List.set_cons_succ]
                    refine StepsT.cons (fun W hW => ?_) ?_
                    · have ca := ((HX2.out.trans hW).cell (p := ⟨bb, bo + a, none⟩) HBWr.out).trans HHA.out; have cb := ((HX2.out.trans hW).cell (p := ⟨bb, bo + b, none⟩) HBWr.out).trans HHB.out; first | (refine StepT.off rfl hW ?_; rfl) | (refine StepT.go rfl ?_; go_simp; first | (refine ⟨?_, hW⟩; rfl))
                    simp only [Act.put, List.setIfInBounds_toArray, List.set_cons_zero, List.set_cons_succ]
                    refine StepsT.cons (fun W hW => ?_) ?_
                    · have ca := ((HX2.out.trans hW).cell (p := ⟨bb, bo + a, none⟩) HBWr.out).trans HHA.out; have cb := ((HX2.out.trans hW).cell (p := ⟨bb, bo + b, none⟩) HBWr.out).trans HHB.out; first | (refine StepT.off rfl hW ?_; rfl) | (refine StepT.go rfl ?_; go_simp; first | (refine ⟨?_, hW⟩; rfl))
                    simp only [Act.put, List.setIfInBounds_toArray, List.set_cons_zero, List.set_cons_succ]
                    refine StepsT.cons (fun W hW => ?_) ?_
                    · have ca := ((HX2.out.trans hW).cell (p := ⟨bb, bo + a, none⟩) HBWr.out).trans HHA.out; have cb := ((HX2.out.trans hW).cell (p := ⟨bb, bo + b, none⟩) HBWr.out).trans HHB.out; first | (refine StepT.off rfl hW ?_; rfl) | (refine StepT.go rfl ?_; go_simp; first | (refine ⟨?_, hW⟩; rfl))
                    simp only [Act.put, List.setIfInBounds_toArray, List.set_cons_zero, List.set_cons_succ]
                    refine StepsT.cons (fun W hW => ?_) ?_
                    · have ca := ((HX2.out.trans hW).cell (p := ⟨bb, bo + a, none⟩) HBWr.out).trans HHA.out; have cb := ((HX2.out.trans hW).cell (p := ⟨bb, bo + b, none⟩) HBWr.out).trans HHB.out; first | (refine StepT.off rfl hW ?_; rfl) | (refine StepT.go rfl ?_; go_simp; first | (refine ⟨?_, hW⟩; rfl))
                    simp only [Act.put, List.setIfInBounds_toArray, List.set_cons_zero, List.set_cons_succ]
                    refine StepsT.cons (fun W hW => ?_) ?_
                    · have ca := ((HX2.out.trans hW).cell (p := ⟨bb, bo + a, none⟩) HBWr.out).trans HHA.out; have cb := ((HX2.out.trans hW).cell (p := ⟨bb, bo + b, none⟩) HBWr.out).trans HHB.out; first | (refine StepT.off rfl hW ?_; rfl) | (refine StepT.go rfl ?_; go_simp; first | (refine ⟨?_, hW⟩; rfl))
                    simp only [Act.put, List.setIfInBounds_toArray, List.set_cons_zero, List.set_cons_succ]
                    refine StepsT.cons (fun W hW => ?_) ?_
                    · have ca := ((HX2.out.trans hW).cell (p := ⟨bb, bo + a, none⟩) HBWr.out).trans HHA.out; have cb := ((HX2.out.trans hW).cell (p := ⟨bb, bo + b, none⟩) HBWr.out).trans HHB.out; first | (refine StepT.off rfl hW ?_; rfl) | (refine StepT.go rfl ?_; go_simp; first | (refine ⟨?_, hW⟩; rfl))
                    simp only [Act.put, List.setIfInBounds_toArray, List.set_cons_zero, List.set_cons_succ]
                    refine StepsT.cons (fun W hW => ?_) ?_
                    · have ca := ((HX2.out.trans hW).cell (p := ⟨bb, bo + a, none⟩) HBWr.out).trans HHA.out; have cb := ((HX2.out.trans hW).cell (p := ⟨bb, bo + b, none⟩) HBWr.out).trans HHB.out; first | (refine StepT.off rfl hW ?_; rfl) | (refine StepT.go rfl ?_; go_simp; first | (refine ⟨?_, hW⟩; rfl))
                    simp only [Act.put, List.setIfInBounds_toArray, List.set_cons_zero, List.set_cons_succ]
                    refine StepsT.cons (fun W hW => ?_) ?_
                    · have ca := ((HX2.out.trans hW).cell (p := ⟨bb, bo + a, none⟩) HBWr.out).trans HHA.out; have cb := ((HX2.out.trans hW).cell (p := ⟨bb, bo + b, none⟩) HBWr.out).trans HHB.out; first | (refine StepT.off rfl hW ?_; rfl) | (refine StepT.go rfl ?_; go_simp; first | (refine ⟨?_, hW⟩; rfl))
                    simp only [Act.put, List.setIfInBounds_toArray, List.set_cons_zero, List.set_cons_succ]
                    trivial
                  intro W hW
                  simp only [putAll, Act.put, List.setIfInBounds_toArray, List.set_cons_zero, List.set_cons_succ]
                  go_wp2
                  go_ret2
                  exact Ret.mk' (by rw [HV.out]; rfl) (HS.out.ext.trans (HX2.out.trans (Ext.trans hW (by repeat first | exact xe0 _ | assumption | refine xea ?_ _ | refine xed ?_ | refine xet ?_ (by assumption)))))
end Go.Proofs.YtpkmapngdkkglaaGreatDoor
