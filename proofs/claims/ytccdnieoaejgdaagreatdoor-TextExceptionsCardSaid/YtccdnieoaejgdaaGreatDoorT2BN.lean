/-
  Walk: the reference's hyphens of a word.
-/
import Derived.Test.YtccdnieoaejgdaaGreatDoorT2BM
import Derived.Test.YtccdnieoaejgdaaGreatDoorT2BH
set_option linter.unusedVariables false
set_option linter.unusedSimpArgs false
set_option linter.unusedSectionVars false
namespace Go.Proofs.YtccdnieoaejgdaaGreatDoor
open Go.RowKit Go.Lib

def letAll (w : List UInt8) (n : Nat) : Bool := (w.take n).all fun b => letC (b.toNat : Int)
theorem letAll_next {w : List UInt8} {n : Nat} (h : n < w.length) : letAll w (n + 1) = (letAll w n && letC (bya w n)) := by
  unfold letAll; rw [take_snoc8 h, List.all_append]; simp [bya]
theorem letAll_all (w : List UInt8) : letAll w w.length = letL w := by unfold letAll letL; rw [List.take_length]
theorem mkBad_err {lt : Bool} {m : UInt8} {l : List ByteArray} {k : Nat} : ∀ n, mkBad lt m l n = some k → mkErr lt m l k ≠ 0
  | 0, h => by cases h
  | n + 1, h => by
    rw [mkBad] at h
    cases hb : mkBad lt m l n with
    | some j => rw [hb] at h; cases h; exact mkBad_err n hb
    | none =>
      rw [hb] at h
      simp only at h
      split at h
      · cases h
      · rename_i he; cases h; exact he
theorem mkBad_chk {lt : Bool} {m : UInt8} {l : List ByteArray} (h : (mkChk lt m l).2 = 0) : mkBad lt m l l.length = none := by
  unfold mkChk at h
  split at h
  · cases h
  · cases hb : mkBad lt m l l.length with
    | none => rfl
    | some k =>
      rw [hb] at h
      simp only at h
      exact absurd h (mkBad_err _ hb)
set_option maxRecDepth 100000 in
set_option maxHeartbeats 8000000 in
theorem rHyphens_any (r : RU) (a : RuA) (s : ByteArray) (w : World) (h : RuR w a r) (hs : ShortU r) (hR : (ruleE r).2 = 0) (hz : 1 ≤ s.size ∧ s.size ≤ 30) :
    Calls Tryz.prog 20 #[r.val a, .string s] w (RetS (hyW r s.data.toList) w) := by
  have HRR := RightU.of hR
  have hbe := h.excs.2.1
  have HRE := Lib.hid h.excs
  have HSE := Lib.hid hs.e.2
  have CV := Lib.hid fun W (hx : Ext w W) => rLevelsOf_any r a s W (h.ext hx) hs HRR.pat (by omega)
  have CS := Lib.hid fun W => rSmall_any s W (by omega)
  change Hid (∀ W, Calls Tryz.prog 66 #[.string s] W (Ret (.string (strL (low s.data.toList))) W)) at CS
  have CMM := Lib.hid fun s hs W => readMarked_any s 45 45 rfl true W hs
  have HBE := Lib.hid (mkBad_chk HRR.exc)
  have HLEN : Hid (s.data.toList.length = s.size) := Lib.hid (by simp)
  have HLVN : Hid ((lvList r s.data.toList).length = s.size + 1) := Lib.hid (by rw [lvList_out, outF_len, HLEN.out])
  have HLVA : Hid (∀ k, k ≤ s.size → (lvList r s.data.toList).getD k 0 = lvOf r s.data.toList k) := Lib.hid fun k hk => lvList_at r _ (by rw [HLEN.out]; exact hk)
  have HLVP : Hid (∀ k, 0 ≤ lvOf r s.data.toList k) := Lib.hid fun k => by unfold lvOf; exact lvBy_nonneg _ _ _ _
  have HHY : Hid (hyRw r s.data.toList = match mkLook true 45 r.excs r.excs.length (low s.data.toList) with | some l => l | none => if letL s.data.toList = true then oddTo (lvOf r s.data.toList) (s.size + 1) else []) := Lib.hid (by
    rw [hyRw_word r (by rw [HLEN.out]; exact hz), HLEN.out]; unfold excLook
    cases mkLook true 45 r.excs r.excs.length (low s.data.toList) <;> rfl)
  have HAT := Lib.hid (hyRw_at r s.data.toList)
  have HZL : Hid ((hyRw r s.data.toList).length ≤ 101) := Lib.hid (by have h := hyRw_len r s.data.toList; rw [HLEN.out] at h; omega)
  have HW : Hid (hyW r s.data.toList = (hyRw r s.data.toList).filter (hyOk r s.size)) := Lib.hid (by unfold hyW; rw [HLEN.out])
  have HBY : Hid (∀ k (h : k < s.size), (s[k].toNat : Int) = bya s.data.toList k) := Lib.hid (fun k h => bya_byte s k h)
  have HLA : Hid (∀ k, k < s.size → letAll s.data.toList (k + 1) = (letAll s.data.toList k && letC (bya s.data.toList k))) := Lib.hid fun k hk => letAll_next (by rw [HLEN.out]; exact hk)
  have HLE : Hid (letAll s.data.toList s.size = letL s.data.toList) := Lib.hid (by rw [← letAll_all, HLEN.out])
  have HLZ : Hid (letAll s.data.toList 0 = true) := Lib.hid (by unfold letAll; simp)
  have CLL := Lib.hid fun c W => rIsLetter_any c W
  rw [HLEN.out] at HAT
  have hsz : s.size ≤ 9223372036854775807 := by omega
  clear h hs hR HRR HLEN
  generalize hyW r s.data.toList = out at *
  generalize hyRw r s.data.toList = zs at *
  generalize lvList r s.data.toList = ll at *
  generalize lvOf r s.data.toList = F at *
  generalize letL s.data.toList = lt at *
  generalize letAll s.data.toList = la at *
  generalize low s.data.toList = lw at *
  unfold RU.val at CV ⊢
  obtain ⟨C, hC⟩ : ∃ C : Array Value, C = #[.slice a.pa r.pats.length a.pc, .slice a.ea r.excs.length a.ec, .slice a.ba r.bars.length a.bc, .int .i64 r.left, .int .i64 r.right] := ⟨_, rfl⟩
  have HC := Lib.hid hC
  have HBC : Hid (∀ W, Blk W w.heap.size 24 C → (W.cell? ⟨w.heap.size, 0, none⟩ = some (.slice a.pa r.pats.length a.pc) ∧ W.cell? ⟨w.heap.size, 1, none⟩ = some (.slice a.ea r.excs.length a.ec) ∧ W.cell? ⟨w.heap.size, 2, none⟩ = some (.slice a.ba r.bars.length a.bc)) ∧ W.cell? ⟨w.heap.size, 3, none⟩ = some (.int .i64 r.left) ∧ W.cell? ⟨w.heap.size, 4, none⟩ = some (.int .i64 r.right) ∧ w.heap.size < W.heap.size) := Lib.hid fun W hb => by
    rw [hC] at hb
    exact ⟨⟨hb.cell 0 _ rfl, hb.cell 1 _ rfl, hb.cell 2 _ rfl⟩, hb.cell 3 _ rfl, hb.cell 4 _ rfl, hb.lt⟩
  have HB0 := Lib.hid (Blk.new w 24 C)
  have HX0 : Hid (Ext w (w.alloc (.cells C 24))) := Lib.hid ((Ext.refl w).alloc _)
  rw [hC] at HB0 HX0
  clear hC
  go_enter Tryz.func20, Tryz.ntmps20
  go_upto_region 4 with fail
  generalize w.alloc (.cells #[.slice a.pa r.pats.length a.pc, .slice a.ea r.excs.length a.ec, .slice a.ba r.bars.length a.bc, .int .i64 r.left, .int .i64 r.right] 24) = w0 at *
  rw [← HC.out] at HB0
  obtain ⟨hb, hhb⟩ : ∃ hb, hb = w.heap.size := ⟨_, rfl⟩
  rw [← hhb] at HBC HB0 ⊢
  clear hhb
  generalize r.excs = l at *
  go_loopw [5, 6, 7] (fun v5 v6 v7 wr => ∃ (k : Nat) (o : Option (List Int)) (A : Option Addr) (c : Nat), k ≤ l.length ∧ v7 = .int .i64 (k : Int) ∧ v6 = .bool o.isSome ∧ v5 = .slice A (o.getD []).length c ∧ Hid (o = mkLook true 45 l k lw) ∧ Hid (o = none → A = none ∧ c = 0) ∧ Hid (RI wr A (o.getD []).length (o.getD [])) ∧ Hid (Ext w0 wr)) (fun _ _ v7 _ => l.length - (intOf v7).toNat)
  case atStart => exact ⟨0, none, none, 0, Nat.zero_le _, rfl, rfl, rfl, Lib.hid rfl, Lib.hid (fun _ => ⟨rfl, rfl⟩), Lib.hid RI.nil, Lib.hid (Ext.refl _)⟩
  case round =>
    obtain ⟨k, o, A, c, hk, rfl, rfl, rfl, HO, HN0, HRI, HX⟩ := hrel
    obtain ⟨⟨y0, y1, y2⟩, y3, y4, yl⟩ := HBC.out _ (HB0.out.ext HX.out)
    have HXR := Lib.hid (HX0.out.trans HX.out)
    by_cases hlt : k < l.length
    case pos =>
      have ik : (k : Int) < (l.length : Int) := by omega
      obtain ⟨b, off, hea, hbw, hcell⟩ := (HRE.out.ext HXR.out).2.2 (by omega)
      rw [hea] at y1
      clear hea
      have ck := hcell k hlt
      clear hcell
      have CM := Lib.hid (CMM.out (l.getD k ByteArray.empty) (by have := HSE.out k hlt; omega))
      have HST := Lib.hid (mkLook_step (w := lw) HBE.out hlt)
      have HPL : Hid ((rmP true 45 (l.getD k ByteArray.empty).data.toList).length ≤ 100000) := Lib.hid (by
        have h1 := HSE.out k hlt
        have h3 : (l.getD k ByteArray.empty).data.toList.length = (l.getD k ByteArray.empty).size := by simp
        unfold rmP
        cases h2 : rmTo true 45 (l.getD k ByteArray.empty).data.toList (l.getD k ByteArray.empty).data.toList.length with
        | none => simp
        | some q => have := rmTo_bd h2; simp only [Option.getD_some]; omega)
      unfold RetRM at CM
      rw [← HO.out] at HST
      generalize l.getD k ByteArray.empty = t at *
      generalize rmW true 45 t.data.toList = x at *
      generalize rmP true 45 t.data.toList = ps at *
      generalize rmB true 45 t.data.toList = ok at *
      clear CMM HSE HBE HHY CV
      by_cases hx : x = lw
      case pos =>
        -- BEGIN A
        have e0 : ((strL x).toList == (strL lw).toList) = true := by rw [hx]; exact str_eq_true _
        have HN2 : Hid (mkLook true 45 l (k + 1) lw = some ps) := Lib.hid (by rw [HST.out, if_pos hx])
        clear hx HST HO HRI
        go_wp2_with (first | (go_at_call 65; refine Calls.mono (CM.out _) ?_; rintro e w1 ⟨v1, rfl, ho1, hx1⟩; obtain ⟨A9, c9, rfl, hc9, hr9⟩ := Own.form ho1 (by have := HPL.out; omega); have HX1 := Lib.hid hx1; have HR9 := Lib.hid hr9; clear ho1 hx1 hc9 hr9) | (go_at_call 66; refine Calls.mono (CS.out _) ?_; rintro e w2 ⟨rfl, hx2⟩; have HX2 := Lib.hid hx2; clear hx2) | (go_at_call 67; refine Calls.mono (CL.out _) ?_; rintro e w3 ⟨rfl, rfl⟩) | (go_at_call 37; refine Calls.mono (CV.out _ (HXR.out.trans (by repeat (first | exact Ext.refl _ | assumption | refine Ext.alloc ?_ _ | refine Ext.drew ?_ | refine Ext.drewN ?_ _ | (refine Ext.setCell ?_ (by simp <;> omega) _) | refine Ext.trans ?_ (by assumption))))) ?_; rintro e w4 ⟨A7, c7, he, hs7, hx4⟩; rw [HLVN.out] at he; subst he; have HL7 := Lib.hid hs7.ri; have HX4 := Lib.hid hx4; clear hs7 hx4))
        go_roundw
        case rel => exact ⟨k + 1, some ps, A9, c9, by omega, by go_num, rfl, rfl, Lib.hid HN2.out.symm, Lib.hid (fun h => by cases h), Lib.hid (HR9.out.ext HX2.out), Lib.hid ((HX.out.trans HX1.out).trans HX2.out)⟩
        case measure => simp [intOf]; omega
        -- END A
      case neg =>
        -- BEGIN B
        have e0 : ((strL x).toList == (strL lw).toList) = false := str_eq_false (fun e => hx (strL_inj e))
        have HN2 : Hid (mkLook true 45 l (k + 1) lw = o) := Lib.hid (by rw [HST.out, if_neg hx])
        clear hx HST
        go_wp2_with (first | (go_at_call 65; refine Calls.mono (CM.out _) ?_; rintro e w1 ⟨v1, rfl, ho1, hx1⟩; obtain ⟨A9, c9, rfl, hc9, hr9⟩ := Own.form ho1 (by have := HPL.out; omega); have HX1 := Lib.hid hx1; have HR9 := Lib.hid hr9; clear ho1 hx1 hc9 hr9) | (go_at_call 66; refine Calls.mono (CS.out _) ?_; rintro e w2 ⟨rfl, hx2⟩; have HX2 := Lib.hid hx2; clear hx2) | (go_at_call 67; refine Calls.mono (CL.out _) ?_; rintro e w3 ⟨rfl, rfl⟩) | (go_at_call 37; refine Calls.mono (CV.out _ (HXR.out.trans (by repeat (first | exact Ext.refl _ | assumption | refine Ext.alloc ?_ _ | refine Ext.drew ?_ | refine Ext.drewN ?_ _ | (refine Ext.setCell ?_ (by simp <;> omega) _) | refine Ext.trans ?_ (by assumption))))) ?_; rintro e w4 ⟨A7, c7, he, hs7, hx4⟩; rw [HLVN.out] at he; subst he; have HL7 := Lib.hid hs7.ri; have HX4 := Lib.hid hx4; clear hs7 hx4))
        go_roundw
        case rel => exact ⟨k + 1, o, A, c, by omega, by go_num, rfl, rfl, Lib.hid HN2.out.symm, HN0, Lib.hid (HRI.out.ext (HX1.out.trans HX2.out)), Lib.hid ((HX.out.trans HX1.out).trans HX2.out)⟩
        case measure => simp [intOf]; omega
        -- END B
    case neg =>
      obtain rfl : k = l.length := by omega
      have ik : ¬ (l.length : Int) < (l.length : Int) := by omega
      rw [← HO.out] at HHY
      clear HBE HO CMM HSE HRE
      go_upto_if 40 with fail
      go_cut [5] from 11 (fun v5 wx => ∃ A c, v5 = .slice A zs.length c ∧ Hid (RI wx A zs.length zs) ∧ Hid (Ext w0 wx))
      case first =>
        rcases o with _ | zl
        rotate_left 1
        case some =>
          -- BEGIN C
          have hzs : zs = zl := HHY.out
          subst hzs
          go_wp2_with fail
          go_meet
          case rel => exact ⟨A, c, rfl, HRI, HX⟩
          -- END C
        case none =>
          -- BEGIN D
          obtain ⟨rfl, rfl⟩ := HN0.out rfl
          simp only at HHY
          have HXW := HX
          obtain ⟨wa, hwa⟩ : ∃ wa, wa = wr := ⟨_, rfl⟩
          rw [← hwa] at HXW HXR y0 y1 y2 y3 y4 yl ⊢
          clear HX HRI HN0 hwa
          go_upto_region 12 with fail
          go_loopw [11, 12] (fun v11 v12 wr => ∃ k : Nat, k ≤ s.size ∧ v12 = .int .i64 (k : Int) ∧ v11 = .bool (la k) ∧ wa = wr) (fun _ v12 _ => s.size - (intOf v12).toNat)
          case atStart => exact ⟨0, Nat.zero_le _, rfl, by rw [HLZ.out], rfl⟩
          case round =>
            obtain ⟨k, hk, rfl, rfl, rfl⟩ := hrel
            by_cases hlt : k < s.size
            case pos =>
              have ik : (k : Int) < (s.size : Int) := by omega
              have HB := Lib.hid (HBY.out k hlt)
              have HN := Lib.hid (HLA.out k hlt)
              rw [← HB.out] at HN
              generalize hx : (s[k].toNat : Int) = ch at *
              have CL := Lib.hid (CLL.out ch)
              cases hla : la k
              case true =>
                rw [hla, Bool.true_and] at HN
                clear hla HHY
                go_wp2_with (first | (go_at_call 65; refine Calls.mono (CM.out _) ?_; rintro e w1 ⟨v1, rfl, ho1, hx1⟩; obtain ⟨A9, c9, rfl, hc9, hr9⟩ := Own.form ho1 (by have := HPL.out; omega); have HX1 := Lib.hid hx1; have HR9 := Lib.hid hr9; clear ho1 hx1 hc9 hr9) | (go_at_call 66; refine Calls.mono (CS.out _) ?_; rintro e w2 ⟨rfl, hx2⟩; have HX2 := Lib.hid hx2; clear hx2) | (go_at_call 67; refine Calls.mono (CL.out _) ?_; rintro e w3 ⟨rfl, rfl⟩) | (go_at_call 37; refine Calls.mono (CV.out _ (HXR.out.trans (by repeat (first | exact Ext.refl _ | assumption | refine Ext.alloc ?_ _ | refine Ext.drew ?_ | refine Ext.drewN ?_ _ | (refine Ext.setCell ?_ (by simp <;> omega) _) | refine Ext.trans ?_ (by assumption))))) ?_; rintro e w4 ⟨A7, c7, he, hs7, hx4⟩; rw [HLVN.out] at he; subst he; have HL7 := Lib.hid hs7.ri; have HX4 := Lib.hid hx4; clear hs7 hx4))
                go_roundw
                case rel => exact ⟨k + 1, by omega, by go_num, by rw [HN.out], by trivial⟩
                case measure => simp [intOf]; omega
              case false =>
                rw [hla, Bool.false_and] at HN
                clear hla HHY
                go_wp2_with (first | (go_at_call 65; refine Calls.mono (CM.out _) ?_; rintro e w1 ⟨v1, rfl, ho1, hx1⟩; obtain ⟨A9, c9, rfl, hc9, hr9⟩ := Own.form ho1 (by have := HPL.out; omega); have HX1 := Lib.hid hx1; have HR9 := Lib.hid hr9; clear ho1 hx1 hc9 hr9) | (go_at_call 66; refine Calls.mono (CS.out _) ?_; rintro e w2 ⟨rfl, hx2⟩; have HX2 := Lib.hid hx2; clear hx2) | (go_at_call 67; refine Calls.mono (CL.out _) ?_; rintro e w3 ⟨rfl, rfl⟩) | (go_at_call 37; refine Calls.mono (CV.out _ (HXR.out.trans (by repeat (first | exact Ext.refl _ | assumption | refine Ext.alloc ?_ _ | refine Ext.drew ?_ | refine Ext.drewN ?_ _ | (refine Ext.setCell ?_ (by simp <;> omega) _) | refine Ext.trans ?_ (by assumption))))) ?_; rintro e w4 ⟨A7, c7, he, hs7, hx4⟩; rw [HLVN.out] at he; subst he; have HL7 := Lib.hid hs7.ri; have HX4 := Lib.hid hx4; clear hs7 hx4))
                go_roundw
                case rel => exact ⟨k + 1, by omega, by go_num, by rw [HN.out], by trivial⟩
                case measure => simp [intOf]; omega
            case neg =>
              obtain rfl : k = s.size := by omega
              have ik : ¬ (s.size : Int) < (s.size : Int) := by omega
              have hle := HLE.out
              rw [hle]
              clear hle HLE HLZ HLA HBY CLL
              go_upto_region 16 with (first | (go_at_call 65; refine Calls.mono (CM.out _) ?_; rintro e w1 ⟨v1, rfl, ho1, hx1⟩; obtain ⟨A9, c9, rfl, hc9, hr9⟩ := Own.form ho1 (by have := HPL.out; omega); have HX1 := Lib.hid hx1; have HR9 := Lib.hid hr9; clear ho1 hx1 hc9 hr9) | (go_at_call 66; refine Calls.mono (CS.out _) ?_; rintro e w2 ⟨rfl, hx2⟩; have HX2 := Lib.hid hx2; clear hx2) | (go_at_call 67; refine Calls.mono (CL.out _) ?_; rintro e w3 ⟨rfl, rfl⟩) | (go_at_call 37; refine Calls.mono (CV.out _ (HXR.out.trans (by repeat (first | exact Ext.refl _ | assumption | refine Ext.alloc ?_ _ | refine Ext.drew ?_ | refine Ext.drewN ?_ _ | (refine Ext.setCell ?_ (by simp <;> omega) _) | refine Ext.trans ?_ (by assumption))))) ?_; rintro e w4 ⟨A7, c7, he, hs7, hx4⟩; rw [HLVN.out] at he; subst he; have HL7 := Lib.hid hs7.ri; have HX4 := Lib.hid hx4; clear hs7 hx4))
              have HXV := Lib.hid (HXW.out.trans HX4.out)
              cases lt
              case false =>
                -- BEGIN D1
                have hzs : zs = [] := by rw [HHY.out, if_neg (by simp)]
                subst hzs
                go_upto_region 17 with fail
                go_loopw [5, 14] (fun v5 v14 wr => v5 = .slice none 0 0 ∧ v14 = .int .i64 0 ∧ w4 = wr) (fun _ _ _ => 0)
                case atStart => exact ⟨rfl, rfl, rfl⟩
                case round =>
                  obtain ⟨rfl, rfl, rfl⟩ := hrel
                  have i0 : (0 : Int) < (s.size : Int) + 1 := by omega
                  go_wp2_with fail
                  go_meet
                  case rel => exact ⟨none, 0, rfl, Lib.hid RI.nil, HXV⟩
                -- END D1
              case true =>
                -- BEGIN D2
                have HZS : Hid (zs = oddTo F (s.size + 1)) := Lib.hid (by rw [HHY.out, if_pos rfl])
                clear HHY
                rw [HLVN.out] at HL7
                go_upto_region 17 with fail
                go_loopw [5, 14] (fun v5 v14 wr => ∃ k : Nat, k ≤ s.size + 1 ∧ v14 = .int .i64 (k : Int) ∧ Hid (Own wr w4.heap.size v5 (oddTo F k)) ∧ Hid (Ext w4 wr)) (fun _ v14 _ => s.size + 1 - (intOf v14).toNat)
                case atStart => exact ⟨0, Nat.zero_le _, rfl, Lib.hid (Own.nil _ _), Lib.hid (Ext.refl _)⟩
                case round =>
                  obtain ⟨k, hk, rfl, HO, HX3⟩ := hrel
                  have HPL : Hid ((oddTo F k).length ≤ 101) := Lib.hid (Nat.le_trans oddTo_len (by omega))
                  by_cases hlt : k < s.size + 1
                  case pos =>
                    have ik : (k : Int) < (s.size : Int) + 1 := by omega
                    obtain ⟨sb, so, hpa, hsl, hsc⟩ := (HL7.out.ext HX3.out).2.2 (by omega)
                    have c0 := hsc k hlt
                    subst hpa
                    rw [HLVA.out k (by omega)] at c0
                    have hz0 := HLVP.out k
                    have HON : Hid (oddTo F (k + 1) = if (F k).tmod 2 = 1 then oddTo F k ++ [(k : Int)] else oddTo F k) := Lib.hid rfl
                    clear hsc HLVA HLVP
                    generalize F k = z at *
                    have ht : z.tmod 2 = z % 2 := Int.tmod_eq_emod_of_nonneg hz0
                    rw [ht] at HON
                    clear ht
                    have u2 : IntKind.i64.wrap (z % 2) = z % 2 := IntWalk.i64_in _ (by omega)
                    by_cases h1 : z % 2 = 1
                    case pos =>
                      rw [if_pos h1] at HON
                      go_upto_region 18 with (first | (at_builtin; refine list_push rfl (.tmp 72) (.tmp 74) rfl w4.heap.size _ (oddTo F k) rfl (HO.out.ext (by repeat (first | exact Ext.refl _ | assumption | refine Ext.alloc ?_ _ | refine Ext.drew ?_ | refine Ext.drewN ?_ _ | (refine Ext.setCell ?_ (by simp <;> omega) _) | refine Ext.trans ?_ (by assumption)))) wr.heap.size (k : Int) rfl (by simp) (by have := HPL.out; omega) (by have := HX3.out.size; simp; omega) ?_; intro v' w' ho hg; have HO2 := Lib.hid ho; have HX5 : Hid (Ext w4 w') := Lib.hid (own_ext hg (HO.out.ext (by repeat (first | exact Ext.refl _ | assumption | refine Ext.alloc ?_ _ | refine Ext.drew ?_ | refine Ext.drewN ?_ _ | (refine Ext.setCell ?_ (by simp <;> omega) _) | refine Ext.trans ?_ (by assumption)))) (HX3.out.trans (by repeat (first | exact Ext.refl _ | assumption | refine Ext.alloc ?_ _ | refine Ext.drew ?_ | refine Ext.drewN ?_ _ | (refine Ext.setCell ?_ (by simp <;> omega) _) | refine Ext.trans ?_ (by assumption))))); clear ho hg))
                      rw [← HON.out] at HO2
                      clear c0
                      go_wp2
                      go_roundw
                      case rel => exact ⟨k + 1, by omega, by go_num, HO2, HX5⟩
                      case measure => simp [intOf]; omega
                    case neg =>
                      rw [if_neg h1] at HON
                      rw [← HON.out] at HO
                      go_wp2
                      go_roundw
                      case rel => exact ⟨k + 1, by omega, by go_num, HO, HX3⟩
                      case measure => simp [intOf]; omega
                  case neg =>
                    obtain rfl : k = s.size + 1 := by omega
                    have ik : ¬ ((s.size : Int) + 1) < (s.size : Int) + 1 := by omega
                    obtain ⟨A5, c5, rfl, hc5, hr5⟩ := HO.out.form (by have := HPL.out; omega)
                    rw [← HZS.out] at hr5 ⊢
                    have HR5 := Lib.hid hr5
                    clear hc5 hr5
                    go_wp2_with fail
                    go_meet
                    case rel => exact ⟨A5, c5, rfl, HR5, Lib.hid (HXV.out.trans HX3.out)⟩
                -- END D2
          -- END D
      case rest =>
      -- BEGIN E
      obtain ⟨A5, c5, rfl, HR5, HXX⟩ := hcut
      clear y0 y1 y2 y3 y4 yl HHY HRI HX HXR
      have HXE := Lib.hid (HX0.out.trans HXX.out)
      have hzl : zs.length ≤ 9223372036854775807 := by have := HZL.out; omega
      have HBK := Lib.hid (HB0.out.ext HXX.out)
      generalize wc = W at *
      go_upto_region 23 with fail
      have HO0 := Lib.hid (Own.nil W W.heap.size)
      have HX0 := Lib.hid (Ext.refl W)
      go_loopw [15, 16] (fun v15 v16 wr => ∃ k : Nat, k ≤ zs.length ∧ v16 = .int .i64 (k : Int) ∧ Hid (Own wr W.heap.size v15 ((zs.take k).filter (hyOk r s.size))) ∧ Hid (Ext W wr)) (fun _ v16 _ => zs.length - (intOf v16).toNat)
      case atStart => exact ⟨0, Nat.zero_le _, rfl, HO0, HX0⟩
      case round =>
        clear HO0 HX0
        obtain ⟨k, hk, rfl, HO, HX2⟩ := hrel
        have HPL : Hid (((zs.take k).filter (hyOk r s.size)).length ≤ 101) := Lib.hid (Nat.le_trans (List.length_filter_le _ _) (Nat.le_trans (by rw [List.length_take]; omega) HZL.out))
        by_cases hlt : k < zs.length
        case pos =>
          have ik : (k : Int) < (zs.length : Int) := by omega
          obtain ⟨sb, so, hpa, hsl, hsc⟩ := (HR5.out.ext HX2.out).2.2 (by omega)
          have c0 := hsc k hlt
          subst hpa
          obtain ⟨z0, z1⟩ : 0 ≤ zs.getD k 0 ∧ zs.getD k 0 ≤ (s.size : Int) := HAT.out (zs.getD k 0) (by rw [List.getD_eq_getElem?_getD, List.getElem?_eq_getElem hlt]; exact List.getElem_mem _)
          have HFN := Lib.hid (filter_next (p := hyOk r s.size) hlt)
          clear hsc
          generalize zs.getD k 0 = z at *
          obtain ⟨⟨y0, y1, y2⟩, y3, y4, yl⟩ := HBC.out _ (HBK.out.ext HX2.out)
          have u1 : IntKind.i64.wrap ((s.size : Int) - z) = (s.size : Int) - z := IntWalk.i64_in _ (by omega)
          by_cases h1 : r.left ≤ z
          case pos =>
            by_cases h2 : r.right ≤ (s.size : Int) - z
            case pos =>
              rw [if_pos (by unfold hyOk; rw [decide_eq_true h1, decide_eq_true h2]; rfl)] at HFN
              go_upto_region 25 with fail
              go_quiet (fail)
              obtain ⟨wq, hwq⟩ : ∃ wq, wq = wr.drewN nq := ⟨_, rfl⟩
              rw [← hwq]
              have hxq : Ext wr wq := by rw [hwq]; exact (Ext.refl wr).drewN nq
              have c1 : wq.cell? ⟨sb, so + k, none⟩ = some (.int .i64 z) := by rw [hwq]; exact c0
              have hsl1 : sb < wq.heap.size := by rw [hwq]; exact hsl
              have HXq := Lib.hid (HX2.out.trans hxq)
              have HOq := Lib.hid (HO.out.ext hxq)
              clear c0 hsl hwq hxq y0 y1 y2 y3 y4 yl HO HX2
              go_wp2_with (first | (at_builtin; refine list_push rfl (.tmp 101) (.tmp 106) rfl W.heap.size _ ((zs.take k).filter (hyOk r s.size)) rfl (HOq.out.ext (by repeat (first | exact Ext.refl _ | assumption | refine Ext.alloc ?_ _ | refine Ext.drew ?_ | refine Ext.drewN ?_ _ | (refine Ext.setCell ?_ (by simp <;> omega) _) | refine Ext.trans ?_ (by assumption)))) wq.heap.size z rfl (by simp) (by have := HPL.out; omega) (by have := HXq.out.size; simp; omega) ?_; intro v' w' ho hg; have HO2 := Lib.hid ho; have HX3 : Hid (Ext W w') := Lib.hid (own_ext hg (HOq.out.ext (by repeat (first | exact Ext.refl _ | assumption | refine Ext.alloc ?_ _ | refine Ext.drew ?_ | refine Ext.drewN ?_ _ | (refine Ext.setCell ?_ (by simp <;> omega) _) | refine Ext.trans ?_ (by assumption)))) (HXq.out.trans (by repeat (first | exact Ext.refl _ | assumption | refine Ext.alloc ?_ _ | refine Ext.drew ?_ | refine Ext.drewN ?_ _ | (refine Ext.setCell ?_ (by simp <;> omega) _) | refine Ext.trans ?_ (by assumption))))); clear ho hg))
              rw [← HFN.out] at HO2
              go_roundw
              case rel => exact ⟨k + 1, by omega, by go_num, HO2, HX3⟩
              case measure => simp [intOf]; omega
            case neg =>
              rw [if_neg (by unfold hyOk; rw [decide_eq_true h1, decide_eq_false h2]; decide)] at HFN
              rw [← HFN.out] at HO
              go_upto_region 25 with fail
              go_quiet (fail)
              go_wp2
              go_roundw
              case rel => exact ⟨k + 1, by omega, by go_num, Lib.hid (HO.out.ext (by repeat (first | exact Ext.refl _ | assumption | refine Ext.alloc ?_ _ | refine Ext.drew ?_ | refine Ext.drewN ?_ _ | (refine Ext.setCell ?_ (by simp <;> omega) _) | refine Ext.trans ?_ (by assumption)))), Lib.hid (HX2.out.trans (by repeat (first | exact Ext.refl _ | assumption | refine Ext.alloc ?_ _ | refine Ext.drew ?_ | refine Ext.drewN ?_ _ | (refine Ext.setCell ?_ (by simp <;> omega) _) | refine Ext.trans ?_ (by assumption))))⟩
              case measure => simp [intOf]; omega
          case neg =>
            rw [if_neg (by unfold hyOk; rw [decide_eq_false h1]; simp)] at HFN
            rw [← HFN.out] at HO
            go_upto_region 25 with fail
            go_quiet (fail)
            go_wp2
            go_roundw
            case rel => exact ⟨k + 1, by omega, by go_num, Lib.hid (HO.out.ext (by repeat (first | exact Ext.refl _ | assumption | refine Ext.alloc ?_ _ | refine Ext.drew ?_ | refine Ext.drewN ?_ _ | (refine Ext.setCell ?_ (by simp <;> omega) _) | refine Ext.trans ?_ (by assumption)))), Lib.hid (HX2.out.trans (by repeat (first | exact Ext.refl _ | assumption | refine Ext.alloc ?_ _ | refine Ext.drew ?_ | refine Ext.drewN ?_ _ | (refine Ext.setCell ?_ (by simp <;> omega) _) | refine Ext.trans ?_ (by assumption))))⟩
            case measure => simp [intOf]; omega
        case neg =>
          obtain rfl : k = zs.length := by omega
          have ik : ¬ (zs.length : Int) < (zs.length : Int) := by omega
          rw [List.take_length] at HO HPL
          obtain ⟨A9, c9, rfl, hc9, hr9⟩ := HO.out.form (by have := HPL.out; omega)
          go_wp2
          go_ret
          rw [HW.out]
          exact ⟨A9, c9, rfl, (⟨HO.out, hr9, hc9⟩ : SL _ _ _ _ _).mono HXE.out.size, HXE.out.trans HX2.out⟩
      -- END E
end Go.Proofs.YtccdnieoaejgdaaGreatDoor
