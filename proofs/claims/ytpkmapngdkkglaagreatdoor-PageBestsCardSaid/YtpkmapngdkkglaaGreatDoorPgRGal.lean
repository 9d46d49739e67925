/-
  Walk: chapter 5: the reference's CheckGalley.
-/
import Derived.Test.YtpkmapngdkkglaaGreatDoorGG
import Derived.Test.YtpkmapngdkkglaaGreatDoorGD
import Derived.Deep.CutBlock
namespace Go.Proofs.YtpkmapngdkkglaaGreatDoor
open Go.RowKit

set_option maxRecDepth 100000 in
set_option maxHeartbeats 16000000 in
theorem rCheckGalley_any (g : GT) (a : GA) (w : World) (hg : GR w a g) : Calls Tryz.prog 15 #[g.val a] w (Ret (pairGV (chkG g)) w) := by
  have HE : Hid (chkG g = if 200 < g.items.length ∨ 40 < g.notes.length then (0, 8) else if (idxOf badH g.notes g.notes.length).isSome = true then (0, 2)
    else match firstG g.notes.length g.items g.items.length with
      | some k => ((k : Int), errAt g.notes.length g.items k)
      | none => if (gsTo g.items g.items.length).l < (gsTo g.items g.items.length).o then (0, 25) else if (gsTo g.items g.items.length).c < (g.notes.length : Int) then (0, 14) else (0, 0)) := Lib.hid rfl
  have HV : Hid (pairGV (chkG g) = .tuple #[.int .i64 (chkG g).1, .int .i64 (chkG g).2]) := Lib.hid rfl
  generalize pairGV (chkG g) = V at *
  generalize chkG g = r at *
  have hb1 := hg.rp.2.1
  have hb2 := hg.ri.big
  have HG := Lib.hid hg; clear hg
  by_cases h1 : 200 < g.items.length
  case pos =>
    have HR : Hid (r = (0, 8)) := Lib.hid (by rw [HE.out, if_pos (.inl h1)])
    have i1 : (200 : Int) < (g.items.length : Int) := by omega
    clear h1
    unfold GT.val
    go_enter Tryz.func15, Tryz.ntmps15
    go_wp2
    go_ret2
    exact Ret.mk' (by rw [HV.out, HR.out]; rfl) (by repeat (first | exact Ext.refl _ | assumption | refine Ext.alloc ?_ _ | refine Ext.drew ?_ | refine Ext.drewN ?_ _ | (refine Ext.setCell ?_ (by simp <;> omega) _) | refine Ext.trans ?_ (by assumption)))
  case neg =>
  have i1 : ¬ (200 : Int) < (g.items.length : Int) := by omega
  by_cases h2 : 40 < g.notes.length
  case pos =>
    have HR : Hid (r = (0, 8)) := Lib.hid (by rw [HE.out, if_pos (.inr h2)])
    have i2 : (40 : Int) < (g.notes.length : Int) := by omega
    clear h1 h2
    unfold GT.val
    go_enter Tryz.func15, Tryz.ntmps15
    go_wp2
    go_ret2
    exact Ret.mk' (by rw [HV.out, HR.out]; rfl) (by repeat (first | exact Ext.refl _ | assumption | refine Ext.alloc ?_ _ | refine Ext.drew ?_ | refine Ext.drewN ?_ _ | (refine Ext.setCell ?_ (by simp <;> omega) _) | refine Ext.trans ?_ (by assumption)))
  case neg =>
  have i2 : ¬ (40 : Int) < (g.notes.length : Int) := by omega
  have HBADN : Hid (∀ k, k < g.notes.length → badH (g.notes.getD k 0) = true → r = (0, 2)) := Lib.hid fun k hk hb => by
    rw [HE.out, if_neg (by omega), if_pos ((idxOf_isSome _ _ _).2 ⟨k, hk, hb⟩)]
  have HGOOD : Hid ((∀ k, k < g.notes.length → badH (g.notes.getD k 0) = false) → r = match firstG g.notes.length g.items g.items.length with
      | some k => ((k : Int), errAt g.notes.length g.items k)
      | none => if (gsTo g.items g.items.length).l < (gsTo g.items g.items.length).o then (0, 25) else if (gsTo g.items g.items.length).c < (g.notes.length : Int) then (0, 14) else (0, 0)) := Lib.hid fun h => by
    rw [HE.out, if_neg (by omega), if_neg]
    intro hs
    obtain ⟨k, hk, hb⟩ := (idxOf_isSome _ _ _).1 hs
    rw [h k hk] at hb; cases hb
  have HBD := Lib.hid (fun (k : Nat) (hk : k ≤ g.items.length) hc => gsTo_bd (n := g.notes.length) (xs := g.items) (by omega) k (fun j hj => by have := (HG.out.sz j (by omega : j < g.items.length)).2.2.2.2; unfold I64 at this; omega) hc)
  have HFS : Hid (∀ k, cleanG g.notes.length g.items k → k < g.items.length → errAt g.notes.length g.items k ≠ 0 → firstG g.notes.length g.items g.items.length = some k) := Lib.hid fun k h1 h2 h3 => firstG_some h1 h2 h3
  have HFN : Hid (cleanG g.notes.length g.items g.items.length → firstG g.notes.length g.items g.items.length = none) := Lib.hid fun h => firstG_none h
  have HN2 := Lib.hid h2
  clear h1 h2 HE
  unfold GT.val
  go_enter Tryz.func15, Tryz.ntmps15
  go_upto_block 0 with fail
  go_step
  go_loopw [4] (fun i wr => ∃ k : Nat, k ≤ g.notes.length ∧ i = .int .i64 (k : Int) ∧ Hid (∀ j, j < k → badH (g.notes.getD j 0) = false) ∧ Hid (Blk wr w.heap.size 25 #[.slice a.A g.items.length a.c, .slice a.B g.notes.length a.d] ∧ Ext w wr)) (fun i _ => g.notes.length - (intOf i).toNat)
  case atStart => exact ⟨0, Nat.zero_le _, rfl, Lib.hid fun j hj => absurd hj (by omega), Lib.hid ⟨Blk.new _ _ _, (by repeat (first | exact Ext.refl _ | assumption | refine Ext.alloc ?_ _ | refine Ext.drew ?_ | refine Ext.drewN ?_ _ | (refine Ext.setCell ?_ (by simp <;> omega) _) | refine Ext.trans ?_ (by assumption)))⟩⟩
  case round =>
  obtain ⟨k, hk, rfl, HC, HX⟩ := hrel
  have g0 := HX.out.1.cell 0 _ rfl
  have g1 := HX.out.1.cell 1 _ rfl
  have gl := HX.out.1.lt
  by_cases hlt : k < g.notes.length
  case pos =>
    obtain ⟨bN, oN, hB, hbN, hcN⟩ := (HG.out.ri.ext HX.out.2).2.2 (by omega)
    have cN := hcN k hlt
    rw [hB] at g1
    have HB9 := Lib.hid hB
    have HBK := HBADN.out k hlt
    have HZ : Hid (badH (g.notes.getD k 0) = !(decide (1 ≤ g.notes.getD k 0) && decide (g.notes.getD k 0 ≤ 2000))) := Lib.hid rfl
    have hkl : (k : Int) < (g.notes.length : Int) := by omega
    have hcn2 : ∀ j, j < k + 1 → (j = k ∨ j < k) := fun j hj => by omega
    generalize hzz : g.notes.getD k 0 = z at *
    have HZZ := Lib.hid hzz
    clear hcN hB hzz
    have HBK2 := Lib.hid HBK; clear HBK
    by_cases hz : 1 ≤ z ∧ z ≤ 2000
    · have HZ2 : Hid (badH z = false) := Lib.hid (badH_false.2 hz)
      have HC3 : Hid (∀ j, j < k + 1 → badH (g.notes.getD j 0) = false) := Lib.hid fun j hj => by
        rcases hcn2 j hj with rfl | h
        · rw [HZZ.out]; exact HZ2.out
        · exact HC.out j h
      clear hcn2
      go_wp2_with (first | (go_at_call 58; refine Calls.mono (bWithin_yes _ _ _ _ ?_) ?_; (omega); rintro e w1 ⟨rfl, rfl⟩) | (go_at_call 58; refine Calls.mono (bWithin_no _ _ _ _ ?_) ?_; (omega); rintro e w1 ⟨rfl, rfl⟩))
      go_roundw
      case rel => exact ⟨k + 1, by omega, by go_num, HC3, Lib.hid ⟨HX.out.1.ext (by repeat (first | exact Ext.refl _ | assumption | refine Ext.alloc ?_ _ | refine Ext.drew ?_ | refine Ext.drewN ?_ _ | (refine Ext.setCell ?_ (by simp <;> omega) _) | refine Ext.trans ?_ (by assumption))), HX.out.2.trans (by repeat (first | exact Ext.refl _ | assumption | refine Ext.alloc ?_ _ | refine Ext.drew ?_ | refine Ext.drewN ?_ _ | (refine Ext.setCell ?_ (by simp <;> omega) _) | refine Ext.trans ?_ (by assumption)))⟩⟩
      case measure => simp [intOf]; omega
    · have HR : Hid (r = (0, 2)) := Lib.hid (HBK2.out (by rw [← Bool.not_eq_false]; exact fun h => hz (badH_false.1 h)))
      clear hcn2
      go_wp2_with (first | (go_at_call 58; refine Calls.mono (bWithin_yes _ _ _ _ ?_) ?_; (omega); rintro e w1 ⟨rfl, rfl⟩) | (go_at_call 58; refine Calls.mono (bWithin_no _ _ _ _ ?_) ?_; (omega); rintro e w1 ⟨rfl, rfl⟩))
      go_ret2
      exact Ret.mk' (by rw [HV.out, HR.out]; rfl) (HX.out.2.trans (by repeat (first | exact Ext.refl _ | assumption | refine Ext.alloc ?_ _ | refine Ext.drew ?_ | refine Ext.drewN ?_ _ | (refine Ext.setCell ?_ (by simp <;> omega) _) | refine Ext.trans ?_ (by assumption))))
  case neg =>
  obtain rfl : k = g.notes.length := by omega
  have HG2 := Lib.hid (HGOOD.out HC.out)
  clear HGOOD HBADN HC hlt hk
  obtain ⟨wb, rfl⟩ : ∃ wb : World, wb = wr := ⟨_, rfl⟩
  go_upto_block 2 with fail
  go_step
  go_loopw [5, 6, 7, 8] (fun vl vo vc i wr => ∃ k : Nat, k ≤ g.items.length ∧ i = .int .i64 (k : Int) ∧ vl = .int .i64 (gsTo g.items k).l ∧ vo = .int .i64 (gsTo g.items k).o ∧ vc = .int .i64 (gsTo g.items k).c ∧ Hid (cleanG g.notes.length g.items k) ∧ Hid (Ext wb wr)) (fun _ _ _ i _ => g.items.length - (intOf i).toNat)
  case atStart => exact ⟨0, Nat.zero_le _, rfl, rfl, rfl, rfl, Lib.hid fun j hj => absurd hj (by omega), Lib.hid (Ext.refl _)⟩
  case round =>
  obtain ⟨k, hk, rfl, rfl, rfl, rfl, HCL, HX2⟩ := hrel
  clear g0 g1 gl
  have HBX := Lib.hid (HX.out.1.ext HX2.out)
  have g0 := HBX.out.cell 0 _ rfl
  have g1 := HBX.out.cell 1 _ rfl
  have gl := HBX.out.lt
  obtain ⟨⟨hl1, hl2, hl3⟩, hc1, hc2⟩ := HBD.out k hk HCL.out
  by_cases hlt : k < g.items.length
  case neg =>
    obtain rfl : k = g.items.length := by omega
    have HR : Hid (r = if (gsTo g.items g.items.length).l < (gsTo g.items g.items.length).o then (0, 25) else if (gsTo g.items g.items.length).c < (g.notes.length : Int) then (0, 14) else (0, 0)) := Lib.hid (by rw [HG2.out, HFN.out HCL.out])
    generalize (gsTo g.items g.items.length).l = l at *
    generalize (gsTo g.items g.items.length).o = o at *
    generalize (gsTo g.items g.items.length).c = c at *
    clear hl1 hl2 hl3 hc1 hc2 hlt hk
    by_cases q1 : l < o
    · have HR2 : Hid (r = (0, 25)) := Lib.hid (by rw [HR.out, if_pos q1])
      go_wp2
      go_ret2
      exact Ret.mk' (by rw [HV.out, HR2.out]; rfl) (HX.out.2.trans (HX2.out.trans (by repeat (first | exact Ext.refl _ | assumption | refine Ext.alloc ?_ _ | refine Ext.drew ?_ | refine Ext.drewN ?_ _ | (refine Ext.setCell ?_ (by simp <;> omega) _) | refine Ext.trans ?_ (by assumption)))))
    · by_cases q2 : c < (g.notes.length : Int)
      · have HR2 : Hid (r = (0, 14)) := Lib.hid (by rw [HR.out, if_neg q1, if_pos q2])
        go_wp2
        go_ret2
        exact Ret.mk' (by rw [HV.out, HR2.out]; rfl) (HX.out.2.trans (HX2.out.trans (by repeat (first | exact Ext.refl _ | assumption | refine Ext.alloc ?_ _ | refine Ext.drew ?_ | refine Ext.drewN ?_ _ | (refine Ext.setCell ?_ (by simp <;> omega) _) | refine Ext.trans ?_ (by assumption)))))
      · have HR2 : Hid (r = (0, 0)) := Lib.hid (by rw [HR.out, if_neg q1, if_neg q2])
        go_wp2
        go_ret2
        exact Ret.mk' (by rw [HV.out, HR2.out]; rfl) (HX.out.2.trans (HX2.out.trans (by repeat (first | exact Ext.refl _ | assumption | refine Ext.alloc ?_ _ | refine Ext.drew ?_ | refine Ext.drewN ?_ _ | (refine Ext.setCell ?_ (by simp <;> omega) _) | refine Ext.trans ?_ (by assumption)))))
  case pos =>
  obtain ⟨b, off, hA, hbw, c0, c1, c2, c3, c4⟩ := (HG.out.rp.ext (HX.out.2.trans HX2.out)).at hlt
  have HI : Hid (errAt g.notes.length g.items k = itemErr g.notes.length (gsTo g.items k).l (gsTo g.items k).o (gsTo g.items k).c (g.items.getD k IT.zero)) := Lib.hid rfl
  have HN : Hid (gsTo g.items (k + 1) = (gsTo g.items k).next (g.items.getD k IT.zero)) := Lib.hid rfl
  have HBAD : Hid (∀ e, errAt g.notes.length g.items k = e → e ≠ 0 → r = ((k : Int), e)) := Lib.hid fun e he h0 => by
    rw [HG2.out, HFS.out k HCL.out hlt (by rw [he]; exact h0)]
    show ((k : Int), errAt g.notes.length g.items k) = _
    rw [he]
  have HOK : Hid (errAt g.notes.length g.items k = 0 → cleanG g.notes.length g.items (k + 1)) := Lib.hid fun h => cleanG_succ HCL.out h
  have hx9 := (HG.out.sz k hlt)
  unfold IT.ok I64 at hx9
  rw [hA] at g0
  have HA := Lib.hid hA
  have hkl : (k : Int) < (g.items.length : Int) := by omega
  have HKX := Lib.hid hlt
  generalize hgn9 : gsTo g.items (k + 1) = gn at *
  have HGN := Lib.hid hgn9; clear hgn9
  generalize gsTo g.items k = gk at *
  generalize errAt g.notes.length g.items k = ez at *
  generalize g.items.getD k IT.zero = x at *
  obtain ⟨xk, xh, xn, xl, xm⟩ := x
  obtain ⟨l, o, c⟩ := gk
  obtain ⟨gnl, gno, gnc⟩ := gn
  simp only at c0 c1 c2 c3 c4 hl1 hl2 hl3 hc1 hc2 hx9
  have HNN := HN.out
  unfold GS.next at HNN
  simp only [GS.mk.injEq] at HNN
  obtain ⟨hn1, hn2, hn3⟩ := HNN
  have HN1 := Lib.hid hn1; have HN2' := Lib.hid hn2; have HN3 := Lib.hid hn3
  have HIE : Hid (ez = if ¬ (1 ≤ xk ∧ xk ≤ 4) then 15 else if ¬ (1 ≤ xh ∧ xh ≤ 2000) then 2 else if (xk = 4 ∧ xn ≠ -1) ∨ (xk ≠ 1 ∧ (xl ≠ 0 ∨ xm ≠ 0)) then 3 else if xk ≠ 1 ∧ l < o then 9
    else if xk = 1 ∧ (xm < 1 ∨ xl ≠ (if l < o then l + 1 else 1) ∨ xm ≠ (if l < o then o else xm)) then 9 else if xn = -1 then 0 else if ¬ (0 ≤ xn ∧ xn ≤ (g.notes.length : Int) - 1) then 6 else if xn ≠ c then 28 else 0) := Lib.hid HI.out
  have hnl : (0 : Int) ≤ (g.notes.length : Int) := by omega
  have hnl2 : (g.notes.length : Int) ≤ 40 := by have := HN2.out; omega
  clear hn1 hn2 hn3 HI HN hlt hA hk
  by_cases hlo : l < o
  · have HIF : Hid (ez = if ¬ (1 ≤ xk ∧ xk ≤ 4) then 15 else if ¬ (1 ≤ xh ∧ xh ≤ 2000) then 2 else if (xk = 4 ∧ xn ≠ -1) ∨ (xk ≠ 1 ∧ (xl ≠ 0 ∨ xm ≠ 0)) then 3 else if xk ≠ 1 ∧ l < o then 9 else if xk = 1 ∧ (xm < 1 ∨ xl ≠ l + 1 ∨ xm ≠ o) then 9 else if xn = -1 then 0 else if ¬ (0 ≤ xn ∧ xn ≤ (g.notes.length : Int) - 1) then 6 else if xn ≠ c then 28 else 0) := Lib.hid (by rw [HIE.out]; simp only [if_pos hlo])
    have hl9 : l ≤ 9223372036854775806 := by omega
    by_cases hk1 : 1 ≤ xk ∧ xk ≤ 4
    case neg =>
      have HR9 : Hid (r = ((k : Int), 15)) := Lib.hid (HBAD.out 15 (by rw [HIF.out]; (repeat (first | rw [if_pos (by omega)] | rw [if_neg (by omega)]))) (by decide))
      clear HBAD HOK HIF HIE
      go_wp2_with (first | (go_at_call 58; refine Calls.mono (bWithin_yes _ _ _ _ ?_) ?_; (omega); rintro e w1 ⟨rfl, rfl⟩) | (go_at_call 58; refine Calls.mono (bWithin_no _ _ _ _ ?_) ?_; (omega); rintro e w1 ⟨rfl, rfl⟩))
      go_ret2
      exact Ret.mk' (by rw [HV.out, HR9.out]; rfl) (HX.out.2.trans (HX2.out.trans (by repeat (first | exact Ext.refl _ | assumption | refine Ext.alloc ?_ _ | refine Ext.drew ?_ | refine Ext.drewN ?_ _ | (refine Ext.setCell ?_ (by simp <;> omega) _) | refine Ext.trans ?_ (by assumption)))))
    by_cases hk2 : 1 ≤ xh ∧ xh ≤ 2000
    case neg =>
      have HR9 : Hid (r = ((k : Int), 2)) := Lib.hid (HBAD.out 2 (by rw [HIF.out]; (repeat (first | rw [if_pos (by omega)] | rw [if_neg (by omega)]))) (by decide))
      clear HBAD HOK HIF HIE
      go_wp2_with (first | (go_at_call 58; refine Calls.mono (bWithin_yes _ _ _ _ ?_) ?_; (omega); rintro e w1 ⟨rfl, rfl⟩) | (go_at_call 58; refine Calls.mono (bWithin_no _ _ _ _ ?_) ?_; (omega); rintro e w1 ⟨rfl, rfl⟩))
      go_ret2
      exact Ret.mk' (by rw [HV.out, HR9.out]; rfl) (HX.out.2.trans (HX2.out.trans (by repeat (first | exact Ext.refl _ | assumption | refine Ext.alloc ?_ _ | refine Ext.drew ?_ | refine Ext.drewN ?_ _ | (refine Ext.setCell ?_ (by simp <;> omega) _) | refine Ext.trans ?_ (by assumption)))))
    obtain rfl | rfl | rfl | rfl : xk = 1 ∨ xk = 2 ∨ xk = 3 ∨ xk = 4 := by omega
    · by_cases hm : xm < 1
      case pos =>
        have HR9 : Hid (r = ((k : Int), 9)) := Lib.hid (HBAD.out 9 (by rw [HIF.out]; (repeat (first | rw [if_pos (by omega)] | rw [if_neg (by omega)]))) (by decide))
        clear HBAD HOK HIF HIE
        go_wp2_with (first | (go_at_call 58; refine Calls.mono (bWithin_yes _ _ _ _ ?_) ?_; (omega); rintro e w1 ⟨rfl, rfl⟩) | (go_at_call 58; refine Calls.mono (bWithin_no _ _ _ _ ?_) ?_; (omega); rintro e w1 ⟨rfl, rfl⟩))
        go_ret2
        exact Ret.mk' (by rw [HV.out, HR9.out]; rfl) (HX.out.2.trans (HX2.out.trans (by repeat (first | exact Ext.refl _ | assumption | refine Ext.alloc ?_ _ | refine Ext.drew ?_ | refine Ext.drewN ?_ _ | (refine Ext.setCell ?_ (by simp <;> omega) _) | refine Ext.trans ?_ (by assumption)))))
      by_cases hli : xl = l + 1
      case neg =>
        have HR9 : Hid (r = ((k : Int), 9)) := Lib.hid (HBAD.out 9 (by rw [HIF.out]; (repeat (first | rw [if_pos (by omega)] | rw [if_neg (by omega)]))) (by decide))
        have q9 : (l == o) = false := by rw [beq_eq_false_iff_ne]; omega
        have b1 : (xl != l + 1) = true := by simpa using hli
        clear hli
        clear HBAD HOK HIF HIE
        go_wp2_with (first | (go_at_call 58; refine Calls.mono (bWithin_yes _ _ _ _ ?_) ?_; (omega); rintro e w1 ⟨rfl, rfl⟩) | (go_at_call 58; refine Calls.mono (bWithin_no _ _ _ _ ?_) ?_; (omega); rintro e w1 ⟨rfl, rfl⟩))
        go_ret2
        exact Ret.mk' (by rw [HV.out, HR9.out]; rfl) (HX.out.2.trans (HX2.out.trans (by repeat (first | exact Ext.refl _ | assumption | refine Ext.alloc ?_ _ | refine Ext.drew ?_ | refine Ext.drewN ?_ _ | (refine Ext.setCell ?_ (by simp <;> omega) _) | refine Ext.trans ?_ (by assumption)))))
      by_cases hmo : xm = o
      case neg =>
        have HR9 : Hid (r = ((k : Int), 9)) := Lib.hid (HBAD.out 9 (by rw [HIF.out]; (repeat (first | rw [if_pos (by omega)] | rw [if_neg (by omega)]))) (by decide))
        have q9 : (l == o) = false := by rw [beq_eq_false_iff_ne]; omega
        have b1 : (xl != l + 1) = false := by simpa using hli
        have b2 : (xm != o) = true := by simpa using hmo
        clear hli hmo
        clear HBAD HOK HIF HIE
        go_wp2_with (first | (go_at_call 58; refine Calls.mono (bWithin_yes _ _ _ _ ?_) ?_; (omega); rintro e w1 ⟨rfl, rfl⟩) | (go_at_call 58; refine Calls.mono (bWithin_no _ _ _ _ ?_) ?_; (omega); rintro e w1 ⟨rfl, rfl⟩))
        go_ret2
        exact Ret.mk' (by rw [HV.out, HR9.out]; rfl) (HX.out.2.trans (HX2.out.trans (by repeat (first | exact Ext.refl _ | assumption | refine Ext.alloc ?_ _ | refine Ext.drew ?_ | refine Ext.drewN ?_ _ | (refine Ext.setCell ?_ (by simp <;> omega) _) | refine Ext.trans ?_ (by assumption)))))
      have HIF2 : Hid (ez = if xn = -1 then 0 else if ¬ (0 ≤ xn ∧ xn ≤ (g.notes.length : Int) - 1) then 6 else if xn ≠ c then 28 else 0) := Lib.hid (by rw [HIF.out, if_neg (by omega), if_neg (by omega), if_neg (by omega), if_neg (by omega), if_neg (by omega)])
      clear HIF HIE; have HIF := HIF2; clear HIF2; have HIE := HIF
      have HL9 : Hid (gnl = xl) := Lib.hid (by rw [HN1.out, if_pos rfl])
      have HO9 : Hid (gno = xm) := Lib.hid (by rw [HN2'.out, if_pos rfl])
      have q9 : (l == o) = false := by rw [beq_eq_false_iff_ne]; omega
      have b1 : (xl != l + 1) = false := by simpa using hli
      have b2 : (xm != o) = false := by simpa using hmo
      clear hli hmo
      go_upto_region 22 with (first | (go_at_call 58; refine Calls.mono (bWithin_yes _ _ _ _ ?_) ?_; (omega); rintro e w1 ⟨rfl, rfl⟩) | (go_at_call 58; refine Calls.mono (bWithin_no _ _ _ _ ?_) ?_; (omega); rintro e w1 ⟨rfl, rfl⟩))
      refine wp_region_steady (Ext _) [?_, ?_, ?_, ?_, ?_, ?_] (by kernel_rfl) (by kernel_rfl) rfl (Ext.refl _).drew ?_ ?_
      rotate_left 6
      · refine StepsT.cons (fun W hW => ?_) ?_
        · have q3 := ((Blk.new wr 86 #[.int .i64 1, .int .i64 xh, .int .i64 xn, .int .i64 xl, .int .i64 xm]).ext hW).cell 3 _ rfl; have q4 := ((Blk.new wr 86 #[.int .i64 1, .int .i64 xh, .int .i64 xn, .int .i64 xl, .int .i64 xm]).ext hW).cell 4 _ rfl; first | (refine StepT.off rfl hW ?_; rfl) | (refine StepT.go rfl ?_; go_simp; first | (refine ⟨?_, hW⟩; rfl))
        simp only [Act.put, List.setIfInBounds_toArray, List.set_cons_zero, List.set_cons_succ]
        refine StepsT.cons (fun W hW => ?_) ?_
        · have q3 := ((Blk.new wr 86 #[.int .i64 1, .int .i64 xh, .int .i64 xn, .int .i64 xl, .int .i64 xm]).ext hW).cell 3 _ rfl; have q4 := ((Blk.new wr 86 #[.int .i64 1, .int .i64 xh, .int .i64 xn, .int .i64 xl, .int .i64 xm]).ext hW).cell 4 _ rfl; first | (refine StepT.off rfl hW ?_; rfl) | (refine StepT.go rfl ?_; go_simp; first | (refine ⟨?_, hW⟩; rfl))
        simp only [Act.put, List.setIfInBounds_toArray, List.set_cons_zero, List.set_cons_succ]
        refine StepsT.cons (fun W hW => ?_) ?_
        · have q3 := ((Blk.new wr 86 #[.int .i64 1, .int .i64 xh, .int .i64 xn, .int .i64 xl, .int .i64 xm]).ext hW).cell 3 _ rfl; have q4 := ((Blk.new wr 86 #[.int .i64 1, .int .i64 xh, .int .i64 xn, .int .i64 xl, .int .i64 xm]).ext hW).cell 4 _ rfl; first | (refine StepT.off rfl hW ?_; rfl) | (refine StepT.go rfl ?_; go_simp; first | (refine ⟨?_, hW⟩; rfl))
        simp only [Act.put, List.setIfInBounds_toArray, List.set_cons_zero, List.set_cons_succ]
        refine StepsT.cons (fun W hW => ?_) ?_
        · have q3 := ((Blk.new wr 86 #[.int .i64 1, .int .i64 xh, .int .i64 xn, .int .i64 xl, .int .i64 xm]).ext hW).cell 3 _ rfl; have q4 := ((Blk.new wr 86 #[.int .i64 1, .int .i64 xh, .int .i64 xn, .int .i64 xl, .int .i64 xm]).ext hW).cell 4 _ rfl; first | (refine StepT.off rfl hW ?_; rfl) | (refine StepT.go rfl ?_; go_simp; first | (refine ⟨?_, hW⟩; rfl))
        simp only [Act.put, List.setIfInBounds_toArray, List.set_cons_zero, List.set_cons_succ]
        refine StepsT.cons (fun W hW => ?_) ?_
        · have q3 := ((Blk.new wr 86 #[.int .i64 1, .int .i64 xh, .int .i64 xn, .int .i64 xl, .int .i64 xm]).ext hW).cell 3 _ rfl; have q4 := ((Blk.new wr 86 #[.int .i64 1, .int .i64 xh, .int .i64 xn, .int .i64 xl, .int .i64 xm]).ext hW).cell 4 _ rfl; first | (refine StepT.off rfl hW ?_; rfl) | (refine StepT.go rfl ?_; go_simp; first | (refine ⟨?_, hW⟩; rfl))
        simp only [Act.put, List.setIfInBounds_toArray, List.set_cons_zero, List.set_cons_succ]
        refine StepsT.cons (fun W hW => ?_) ?_
        · have q3 := ((Blk.new wr 86 #[.int .i64 1, .int .i64 xh, .int .i64 xn, .int .i64 xl, .int .i64 xm]).ext hW).cell 3 _ rfl; have q4 := ((Blk.new wr 86 #[.int .i64 1, .int .i64 xh, .int .i64 xn, .int .i64 xl, .int .i64 xm]).ext hW).cell 4 _ rfl; first | (refine StepT.off rfl hW ?_; rfl) | (refine StepT.go rfl ?_; go_simp; first | (refine ⟨?_, hW⟩; rfl))
        simp only [Act.put, List.setIfInBounds_toArray, List.set_cons_zero, List.set_cons_succ]
        trivial
      intro W hW
      simp only [putAll, Act.put, List.setIfInBounds_toArray, List.set_cons_zero, List.set_cons_succ]
      have hxb := (Blk.new wr 86 #[.int .i64 1, .int .i64 xh, .int .i64 xn, .int .i64 xl, .int .i64 xm]).ext hW
      have p2 := hxb.cell 2 _ rfl; have pl := hxb.lt
      have HBY := Lib.hid (HBX.out.ext (Ext.trans (a := wr) (by repeat (first | exact Ext.refl _ | assumption | refine Ext.alloc ?_ _ | refine Ext.drew ?_ | refine Ext.drewN ?_ _ | (refine Ext.setCell ?_ (by simp <;> omega) _) | refine Ext.trans ?_ (by assumption))) hW))
      have y0 := HBY.out.cell 0 _ rfl; have y1 := HBY.out.cell 1 _ rfl; have yl := HBY.out.lt; rw [HA.out] at y0
      clear hxb
      by_cases hnt : xn = -1
      · have HC9 := Lib.hid (HOK.out (by rw [HIF.out]; (repeat (first | rw [if_pos (by omega)] | rw [if_neg (by omega)]))))
        have HK9 : Hid (gnc = c) := Lib.hid (by rw [HN3.out, if_pos hnt])
        have n1 : (xn != -1) = false := by simpa using hnt
        clear hnt
        clear HBAD HOK HIF HIE
        go_wp2_with (first | (go_at_call 58; refine Calls.mono (bWithin_yes _ _ _ _ ?_) ?_; (omega); rintro e w1 ⟨rfl, rfl⟩) | (go_at_call 58; refine Calls.mono (bWithin_no _ _ _ _ ?_) ?_; (omega); rintro e w1 ⟨rfl, rfl⟩))
        go_roundw
        case rel => exact ⟨k + 1, by have := HKX.out; omega, by go_num, by rw [HGN.out, ← HL9.out], by rw [HGN.out, ← HO9.out], by rw [HGN.out, ← HK9.out], HC9, Lib.hid (HX2.out.trans (by repeat (first | exact Ext.refl _ | assumption | refine Ext.alloc ?_ _ | refine Ext.drew ?_ | refine Ext.drewN ?_ _ | (refine Ext.setCell ?_ (by simp <;> omega) _) | refine Ext.trans ?_ (by assumption))))⟩
        case measure => have := HKX.out; simp [intOf]; omega
      have n1 : (xn != -1) = true := by simpa using hnt
      by_cases hn2 : 0 ≤ xn ∧ xn ≤ (g.notes.length : Int) - 1
      case neg =>
        have HR9 : Hid (r = ((k : Int), 6)) := Lib.hid (HBAD.out 6 (by rw [HIF.out]; (repeat (first | rw [if_pos (by omega)] | rw [if_neg (by omega)]))) (by decide))
        clear hnt
        clear HBAD HOK HIF HIE
        go_wp2_with (first | (go_at_call 58; refine Calls.mono (bWithin_yes _ _ _ _ ?_) ?_; (omega); rintro e w1 ⟨rfl, rfl⟩) | (go_at_call 58; refine Calls.mono (bWithin_no _ _ _ _ ?_) ?_; (omega); rintro e w1 ⟨rfl, rfl⟩))
        go_ret2
        exact Ret.mk' (by rw [HV.out, HR9.out]; rfl) (HX.out.2.trans (HX2.out.trans (by repeat (first | exact Ext.refl _ | assumption | refine Ext.alloc ?_ _ | refine Ext.drew ?_ | refine Ext.drewN ?_ _ | (refine Ext.setCell ?_ (by simp <;> omega) _) | refine Ext.trans ?_ (by assumption)))))
      by_cases hn3 : xn = c
      case neg =>
        have HR9 : Hid (r = ((k : Int), 28)) := Lib.hid (HBAD.out 28 (by rw [HIF.out]; (repeat (first | rw [if_pos (by omega)] | rw [if_neg (by omega)]))) (by decide))
        have n3 : (xn != c) = true := by simpa using hn3
        clear hnt hn3
        clear HBAD HOK HIF HIE
        go_wp2_with (first | (go_at_call 58; refine Calls.mono (bWithin_yes _ _ _ _ ?_) ?_; (omega); rintro e w1 ⟨rfl, rfl⟩) | (go_at_call 58; refine Calls.mono (bWithin_no _ _ _ _ ?_) ?_; (omega); rintro e w1 ⟨rfl, rfl⟩))
        go_ret2
        exact Ret.mk' (by rw [HV.out, HR9.out]; rfl) (HX.out.2.trans (HX2.out.trans (by repeat (first | exact Ext.refl _ | assumption | refine Ext.alloc ?_ _ | refine Ext.drew ?_ | refine Ext.drewN ?_ _ | (refine Ext.setCell ?_ (by simp <;> omega) _) | refine Ext.trans ?_ (by assumption)))))
      have HC9 := Lib.hid (HOK.out (by rw [HIF.out]; (repeat (first | rw [if_pos (by omega)] | rw [if_neg (by omega)]))))
      have HK9 : Hid (gnc = c + 1) := Lib.hid (by rw [HN3.out, if_neg hnt])
      have n3 : (xn != c) = false := by simpa using hn3
      clear hnt hn3
      clear HBAD HOK HIF HIE
      go_wp2_with (first | (go_at_call 58; refine Calls.mono (bWithin_yes _ _ _ _ ?_) ?_; (omega); rintro e w1 ⟨rfl, rfl⟩) | (go_at_call 58; refine Calls.mono (bWithin_no _ _ _ _ ?_) ?_; (omega); rintro e w1 ⟨rfl, rfl⟩))
      go_roundw
      case rel => exact ⟨k + 1, by have := HKX.out; omega, by go_num, by rw [HGN.out, ← HL9.out], by rw [HGN.out, ← HO9.out], by rw [HGN.out, ← HK9.out], HC9, Lib.hid (HX2.out.trans (by repeat (first | exact Ext.refl _ | assumption | refine Ext.alloc ?_ _ | refine Ext.drew ?_ | refine Ext.drewN ?_ _ | (refine Ext.setCell ?_ (by simp <;> omega) _) | refine Ext.trans ?_ (by assumption))))⟩
      case measure => have := HKX.out; simp [intOf]; omega
    · by_cases hli : xl = 0
      case neg =>
        have HR9 : Hid (r = ((k : Int), 3)) := Lib.hid (HBAD.out 3 (by rw [HIF.out]; (repeat (first | rw [if_pos (by omega)] | rw [if_neg (by omega)]))) (by decide))
        have b1 : (xl != 0) = true := by simpa using hli
        clear hli
        clear HBAD HOK HIF HIE
        go_wp2_with (first | (go_at_call 58; refine Calls.mono (bWithin_yes _ _ _ _ ?_) ?_; (omega); rintro e w1 ⟨rfl, rfl⟩) | (go_at_call 58; refine Calls.mono (bWithin_no _ _ _ _ ?_) ?_; (omega); rintro e w1 ⟨rfl, rfl⟩))
        go_ret2
        exact Ret.mk' (by rw [HV.out, HR9.out]; rfl) (HX.out.2.trans (HX2.out.trans (by repeat (first | exact Ext.refl _ | assumption | refine Ext.alloc ?_ _ | refine Ext.drew ?_ | refine Ext.drewN ?_ _ | (refine Ext.setCell ?_ (by simp <;> omega) _) | refine Ext.trans ?_ (by assumption)))))
      by_cases hmo : xm = 0
      case neg =>
        have HR9 : Hid (r = ((k : Int), 3)) := Lib.hid (HBAD.out 3 (by rw [HIF.out]; (repeat (first | rw [if_pos (by omega)] | rw [if_neg (by omega)]))) (by decide))
        have b1 : (xl != 0) = false := by simpa using hli
        have b2 : (xm != 0) = true := by simpa using hmo
        clear hli hmo
        clear HBAD HOK HIF HIE
        go_wp2_with (first | (go_at_call 58; refine Calls.mono (bWithin_yes _ _ _ _ ?_) ?_; (omega); rintro e w1 ⟨rfl, rfl⟩) | (go_at_call 58; refine Calls.mono (bWithin_no _ _ _ _ ?_) ?_; (omega); rintro e w1 ⟨rfl, rfl⟩))
        go_ret2
        exact Ret.mk' (by rw [HV.out, HR9.out]; rfl) (HX.out.2.trans (HX2.out.trans (by repeat (first | exact Ext.refl _ | assumption | refine Ext.alloc ?_ _ | refine Ext.drew ?_ | refine Ext.drewN ?_ _ | (refine Ext.setCell ?_ (by simp <;> omega) _) | refine Ext.trans ?_ (by assumption)))))
      have HR9 : Hid (r = ((k : Int), 9)) := Lib.hid (HBAD.out 9 (by rw [HIF.out]; (repeat (first | rw [if_pos (by omega)] | rw [if_neg (by omega)]))) (by decide))
      have b1 : (xl != 0) = false := by simpa using hli
      have b2 : (xm != 0) = false := by simpa using hmo
      clear hli hmo
      clear HBAD HOK HIF HIE
      go_wp2_with (first | (go_at_call 58; refine Calls.mono (bWithin_yes _ _ _ _ ?_) ?_; (omega); rintro e w1 ⟨rfl, rfl⟩) | (go_at_call 58; refine Calls.mono (bWithin_no _ _ _ _ ?_) ?_; (omega); rintro e w1 ⟨rfl, rfl⟩))
      go_ret2
      exact Ret.mk' (by rw [HV.out, HR9.out]; rfl) (HX.out.2.trans (HX2.out.trans (by repeat (first | exact Ext.refl _ | assumption | refine Ext.alloc ?_ _ | refine Ext.drew ?_ | refine Ext.drewN ?_ _ | (refine Ext.setCell ?_ (by simp <;> omega) _) | refine Ext.trans ?_ (by assumption)))))
    · by_cases hli : xl = 0
      case neg =>
        have HR9 : Hid (r = ((k : Int), 3)) := Lib.hid (HBAD.out 3 (by rw [HIF.out]; (repeat (first | rw [if_pos (by omega)] | rw [if_neg (by omega)]))) (by decide))
        have b1 : (xl != 0) = true := by simpa using hli
        clear hli
        clear HBAD HOK HIF HIE
        go_wp2_with (first | (go_at_call 58; refine Calls.mono (bWithin_yes _ _ _ _ ?_) ?_; (omega); rintro e w1 ⟨rfl, rfl⟩) | (go_at_call 58; refine Calls.mono (bWithin_no _ _ _ _ ?_) ?_; (omega); rintro e w1 ⟨rfl, rfl⟩))
        go_ret2
        exact Ret.mk' (by rw [HV.out, HR9.out]; rfl) (HX.out.2.trans (HX2.out.trans (by repeat (first | exact Ext.refl _ | assumption | refine Ext.alloc ?_ _ | refine Ext.drew ?_ | refine Ext.drewN ?_ _ | (refine Ext.setCell ?_ (by simp <;> omega) _) | refine Ext.trans ?_ (by assumption)))))
      by_cases hmo : xm = 0
      case neg =>
        have HR9 : Hid (r = ((k : Int), 3)) := Lib.hid (HBAD.out 3 (by rw [HIF.out]; (repeat (first | rw [if_pos (by omega)] | rw [if_neg (by omega)]))) (by decide))
        have b1 : (xl != 0) = false := by simpa using hli
        have b2 : (xm != 0) = true := by simpa using hmo
        clear hli hmo
        clear HBAD HOK HIF HIE
        go_wp2_with (first | (go_at_call 58; refine Calls.mono (bWithin_yes _ _ _ _ ?_) ?_; (omega); rintro e w1 ⟨rfl, rfl⟩) | (go_at_call 58; refine Calls.mono (bWithin_no _ _ _ _ ?_) ?_; (omega); rintro e w1 ⟨rfl, rfl⟩))
        go_ret2
        exact Ret.mk' (by rw [HV.out, HR9.out]; rfl) (HX.out.2.trans (HX2.out.trans (by repeat (first | exact Ext.refl _ | assumption | refine Ext.alloc ?_ _ | refine Ext.drew ?_ | refine Ext.drewN ?_ _ | (refine Ext.setCell ?_ (by simp <;> omega) _) | refine Ext.trans ?_ (by assumption)))))
      have HR9 : Hid (r = ((k : Int), 9)) := Lib.hid (HBAD.out 9 (by rw [HIF.out]; (repeat (first | rw [if_pos (by omega)] | rw [if_neg (by omega)]))) (by decide))
      have b1 : (xl != 0) = false := by simpa using hli
      have b2 : (xm != 0) = false := by simpa using hmo
      clear hli hmo
      clear HBAD HOK HIF HIE
      go_wp2_with (first | (go_at_call 58; refine Calls.mono (bWithin_yes _ _ _ _ ?_) ?_; (omega); rintro e w1 ⟨rfl, rfl⟩) | (go_at_call 58; refine Calls.mono (bWithin_no _ _ _ _ ?_) ?_; (omega); rintro e w1 ⟨rfl, rfl⟩))
      go_ret2
      exact Ret.mk' (by rw [HV.out, HR9.out]; rfl) (HX.out.2.trans (HX2.out.trans (by repeat (first | exact Ext.refl _ | assumption | refine Ext.alloc ?_ _ | refine Ext.drew ?_ | refine Ext.drewN ?_ _ | (refine Ext.setCell ?_ (by simp <;> omega) _) | refine Ext.trans ?_ (by assumption)))))
    · by_cases hnt : xn = -1
      case neg =>
        have HR9 : Hid (r = ((k : Int), 3)) := Lib.hid (HBAD.out 3 (by rw [HIF.out]; (repeat (first | rw [if_pos (by omega)] | rw [if_neg (by omega)]))) (by decide))
        have n1 : (xn != -1) = true := by simpa using hnt
        clear hnt
        clear HBAD HOK HIF HIE
        go_wp2_with (first | (go_at_call 58; refine Calls.mono (bWithin_yes _ _ _ _ ?_) ?_; (omega); rintro e w1 ⟨rfl, rfl⟩) | (go_at_call 58; refine Calls.mono (bWithin_no _ _ _ _ ?_) ?_; (omega); rintro e w1 ⟨rfl, rfl⟩))
        go_ret2
        exact Ret.mk' (by rw [HV.out, HR9.out]; rfl) (HX.out.2.trans (HX2.out.trans (by repeat (first | exact Ext.refl _ | assumption | refine Ext.alloc ?_ _ | refine Ext.drew ?_ | refine Ext.drewN ?_ _ | (refine Ext.setCell ?_ (by simp <;> omega) _) | refine Ext.trans ?_ (by assumption)))))
      by_cases hli : xl = 0
      case neg =>
        have HR9 : Hid (r = ((k : Int), 3)) := Lib.hid (HBAD.out 3 (by rw [HIF.out]; (repeat (first | rw [if_pos (by omega)] | rw [if_neg (by omega)]))) (by decide))
        have n1 : (xn != -1) = false := by simpa using hnt
        have b1 : (xl != 0) = true := by simpa using hli
        clear hli hnt
        clear HBAD HOK HIF HIE
        go_wp2_with (first | (go_at_call 58; refine Calls.mono (bWithin_yes _ _ _ _ ?_) ?_; (omega); rintro e w1 ⟨rfl, rfl⟩) | (go_at_call 58; refine Calls.mono (bWithin_no _ _ _ _ ?_) ?_; (omega); rintro e w1 ⟨rfl, rfl⟩))
        go_ret2
        exact Ret.mk' (by rw [HV.out, HR9.out]; rfl) (HX.out.2.trans (HX2.out.trans (by repeat (first | exact Ext.refl _ | assumption | refine Ext.alloc ?_ _ | refine Ext.drew ?_ | refine Ext.drewN ?_ _ | (refine Ext.setCell ?_ (by simp <;> omega) _) | refine Ext.trans ?_ (by assumption)))))
      by_cases hmo : xm = 0
      case neg =>
        have HR9 : Hid (r = ((k : Int), 3)) := Lib.hid (HBAD.out 3 (by rw [HIF.out]; (repeat (first | rw [if_pos (by omega)] | rw [if_neg (by omega)]))) (by decide))
        have n1 : (xn != -1) = false := by simpa using hnt
        have b1 : (xl != 0) = false := by simpa using hli
        have b2 : (xm != 0) = true := by simpa using hmo
        clear hli hmo hnt
        clear HBAD HOK HIF HIE
        go_wp2_with (first | (go_at_call 58; refine Calls.mono (bWithin_yes _ _ _ _ ?_) ?_; (omega); rintro e w1 ⟨rfl, rfl⟩) | (go_at_call 58; refine Calls.mono (bWithin_no _ _ _ _ ?_) ?_; (omega); rintro e w1 ⟨rfl, rfl⟩))
        go_ret2
        exact Ret.mk' (by rw [HV.out, HR9.out]; rfl) (HX.out.2.trans (HX2.out.trans (by repeat (first | exact Ext.refl _ | assumption | refine Ext.alloc ?_ _ | refine Ext.drew ?_ | refine Ext.drewN ?_ _ | (refine Ext.setCell ?_ (by simp <;> omega) _) | refine Ext.trans ?_ (by assumption)))))
      have HR9 : Hid (r = ((k : Int), 9)) := Lib.hid (HBAD.out 9 (by rw [HIF.out]; (repeat (first | rw [if_pos (by omega)] | rw [if_neg (by omega)]))) (by decide))
      have n1 : (xn != -1) = false := by simpa using hnt
      have b1 : (xl != 0) = false := by simpa using hli
      have b2 : (xm != 0) = false := by simpa using hmo
      clear hli hmo hnt
      clear HBAD HOK HIF HIE
      go_wp2_with (first | (go_at_call 58; refine Calls.mono (bWithin_yes _ _ _ _ ?_) ?_; (omega); rintro e w1 ⟨rfl, rfl⟩) | (go_at_call 58; refine Calls.mono (bWithin_no _ _ _ _ ?_) ?_; (omega); rintro e w1 ⟨rfl, rfl⟩))
      go_ret2
      exact Ret.mk' (by rw [HV.out, HR9.out]; rfl) (HX.out.2.trans (HX2.out.trans (by repeat (first | exact Ext.refl _ | assumption | refine Ext.alloc ?_ _ | refine Ext.drew ?_ | refine Ext.drewN ?_ _ | (refine Ext.setCell ?_ (by simp <;> omega) _) | refine Ext.trans ?_ (by assumption)))))
  · have HIF : Hid (ez = if ¬ (1 ≤ xk ∧ xk ≤ 4) then 15 else if ¬ (1 ≤ xh ∧ xh ≤ 2000) then 2 else if (xk = 4 ∧ xn ≠ -1) ∨ (xk ≠ 1 ∧ (xl ≠ 0 ∨ xm ≠ 0)) then 3 else if xk ≠ 1 ∧ l < o then 9 else if xk = 1 ∧ (xm < 1 ∨ xl ≠ 1 ∨ xm ≠ xm) then 9 else if xn = -1 then 0 else if ¬ (0 ≤ xn ∧ xn ≤ (g.notes.length : Int) - 1) then 6 else if xn ≠ c then 28 else 0) := Lib.hid (by rw [HIE.out]; simp only [if_neg hlo])
    by_cases hk1 : 1 ≤ xk ∧ xk ≤ 4
    case neg =>
      have HR9 : Hid (r = ((k : Int), 15)) := Lib.hid (HBAD.out 15 (by rw [HIF.out]; (repeat (first | rw [if_pos (by omega)] | rw [if_neg (by omega)]))) (by decide))
      clear HBAD HOK HIF HIE
      go_wp2_with (first | (go_at_call 58; refine Calls.mono (bWithin_yes _ _ _ _ ?_) ?_; (omega); rintro e w1 ⟨rfl, rfl⟩) | (go_at_call 58; refine Calls.mono (bWithin_no _ _ _ _ ?_) ?_; (omega); rintro e w1 ⟨rfl, rfl⟩))
      go_ret2
      exact Ret.mk' (by rw [HV.out, HR9.out]; rfl) (HX.out.2.trans (HX2.out.trans (by repeat (first | exact Ext.refl _ | assumption | refine Ext.alloc ?_ _ | refine Ext.drew ?_ | refine Ext.drewN ?_ _ | (refine Ext.setCell ?_ (by simp <;> omega) _) | refine Ext.trans ?_ (by assumption)))))
    by_cases hk2 : 1 ≤ xh ∧ xh ≤ 2000
    case neg =>
      have HR9 : Hid (r = ((k : Int), 2)) := Lib.hid (HBAD.out 2 (by rw [HIF.out]; (repeat (first | rw [if_pos (by omega)] | rw [if_neg (by omega)]))) (by decide))
      clear HBAD HOK HIF HIE
      go_wp2_with (first | (go_at_call 58; refine Calls.mono (bWithin_yes _ _ _ _ ?_) ?_; (omega); rintro e w1 ⟨rfl, rfl⟩) | (go_at_call 58; refine Calls.mono (bWithin_no _ _ _ _ ?_) ?_; (omega); rintro e w1 ⟨rfl, rfl⟩))
      go_ret2
      exact Ret.mk' (by rw [HV.out, HR9.out]; rfl) (HX.out.2.trans (HX2.out.trans (by repeat (first | exact Ext.refl _ | assumption | refine Ext.alloc ?_ _ | refine Ext.drew ?_ | refine Ext.drewN ?_ _ | (refine Ext.setCell ?_ (by simp <;> omega) _) | refine Ext.trans ?_ (by assumption)))))
    obtain rfl | rfl | rfl | rfl : xk = 1 ∨ xk = 2 ∨ xk = 3 ∨ xk = 4 := by omega
    · by_cases hm : xm < 1
      case pos =>
        have HR9 : Hid (r = ((k : Int), 9)) := Lib.hid (HBAD.out 9 (by rw [HIF.out]; (repeat (first | rw [if_pos (by omega)] | rw [if_neg (by omega)]))) (by decide))
        clear HBAD HOK HIF HIE
        go_wp2_with (first | (go_at_call 58; refine Calls.mono (bWithin_yes _ _ _ _ ?_) ?_; (omega); rintro e w1 ⟨rfl, rfl⟩) | (go_at_call 58; refine Calls.mono (bWithin_no _ _ _ _ ?_) ?_; (omega); rintro e w1 ⟨rfl, rfl⟩))
        go_ret2
        exact Ret.mk' (by rw [HV.out, HR9.out]; rfl) (HX.out.2.trans (HX2.out.trans (by repeat (first | exact Ext.refl _ | assumption | refine Ext.alloc ?_ _ | refine Ext.drew ?_ | refine Ext.drewN ?_ _ | (refine Ext.setCell ?_ (by simp <;> omega) _) | refine Ext.trans ?_ (by assumption)))))
      by_cases hli : xl = 1
      case neg =>
        have HR9 : Hid (r = ((k : Int), 9)) := Lib.hid (HBAD.out 9 (by rw [HIF.out]; (repeat (first | rw [if_pos (by omega)] | rw [if_neg (by omega)]))) (by decide))
        have q9 : (l == o) = true := by rw [beq_iff_eq]; omega
        have b1 : (xl != 1) = true := by simpa using hli
        clear hli
        clear HBAD HOK HIF HIE
        go_wp2_with (first | (go_at_call 58; refine Calls.mono (bWithin_yes _ _ _ _ ?_) ?_; (omega); rintro e w1 ⟨rfl, rfl⟩) | (go_at_call 58; refine Calls.mono (bWithin_no _ _ _ _ ?_) ?_; (omega); rintro e w1 ⟨rfl, rfl⟩))
        go_ret2
        exact Ret.mk' (by rw [HV.out, HR9.out]; rfl) (HX.out.2.trans (HX2.out.trans (by repeat (first | exact Ext.refl _ | assumption | refine Ext.alloc ?_ _ | refine Ext.drew ?_ | refine Ext.drewN ?_ _ | (refine Ext.setCell ?_ (by simp <;> omega) _) | refine Ext.trans ?_ (by assumption)))))
      have HIF2 : Hid (ez = if xn = -1 then 0 else if ¬ (0 ≤ xn ∧ xn ≤ (g.notes.length : Int) - 1) then 6 else if xn ≠ c then 28 else 0) := Lib.hid (by rw [HIF.out, if_neg (by omega), if_neg (by omega), if_neg (by omega), if_neg (by omega), if_neg (by omega)])
      clear HIF HIE; have HIF := HIF2; clear HIF2; have HIE := HIF
      have HL9 : Hid (gnl = xl) := Lib.hid (by rw [HN1.out, if_pos rfl])
      have HO9 : Hid (gno = xm) := Lib.hid (by rw [HN2'.out, if_pos rfl])
      have q9 : (l == o) = true := by rw [beq_iff_eq]; omega
      have b1 : (xl != 1) = false := by simpa using hli
      clear hli
      go_upto_region 22 with (first | (go_at_call 58; refine Calls.mono (bWithin_yes _ _ _ _ ?_) ?_; (omega); rintro e w1 ⟨rfl, rfl⟩) | (go_at_call 58; refine Calls.mono (bWithin_no _ _ _ _ ?_) ?_; (omega); rintro e w1 ⟨rfl, rfl⟩))
      refine wp_region_steady (Ext _) [?_, ?_, ?_, ?_, ?_, ?_] (by kernel_rfl) (by kernel_rfl) rfl (Ext.refl _).drew ?_ ?_
      rotate_left 6
      · refine StepsT.cons (fun W hW => ?_) ?_
        · have q3 := ((Blk.new wr 86 #[.int .i64 1, .int .i64 xh, .int .i64 xn, .int .i64 xl, .int .i64 xm]).ext hW).cell 3 _ rfl; have q4 := ((Blk.new wr 86 #[.int .i64 1, .int .i64 xh, .int .i64 xn, .int .i64 xl, .int .i64 xm]).ext hW).cell 4 _ rfl; first | (refine StepT.off rfl hW ?_; rfl) | (refine StepT.go rfl ?_; go_simp; first | (refine ⟨?_, hW⟩; rfl))
        simp only [Act.put, List.setIfInBounds_toArray, List.set_cons_zero, List.set_cons_succ]
        refine StepsT.cons (fun W hW => ?_) ?_
        · have q3 := ((Blk.new wr 86 #[.int .i64 1, .int .i64 xh, .int .i64 xn, .int .i64 xl, .int .i64 xm]).ext hW).cell 3 _ rfl; have q4 := ((Blk.new wr 86 #[.int .i64 1, .int .i64 xh, .int .i64 xn, .int .i64 xl, .int .i64 xm]).ext hW).cell 4 _ rfl; first | (refine StepT.off rfl hW ?_; rfl) | (refine StepT.go rfl ?_; go_simp; first | (refine ⟨?_, hW⟩; rfl))
        simp only [Act.put, List.setIfInBounds_toArray, List.set_cons_zero, List.set_cons_succ]
        refine StepsT.cons (fun W hW => ?_) ?_
        · have q3 := ((Blk.new wr 86 #[.int .i64 1, .int .i64 xh, .int .i64 xn, .int .i64 xl, .int .i64 xm]).ext hW).cell 3 _ rfl; have q4 := ((Blk.new wr 86 #[.int .i64 1, .int .i64 xh, .int .i64 xn, .int .i64 xl, .int .i64 xm]).ext hW).cell 4 _ rfl; first | (refine StepT.off rfl hW ?_; rfl) | (refine StepT.go rfl ?_; go_simp; first | (refine ⟨?_, hW⟩; rfl))
        simp only [Act.put, List.setIfInBounds_toArray, List.set_cons_zero, List.set_cons_succ]
        refine StepsT.cons (fun W hW => ?_) ?_
        · have q3 := ((Blk.new wr 86 #[.int .i64 1, .int .i64 xh, .int .i64 xn, .int .i64 xl, .int .i64 xm]).ext hW).cell 3 _ rfl; have q4 := ((Blk.new wr 86 #[.int .i64 1, .int .i64 xh, .int .i64 xn, .int .i64 xl, .int .i64 xm]).ext hW).cell 4 _ rfl; first | (refine StepT.off rfl hW ?_; rfl) | (refine StepT.go rfl ?_; go_simp; first | (refine ⟨?_, hW⟩; rfl))
        simp only [Act.put, List.setIfInBounds_toArray, List.set_cons_zero, List.set_cons_succ]
        refine StepsT.cons (fun W hW => ?_) ?_
        · have q3 := ((Blk.new wr 86 #[.int .i64 1, .int .i64 xh, .int .i64 xn, .int .i64 xl, .int .i64 xm]).ext hW).cell 3 _ rfl; have q4 := ((Blk.new wr 86 #[.int .i64 1, .int .i64 xh, .int .i64 xn, .int .i64 xl, .int .i64 xm]).ext hW).cell 4 _ rfl; first | (refine StepT.off rfl hW ?_; rfl) | (refine StepT.go rfl ?_; go_simp; first | (refine ⟨?_, hW⟩; rfl))
        simp only [Act.put, List.setIfInBounds_toArray, List.set_cons_zero, List.set_cons_succ]
        refine StepsT.cons (fun W hW => ?_) ?_
        · have q3 := ((Blk.new wr 86 #[.int .i64 1, .int .i64 xh, .int .i64 xn, .int .i64 xl, .int .i64 xm]).ext hW).cell 3 _ rfl; have q4 := ((Blk.new wr 86 #[.int .i64 1, .int .i64 xh, .int .i64 xn, .int .i64 xl, .int .i64 xm]).ext hW).cell 4 _ rfl; first | (refine StepT.off rfl hW ?_; rfl) | (refine StepT.go rfl ?_; go_simp; first | (refine ⟨?_, hW⟩; rfl))
        simp only [Act.put, List.setIfInBounds_toArray, List.set_cons_zero, List.set_cons_succ]
        trivial
      intro W hW
      simp only [putAll, Act.put, List.setIfInBounds_toArray, List.set_cons_zero, List.set_cons_succ]
      have hxb := (Blk.new wr 86 #[.int .i64 1, .int .i64 xh, .int .i64 xn, .int .i64 xl, .int .i64 xm]).ext hW
      have p2 := hxb.cell 2 _ rfl; have pl := hxb.lt
      have HBY := Lib.hid (HBX.out.ext (Ext.trans (a := wr) (by repeat (first | exact Ext.refl _ | assumption | refine Ext.alloc ?_ _ | refine Ext.drew ?_ | refine Ext.drewN ?_ _ | (refine Ext.setCell ?_ (by simp <;> omega) _) | refine Ext.trans ?_ (by assumption))) hW))
      have y0 := HBY.out.cell 0 _ rfl; have y1 := HBY.out.cell 1 _ rfl; have yl := HBY.out.lt; rw [HA.out] at y0
      clear hxb
      by_cases hnt : xn = -1
      · have HC9 := Lib.hid (HOK.out (by rw [HIF.out]; (repeat (first | rw [if_pos (by omega)] | rw [if_neg (by omega)]))))
        have HK9 : Hid (gnc = c) := Lib.hid (by rw [HN3.out, if_pos hnt])
        have n1 : (xn != -1) = false := by simpa using hnt
        clear hnt
        clear HBAD HOK HIF HIE
        go_wp2_with (first | (go_at_call 58; refine Calls.mono (bWithin_yes _ _ _ _ ?_) ?_; (omega); rintro e w1 ⟨rfl, rfl⟩) | (go_at_call 58; refine Calls.mono (bWithin_no _ _ _ _ ?_) ?_; (omega); rintro e w1 ⟨rfl, rfl⟩))
        go_roundw
        case rel => exact ⟨k + 1, by have := HKX.out; omega, by go_num, by rw [HGN.out, ← HL9.out], by rw [HGN.out, ← HO9.out], by rw [HGN.out, ← HK9.out], HC9, Lib.hid (HX2.out.trans (by repeat (first | exact Ext.refl _ | assumption | refine Ext.alloc ?_ _ | refine Ext.drew ?_ | refine Ext.drewN ?_ _ | (refine Ext.setCell ?_ (by simp <;> omega) _) | refine Ext.trans ?_ (by assumption))))⟩
        case measure => have := HKX.out; simp [intOf]; omega
      have n1 : (xn != -1) = true := by simpa using hnt
      by_cases hn2 : 0 ≤ xn ∧ xn ≤ (g.notes.length : Int) - 1
      case neg =>
        have HR9 : Hid (r = ((k : Int), 6)) := Lib.hid (HBAD.out 6 (by rw [HIF.out]; (repeat (first | rw [if_pos (by omega)] | rw [if_neg (by omega)]))) (by decide))
        clear hnt
        clear HBAD HOK HIF HIE
        go_wp2_with (first | (go_at_call 58; refine Calls.mono (bWithin_yes _ _ _ _ ?_) ?_; (omega); rintro e w1 ⟨rfl, rfl⟩) | (go_at_call 58; refine Calls.mono (bWithin_no _ _ _ _ ?_) ?_; (omega); rintro e w1 ⟨rfl, rfl⟩))
        go_ret2
        exact Ret.mk' (by rw [HV.out, HR9.out]; rfl) (HX.out.2.trans (HX2.out.trans (by repeat (first | exact Ext.refl _ | assumption | refine Ext.alloc ?_ _ | refine Ext.drew ?_ | refine Ext.drewN ?_ _ | (refine Ext.setCell ?_ (by simp <;> omega) _) | refine Ext.trans ?_ (by assumption)))))
      by_cases hn3 : xn = c
      case neg =>
        have HR9 : Hid (r = ((k : Int), 28)) := Lib.hid (HBAD.out 28 (by rw [HIF.out]; (repeat (first | rw [if_pos (by omega)] | rw [if_neg (by omega)]))) (by decide))
        have n3 : (xn != c) = true := by simpa using hn3
        clear hnt hn3
        clear HBAD HOK HIF HIE
        go_wp2_with (first | (go_at_call 58; refine Calls.mono (bWithin_yes _ _ _ _ ?_) ?_; (omega); rintro e w1 ⟨rfl, rfl⟩) | (go_at_call 58; refine Calls.mono (bWithin_no _ _ _ _ ?_) ?_; (omega); rintro e w1 ⟨rfl, rfl⟩))
        go_ret2
        exact Ret.mk' (by rw [HV.out, HR9.out]; rfl) (HX.out.2.trans (HX2.out.trans (by repeat (first | exact Ext.refl _ | assumption | refine Ext.alloc ?_ _ | refine Ext.drew ?_ | refine Ext.drewN ?_ _ | (refine Ext.setCell ?_ (by simp <;> omega) _) | refine Ext.trans ?_ (by assumption)))))
      have HC9 := Lib.hid (HOK.out (by rw [HIF.out]; (repeat (first | rw [if_pos (by omega)] | rw [if_neg (by omega)]))))
      have HK9 : Hid (gnc = c + 1) := Lib.hid (by rw [HN3.out, if_neg hnt])
      have n3 : (xn != c) = false := by simpa using hn3
      clear hnt hn3
      clear HBAD HOK HIF HIE
      go_wp2_with (first | (go_at_call 58; refine Calls.mono (bWithin_yes _ _ _ _ ?_) ?_; (omega); rintro e w1 ⟨rfl, rfl⟩) | (go_at_call 58; refine Calls.mono (bWithin_no _ _ _ _ ?_) ?_; (omega); rintro e w1 ⟨rfl, rfl⟩))
      go_roundw
      case rel => exact ⟨k + 1, by have := HKX.out; omega, by go_num, by rw [HGN.out, ← HL9.out], by rw [HGN.out, ← HO9.out], by rw [HGN.out, ← HK9.out], HC9, Lib.hid (HX2.out.trans (by repeat (first | exact Ext.refl _ | assumption | refine Ext.alloc ?_ _ | refine Ext.drew ?_ | refine Ext.drewN ?_ _ | (refine Ext.setCell ?_ (by simp <;> omega) _) | refine Ext.trans ?_ (by assumption))))⟩
      case measure => have := HKX.out; simp [intOf]; omega
    · by_cases hli : xl = 0
      case neg =>
        have HR9 : Hid (r = ((k : Int), 3)) := Lib.hid (HBAD.out 3 (by rw [HIF.out]; (repeat (first | rw [if_pos (by omega)] | rw [if_neg (by omega)]))) (by decide))
        have b1 : (xl != 0) = true := by simpa using hli
        clear hli
        clear HBAD HOK HIF HIE
        go_wp2_with (first | (go_at_call 58; refine Calls.mono (bWithin_yes _ _ _ _ ?_) ?_; (omega); rintro e w1 ⟨rfl, rfl⟩) | (go_at_call 58; refine Calls.mono (bWithin_no _ _ _ _ ?_) ?_; (omega); rintro e w1 ⟨rfl, rfl⟩))
        go_ret2
        exact Ret.mk' (by rw [HV.out, HR9.out]; rfl) (HX.out.2.trans (HX2.out.trans (by repeat (first | exact Ext.refl _ | assumption | refine Ext.alloc ?_ _ | refine Ext.drew ?_ | refine Ext.drewN ?_ _ | (refine Ext.setCell ?_ (by simp <;> omega) _) | refine Ext.trans ?_ (by assumption)))))
      by_cases hmo : xm = 0
      case neg =>
        have HR9 : Hid (r = ((k : Int), 3)) := Lib.hid (HBAD.out 3 (by rw [HIF.out]; (repeat (first | rw [if_pos (by omega)] | rw [if_neg (by omega)]))) (by decide))
        have b1 : (xl != 0) = false := by simpa using hli
        have b2 : (xm != 0) = true := by simpa using hmo
        clear hli hmo
        clear HBAD HOK HIF HIE
        go_wp2_with (first | (go_at_call 58; refine Calls.mono (bWithin_yes _ _ _ _ ?_) ?_; (omega); rintro e w1 ⟨rfl, rfl⟩) | (go_at_call 58; refine Calls.mono (bWithin_no _ _ _ _ ?_) ?_; (omega); rintro e w1 ⟨rfl, rfl⟩))
        go_ret2
        exact Ret.mk' (by rw [HV.out, HR9.out]; rfl) (HX.out.2.trans (HX2.out.trans (by repeat (first | exact Ext.refl _ | assumption | refine Ext.alloc ?_ _ | refine Ext.drew ?_ | refine Ext.drewN ?_ _ | (refine Ext.setCell ?_ (by simp <;> omega) _) | refine Ext.trans ?_ (by assumption)))))
      by_cases hnt : xn = -1
      · have HC9 := Lib.hid (HOK.out (by rw [HIF.out]; (repeat (first | rw [if_pos (by omega)] | rw [if_neg (by omega)]))))
        have HL9 : Hid (gnl = l) := Lib.hid (by rw [HN1.out, if_neg (by decide)])
        have HO9 : Hid (gno = o) := Lib.hid (by rw [HN2'.out, if_neg (by decide)])
        have HK9 : Hid (gnc = c) := Lib.hid (by rw [HN3.out, if_pos hnt])
        have b1 : (xl != 0) = false := by simpa using hli
        have b2 : (xm != 0) = false := by simpa using hmo
        clear hli hmo
        have n1 : (xn != -1) = false := by simpa using hnt
        clear hnt
        clear HBAD HOK HIF HIE
        go_wp2_with (first | (go_at_call 58; refine Calls.mono (bWithin_yes _ _ _ _ ?_) ?_; (omega); rintro e w1 ⟨rfl, rfl⟩) | (go_at_call 58; refine Calls.mono (bWithin_no _ _ _ _ ?_) ?_; (omega); rintro e w1 ⟨rfl, rfl⟩))
        go_roundw
        case rel => exact ⟨k + 1, by have := HKX.out; omega, by go_num, by rw [HGN.out, ← HL9.out], by rw [HGN.out, ← HO9.out], by rw [HGN.out, ← HK9.out], HC9, Lib.hid (HX2.out.trans (by repeat (first | exact Ext.refl _ | assumption | refine Ext.alloc ?_ _ | refine Ext.drew ?_ | refine Ext.drewN ?_ _ | (refine Ext.setCell ?_ (by simp <;> omega) _) | refine Ext.trans ?_ (by assumption))))⟩
        case measure => have := HKX.out; simp [intOf]; omega
      have n1 : (xn != -1) = true := by simpa using hnt
      by_cases hn2 : 0 ≤ xn ∧ xn ≤ (g.notes.length : Int) - 1
      case neg =>
        have HR9 : Hid (r = ((k : Int), 6)) := Lib.hid (HBAD.out 6 (by rw [HIF.out]; (repeat (first | rw [if_pos (by omega)] | rw [if_neg (by omega)]))) (by decide))
        have b1 : (xl != 0) = false := by simpa using hli
        have b2 : (xm != 0) = false := by simpa using hmo
        clear hli hmo
        clear hnt
        clear HBAD HOK HIF HIE
        go_wp2_with (first | (go_at_call 58; refine Calls.mono (bWithin_yes _ _ _ _ ?_) ?_; (omega); rintro e w1 ⟨rfl, rfl⟩) | (go_at_call 58; refine Calls.mono (bWithin_no _ _ _ _ ?_) ?_; (omega); rintro e w1 ⟨rfl, rfl⟩))
        go_ret2
        exact Ret.mk' (by rw [HV.out, HR9.out]; rfl) (HX.out.2.trans (HX2.out.trans (by repeat (first | exact Ext.refl _ | assumption | refine Ext.alloc ?_ _ | refine Ext.drew ?_ | refine Ext.drewN ?_ _ | (refine Ext.setCell ?_ (by simp <;> omega) _) | refine Ext.trans ?_ (by assumption)))))
      by_cases hn3 : xn = c
      case neg =>
        have HR9 : Hid (r = ((k : Int), 28)) := Lib.hid (HBAD.out 28 (by rw [HIF.out]; (repeat (first | rw [if_pos (by omega)] | rw [if_neg (by omega)]))) (by decide))
        have b1 : (xl != 0) = false := by simpa using hli
        have b2 : (xm != 0) = false := by simpa using hmo
        clear hli hmo
        have n3 : (xn != c) = true := by simpa using hn3
        clear hnt hn3
        clear HBAD HOK HIF HIE
        go_wp2_with (first | (go_at_call 58; refine Calls.mono (bWithin_yes _ _ _ _ ?_) ?_; (omega); rintro e w1 ⟨rfl, rfl⟩) | (go_at_call 58; refine Calls.mono (bWithin_no _ _ _ _ ?_) ?_; (omega); rintro e w1 ⟨rfl, rfl⟩))
        go_ret2
        exact Ret.mk' (by rw [HV.out, HR9.out]; rfl) (HX.out.2.trans (HX2.out.trans (by repeat (first | exact Ext.refl _ | assumption | refine Ext.alloc ?_ _ | refine Ext.drew ?_ | refine Ext.drewN ?_ _ | (refine Ext.setCell ?_ (by simp <;> omega) _) | refine Ext.trans ?_ (by assumption)))))
      have HC9 := Lib.hid (HOK.out (by rw [HIF.out]; (repeat (first | rw [if_pos (by omega)] | rw [if_neg (by omega)]))))
      have HL9 : Hid (gnl = l) := Lib.hid (by rw [HN1.out, if_neg (by decide)])
      have HO9 : Hid (gno = o) := Lib.hid (by rw [HN2'.out, if_neg (by decide)])
      have HK9 : Hid (gnc = c + 1) := Lib.hid (by rw [HN3.out, if_neg hnt])
      have b1 : (xl != 0) = false := by simpa using hli
      have b2 : (xm != 0) = false := by simpa using hmo
      clear hli hmo
      have n3 : (xn != c) = false := by simpa using hn3
      clear hnt hn3
      clear HBAD HOK HIF HIE
      go_wp2_with (first | (go_at_call 58; refine Calls.mono (bWithin_yes _ _ _ _ ?_) ?_; (omega); rintro e w1 ⟨rfl, rfl⟩) | (go_at_call 58; refine Calls.mono (bWithin_no _ _ _ _ ?_) ?_; (omega); rintro e w1 ⟨rfl, rfl⟩))
      go_roundw
      case rel => exact ⟨k + 1, by have := HKX.out; omega, by go_num, by rw [HGN.out, ← HL9.out], by rw [HGN.out, ← HO9.out], by rw [HGN.out, ← HK9.out], HC9, Lib.hid (HX2.out.trans (by repeat (first | exact Ext.refl _ | assumption | refine Ext.alloc ?_ _ | refine Ext.drew ?_ | refine Ext.drewN ?_ _ | (refine Ext.setCell ?_ (by simp <;> omega) _) | refine Ext.trans ?_ (by assumption))))⟩
      case measure => have := HKX.out; simp [intOf]; omega
    · by_cases hli : xl = 0
      case neg =>
        have HR9 : Hid (r = ((k : Int), 3)) := Lib.hid (HBAD.out 3 (by rw [HIF.out]; (repeat (first | rw [if_pos (by omega)] | rw [if_neg (by omega)]))) (by decide))
        have b1 : (xl != 0) = true := by simpa using hli
        clear hli
        clear HBAD HOK HIF HIE
        go_wp2_with (first | (go_at_call 58; refine Calls.mono (bWithin_yes _ _ _ _ ?_) ?_; (omega); rintro e w1 ⟨rfl, rfl⟩) | (go_at_call 58; refine Calls.mono (bWithin_no _ _ _ _ ?_) ?_; (omega); rintro e w1 ⟨rfl, rfl⟩))
        go_ret2
        exact Ret.mk' (by rw [HV.out, HR9.out]; rfl) (HX.out.2.trans (HX2.out.trans (by repeat (first | exact Ext.refl _ | assumption | refine Ext.alloc ?_ _ | refine Ext.drew ?_ | refine Ext.drewN ?_ _ | (refine Ext.setCell ?_ (by simp <;> omega) _) | refine Ext.trans ?_ (by assumption)))))
      by_cases hmo : xm = 0
      case neg =>
        have HR9 : Hid (r = ((k : Int), 3)) := Lib.hid (HBAD.out 3 (by rw [HIF.out]; (repeat (first | rw [if_pos (by omega)] | rw [if_neg (by omega)]))) (by decide))
        have b1 : (xl != 0) = false := by simpa using hli
        have b2 : (xm != 0) = true := by simpa using hmo
        clear hli hmo
        clear HBAD HOK HIF HIE
        go_wp2_with (first | (go_at_call 58; refine Calls.mono (bWithin_yes _ _ _ _ ?_) ?_; (omega); rintro e w1 ⟨rfl, rfl⟩) | (go_at_call 58; refine Calls.mono (bWithin_no _ _ _ _ ?_) ?_; (omega); rintro e w1 ⟨rfl, rfl⟩))
        go_ret2
        exact Ret.mk' (by rw [HV.out, HR9.out]; rfl) (HX.out.2.trans (HX2.out.trans (by repeat (first | exact Ext.refl _ | assumption | refine Ext.alloc ?_ _ | refine Ext.drew ?_ | refine Ext.drewN ?_ _ | (refine Ext.setCell ?_ (by simp <;> omega) _) | refine Ext.trans ?_ (by assumption)))))
      by_cases hnt : xn = -1
      · have HC9 := Lib.hid (HOK.out (by rw [HIF.out]; (repeat (first | rw [if_pos (by omega)] | rw [if_neg (by omega)]))))
        have HL9 : Hid (gnl = l) := Lib.hid (by rw [HN1.out, if_neg (by decide)])
        have HO9 : Hid (gno = o) := Lib.hid (by rw [HN2'.out, if_neg (by decide)])
        have HK9 : Hid (gnc = c) := Lib.hid (by rw [HN3.out, if_pos hnt])
        have b1 : (xl != 0) = false := by simpa using hli
        have b2 : (xm != 0) = false := by simpa using hmo
        clear hli hmo
        have n1 : (xn != -1) = false := by simpa using hnt
        clear hnt
        clear HBAD HOK HIF HIE
        go_wp2_with (first | (go_at_call 58; refine Calls.mono (bWithin_yes _ _ _ _ ?_) ?_; (omega); rintro e w1 ⟨rfl, rfl⟩) | (go_at_call 58; refine Calls.mono (bWithin_no _ _ _ _ ?_) ?_; (omega); rintro e w1 ⟨rfl, rfl⟩))
        go_roundw
        case rel => exact ⟨k + 1, by have := HKX.out; omega, by go_num, by rw [HGN.out, ← HL9.out], by rw [HGN.out, ← HO9.out], by rw [HGN.out, ← HK9.out], HC9, Lib.hid (HX2.out.trans (by repeat (first | exact Ext.refl _ | assumption | refine Ext.alloc ?_ _ | refine Ext.drew ?_ | refine Ext.drewN ?_ _ | (refine Ext.setCell ?_ (by simp <;> omega) _) | refine Ext.trans ?_ (by assumption))))⟩
        case measure => have := HKX.out; simp [intOf]; omega
      have n1 : (xn != -1) = true := by simpa using hnt
      by_cases hn2 : 0 ≤ xn ∧ xn ≤ (g.notes.length : Int) - 1
      case neg =>
        have HR9 : Hid (r = ((k : Int), 6)) := Lib.hid (HBAD.out 6 (by rw [HIF.out]; (repeat (first | rw [if_pos (by omega)] | rw [if_neg (by omega)]))) (by decide))
        have b1 : (xl != 0) = false := by simpa using hli
        have b2 : (xm != 0) = false := by simpa using hmo
        clear hli hmo
        clear hnt
        clear HBAD HOK HIF HIE
        go_wp2_with (first | (go_at_call 58; refine Calls.mono (bWithin_yes _ _ _ _ ?_) ?_; (omega); rintro e w1 ⟨rfl, rfl⟩) | (go_at_call 58; refine Calls.mono (bWithin_no _ _ _ _ ?_) ?_; (omega); rintro e w1 ⟨rfl, rfl⟩))
        go_ret2
        exact Ret.mk' (by rw [HV.out, HR9.out]; rfl) (HX.out.2.trans (HX2.out.trans (by repeat (first | exact Ext.refl _ | assumption | refine Ext.alloc ?_ _ | refine Ext.drew ?_ | refine Ext.drewN ?_ _ | (refine Ext.setCell ?_ (by simp <;> omega) _) | refine Ext.trans ?_ (by assumption)))))
      by_cases hn3 : xn = c
      case neg =>
        have HR9 : Hid (r = ((k : Int), 28)) := Lib.hid (HBAD.out 28 (by rw [HIF.out]; (repeat (first | rw [if_pos (by omega)] | rw [if_neg (by omega)]))) (by decide))
        have b1 : (xl != 0) = false := by simpa using hli
        have b2 : (xm != 0) = false := by simpa using hmo
        clear hli hmo
        have n3 : (xn != c) = true := by simpa using hn3
        clear hnt hn3
        clear HBAD HOK HIF HIE
        go_wp2_with (first | (go_at_call 58; refine Calls.mono (bWithin_yes _ _ _ _ ?_) ?_; (omega); rintro e w1 ⟨rfl, rfl⟩) | (go_at_call 58; refine Calls.mono (bWithin_no _ _ _ _ ?_) ?_; (omega); rintro e w1 ⟨rfl, rfl⟩))
        go_ret2
        exact Ret.mk' (by rw [HV.out, HR9.out]; rfl) (HX.out.2.trans (HX2.out.trans (by repeat (first | exact Ext.refl _ | assumption | refine Ext.alloc ?_ _ | refine Ext.drew ?_ | refine Ext.drewN ?_ _ | (refine Ext.setCell ?_ (by simp <;> omega) _) | refine Ext.trans ?_ (by assumption)))))
      have HC9 := Lib.hid (HOK.out (by rw [HIF.out]; (repeat (first | rw [if_pos (by omega)] | rw [if_neg (by omega)]))))
      have HL9 : Hid (gnl = l) := Lib.hid (by rw [HN1.out, if_neg (by decide)])
      have HO9 : Hid (gno = o) := Lib.hid (by rw [HN2'.out, if_neg (by decide)])
      have HK9 : Hid (gnc = c + 1) := Lib.hid (by rw [HN3.out, if_neg hnt])
      have b1 : (xl != 0) = false := by simpa using hli
      have b2 : (xm != 0) = false := by simpa using hmo
      clear hli hmo
      have n3 : (xn != c) = false := by simpa using hn3
      clear hnt hn3
      clear HBAD HOK HIF HIE
      go_wp2_with (first | (go_at_call 58; refine Calls.mono (bWithin_yes _ _ _ _ ?_) ?_; (omega); rintro e w1 ⟨rfl, rfl⟩) | (go_at_call 58; refine Calls.mono (bWithin_no _ _ _ _ ?_) ?_; (omega); rintro e w1 ⟨rfl, rfl⟩))
      go_roundw
      case rel => exact ⟨k + 1, by have := HKX.out; omega, by go_num, by rw [HGN.out, ← HL9.out], by rw [HGN.out, ← HO9.out], by rw [HGN.out, ← HK9.out], HC9, Lib.hid (HX2.out.trans (by repeat (first | exact Ext.refl _ | assumption | refine Ext.alloc ?_ _ | refine Ext.drew ?_ | refine Ext.drewN ?_ _ | (refine Ext.setCell ?_ (by simp <;> omega) _) | refine Ext.trans ?_ (by assumption))))⟩
      case measure => have := HKX.out; simp [intOf]; omega
    · by_cases hnt : xn = -1
      case neg =>
        have HR9 : Hid (r = ((k : Int), 3)) := Lib.hid (HBAD.out 3 (by rw [HIF.out]; (repeat (first | rw [if_pos (by omega)] | rw [if_neg (by omega)]))) (by decide))
        have n1 : (xn != -1) = true := by simpa using hnt
        clear hnt
        clear HBAD HOK HIF HIE
        go_wp2_with (first | (go_at_call 58; refine Calls.mono (bWithin_yes _ _ _ _ ?_) ?_; (omega); rintro e w1 ⟨rfl, rfl⟩) | (go_at_call 58; refine Calls.mono (bWithin_no _ _ _ _ ?_) ?_; (omega); rintro e w1 ⟨rfl, rfl⟩))
        go_ret2
        exact Ret.mk' (by rw [HV.out, HR9.out]; rfl) (HX.out.2.trans (HX2.out.trans (by repeat (first | exact Ext.refl _ | assumption | refine Ext.alloc ?_ _ | refine Ext.drew ?_ | refine Ext.drewN ?_ _ | (refine Ext.setCell ?_ (by simp <;> omega) _) | refine Ext.trans ?_ (by assumption)))))
      by_cases hli : xl = 0
      case neg =>
        have HR9 : Hid (r = ((k : Int), 3)) := Lib.hid (HBAD.out 3 (by rw [HIF.out]; (repeat (first | rw [if_pos (by omega)] | rw [if_neg (by omega)]))) (by decide))
        have n1 : (xn != -1) = false := by simpa using hnt
        have b1 : (xl != 0) = true := by simpa using hli
        clear hli hnt
        clear HBAD HOK HIF HIE
        go_wp2_with (first | (go_at_call 58; refine Calls.mono (bWithin_yes _ _ _ _ ?_) ?_; (omega); rintro e w1 ⟨rfl, rfl⟩) | (go_at_call 58; refine Calls.mono (bWithin_no _ _ _ _ ?_) ?_; (omega); rintro e w1 ⟨rfl, rfl⟩))
        go_ret2
        exact Ret.mk' (by rw [HV.out, HR9.out]; rfl) (HX.out.2.trans (HX2.out.trans (by repeat (first | exact Ext.refl _ | assumption | refine Ext.alloc ?_ _ | refine Ext.drew ?_ | refine Ext.drewN ?_ _ | (refine Ext.setCell ?_ (by simp <;> omega) _) | refine Ext.trans ?_ (by assumption)))))
      by_cases hmo : xm = 0
      case neg =>
        have HR9 : Hid (r = ((k : Int), 3)) := Lib.hid (HBAD.out 3 (by rw [HIF.out]; (repeat (first | rw [if_pos (by omega)] | rw [if_neg (by omega)]))) (by decide))
        have n1 : (xn != -1) = false := by simpa using hnt
        have b1 : (xl != 0) = false := by simpa using hli
        have b2 : (xm != 0) = true := by simpa using hmo
        clear hli hmo hnt
        clear HBAD HOK HIF HIE
        go_wp2_with (first | (go_at_call 58; refine Calls.mono (bWithin_yes _ _ _ _ ?_) ?_; (omega); rintro e w1 ⟨rfl, rfl⟩) | (go_at_call 58; refine Calls.mono (bWithin_no _ _ _ _ ?_) ?_; (omega); rintro e w1 ⟨rfl, rfl⟩))
        go_ret2
        exact Ret.mk' (by rw [HV.out, HR9.out]; rfl) (HX.out.2.trans (HX2.out.trans (by repeat (first | exact Ext.refl _ | assumption | refine Ext.alloc ?_ _ | refine Ext.drew ?_ | refine Ext.drewN ?_ _ | (refine Ext.setCell ?_ (by simp <;> omega) _) | refine Ext.trans ?_ (by assumption)))))
      have HC9 := Lib.hid (HOK.out (by rw [HIF.out]; (repeat (first | rw [if_pos (by omega)] | rw [if_neg (by omega)]))))
      have HL9 : Hid (gnl = l) := Lib.hid (by rw [HN1.out, if_neg (by decide)])
      have HO9 : Hid (gno = o) := Lib.hid (by rw [HN2'.out, if_neg (by decide)])
      have HK9 : Hid (gnc = c) := Lib.hid (by rw [HN3.out, if_pos hnt])
      have n1 : (xn != -1) = false := by simpa using hnt
      have b1 : (xl != 0) = false := by simpa using hli
      have b2 : (xm != 0) = false := by simpa using hmo
      clear hli hmo hnt
      clear HBAD HOK HIF HIE
      go_wp2_with (first | (go_at_call 58; refine Calls.mono (bWithin_yes _ _ _ _ ?_) ?_; (omega); rintro e w1 ⟨rfl, rfl⟩) | (go_at_call 58; refine Calls.mono (bWithin_no _ _ _ _ ?_) ?_; (omega); rintro e w1 ⟨rfl, rfl⟩))
      go_roundw
      case rel => exact ⟨k + 1, by have := HKX.out; omega, by go_num, by rw [HGN.out, ← HL9.out], by rw [HGN.out, ← HO9.out], by rw [HGN.out, ← HK9.out], HC9, Lib.hid (HX2.out.trans (by repeat (first | exact Ext.refl _ | assumption | refine Ext.alloc ?_ _ | refine Ext.drew ?_ | refine Ext.drewN ?_ _ | (refine Ext.setCell ?_ (by simp <;> omega) _) | refine Ext.trans ?_ (by assumption))))⟩
      case measure => have := HKX.out; simp [intOf]; omega
end Go.Proofs.YtpkmapngdkkglaaGreatDoor
