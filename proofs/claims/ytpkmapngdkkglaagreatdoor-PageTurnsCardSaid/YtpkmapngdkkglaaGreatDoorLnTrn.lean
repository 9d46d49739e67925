/-
  Walk: the reference's places where sorts lack.
-/
import Derived.Test.YtpkmapngdkkglaaGreatDoorLnMem
namespace Go.Proofs.YtpkmapngdkkglaaGreatDoor
open Go.RowKit

/-- Pairs. -/
def RetPP (ps : List (Nat × Nat)) (w : World) (e : Ending) (w' : World) : Prop := ∃ P c, e = .returned (.slice P ps.length c) ∧ RPR w' P ps ∧ Ext w w'
set_option maxRecDepth 100000 in
set_option maxHeartbeats 4000000 in
theorem rTurned_any (X : Option Addr) (cx : Nat) (cs : List Int) (B : Option Addr) (d : Nat) (ls : List LN) (w : World) (hx : RI w X cs.length cs) (h : RLN w B ls.length ls) (hc1 : 1 ≤ cs.length) (hc2 : cs.length ≤ 1000)
    (HCB : Hid (CntB 1000000 cs.length cs)) (HG : Hid (∀ i, i < ls.length → (lineZ ls i).length ≤ 10000 ∧ ∀ k, k < (lineZ ls i).length → 0 ≤ (lineZ ls i).getD k 0 ∧ (lineZ ls i).getD k 0 < cs.length)) (hl1 : ls.length ≤ 100) :
    Calls Tryz.prog 32 #[.slice X cs.length cx, .slice B ls.length d] w (RetPP (trTo ls cs ls.length).2 w) := by
  have HX := Lib.hid hx; have HR := Lib.hid h; clear hx h
  have CK := Lib.hid (fun W h => copyInts_any X cx cs W h (by omega))
  have HT0 : Hid (trTo ls cs 0 = (cs, [])) := Lib.hid rfl
  go_enter Tryz.func32, Tryz.ntmps32
  go_upto_block 0 with (first | (go_at_call 27; refine Calls.mono (CK.out _ (HX.out.ext (by repeat (first | exact Ext.refl _ | assumption | refine Ext.alloc ?_ _ | refine Ext.drew ?_ | refine Ext.drewN ?_ _ | (refine Ext.setCell ?_ (by simp <;> omega) _) | refine Ext.trans ?_ (by assumption))))) ?_; rintro e w3 ⟨A3, cap, rfl, hsl, hb⟩; have HO3 := Lib.hid hsl.own; have HE3 : Hid (Ext w w3) := Lib.hid (Ext.trans (by repeat (first | exact Ext.refl _ | assumption | refine Ext.alloc ?_ _ | refine Ext.drew ?_ | refine Ext.drewN ?_ _ | (refine Ext.setCell ?_ (by simp <;> omega) _) | refine Ext.trans ?_ (by assumption))) hb); clear hsl hb))
  obtain ⟨g, cap', hv, hg9⟩ := World.ownsRow.form HO3.out (by omega)
  clear hg9
  obtain ⟨hA, _, hC⟩ := Value.slice.inj hv
  subst hA hC
  clear hv
  have HS0 : Hid (TuS w g cs.length cap (.slice none 0 0) (trTo ls cs 0) w3) := Lib.hid (by rw [HT0.out]; exact ⟨HE3.out, HO3.out, OwnP.nil _ _⟩)
  go_step
  go_loopw [6, 7] (fun v i wr => ∃ k : Nat, k ≤ ls.length ∧ i = .int .i64 (k : Int) ∧ Hid (TuS w g cs.length cap v (trTo ls cs k) wr)) (fun _ i _ => ls.length - (intOf i).toNat)
  case atStart => exact ⟨0, Nat.zero_le _, rfl, HS0⟩
  case round =>
    obtain ⟨k, hk, rfl, HS⟩ := hrel
    clear HS0 HO3 HE3
    have HFW := Lib.hid (trTo_few (ls := ls) (cs := cs) (N := 10000) (fun i hi => (HG.out i hi).1) k hk)
    by_cases hlt : k < ls.length
    case neg =>
      obtain rfl : k = ls.length := by omega
      have hS := HS.out
      have hfw := HFW.out
      obtain ⟨P, cP, rfl, hP1, hP2, hP3⟩ := hS.out.form (by omega)
      have HP := Lib.hid hP3
      have i1 : ¬ (ls.length : Int) < (ls.length : Int) := by omega
      clear hP3 hP1 hP2 hS hfw
      generalize trTo ls cs ls.length = p at *
      go_wp2
      go_ret
      exact ⟨P, cP, rfl, HP.out, HS.out.ext⟩
    case pos =>
      have hkl : (k : Int) < (ls.length : Int) := by omega
      have HT1 : Hid (trTo ls cs (k + 1) = trLine k (lineZ ls k) (trTo ls cs k) (lineZ ls k).length) := Lib.hid rfl
      have hG1 := HG.out k hlt
      have hCN := fun j => trLine_bd (i := k) (zs := lineZ ls k) (trTo_bd HCB.out rfl k) (trTo_len ls cs k) j
      have hLN : ∀ j, (trLine k (lineZ ls k) (trTo ls cs k) j).1.length = cs.length := fun j => by rw [trLine_len, trTo_len]
      have hFE : ∀ j, (trLine k (lineZ ls k) (trTo ls cs k) j).2.length ≤ 1000000 + j := fun j => by
        have h1 := trLine_few k (lineZ ls k) (trTo ls cs k) j
        have h2 := HFW.out
        have h3 : k * 10000 ≤ 1000000 := by omega
        omega
      obtain ⟨b, off, rfl, hbw, hcell⟩ := HR.out.2.2.1 (by omega)
      have hrow := HR.out.2.2.2 k hlt
      obtain ⟨c0, c1⟩ := hcell k hlt
      have HP0 : Hid (trLine k (lineZ ls k) (trTo ls cs k) 0 = trTo ls cs k) := Lib.hid rfl
      have HPS : Hid (∀ j, trLine k (lineZ ls k) (trTo ls cs k) (j + 1) = trStep k j ((lineZ ls k).getD j 0) (trLine k (lineZ ls k) (trTo ls cs k) j)) := Lib.hid fun _ => rfl
      have HGN := Lib.hid hG1; have HCN := Lib.hid hCN; have HLN := Lib.hid hLN; have HFE := Lib.hid hFE
      clear hG1 hCN hLN hFE hcell HFW
      unfold lineZ at HGN HCN HLN HFE HPS HP0 HT1
      generalize trTo ls cs k = p at *
      generalize ls.getD k LN.zero = r at *
      obtain ⟨mm, X2, e2, zs⟩ := r
      simp only [SI.val] at *
      have HRW := Lib.hid hrow; have HC1 := Lib.hid c1; have HBW := Lib.hid hbw
      clear hrow c0 c1
      have hzl := HGN.out.1
      go_wp2
      go_loopw [6, 8] (fun v i wr => ∃ j : Nat, j ≤ zs.length ∧ i = .int .i64 (j : Int) ∧ Hid (TuS w g cs.length cap v (trLine k zs p j) wr)) (fun _ i _ => zs.length - (intOf i).toNat)
      case atStart => exact ⟨0, Nat.zero_le _, rfl, Lib.hid (by rw [HP0.out]; exact HS.out.next (by repeat (first | exact Ext.refl _ | assumption | refine Ext.alloc ?_ _ | refine Ext.drew ?_ | refine Ext.drewN ?_ _ | (refine Ext.setCell ?_ (by simp <;> omega) _) | refine Ext.trans ?_ (by assumption))))⟩
      case round =>
        obtain ⟨j, hj, rfl, HS2⟩ := hrel
        clear HS HP0
        have c1 := (HS2.out.ext.cell (p := ⟨b, off + k * 2 + 1, none⟩) HBW.out).trans HC1.out
        have cbl : b < wr.heap.size := Nat.lt_of_lt_of_le HBW.out HS2.out.ext.size
        by_cases hjl : j < zs.length
        case neg =>
          obtain rfl : j = zs.length := by omega
          have i1 : ¬ (zs.length : Int) < (zs.length : Int) := by omega
          go_wp2
          go_roundw
          case rel => exact ⟨k + 1, by omega, by go_num, Lib.hid (by rw [HT1.out]; exact HS2.out)⟩
          case measure => simp [intOf]; omega
        case pos =>
          have hji : (j : Int) < (zs.length : Int) := by omega
          obtain ⟨i1, i2⟩ := HGN.out.2 j hjl
          obtain ⟨q, hq⟩ : ∃ q : Nat, zs.getD j 0 = (q : Int) := ⟨(zs.getD j 0).toNat, by omega⟩
          have HN := Lib.hid (HPS.out j)
          have hln := HLN.out j
          have hfe := HFE.out j
          have hcn := HCN.out j
          rw [hq] at i2
          have hqn : q < cs.length := by omega
          obtain ⟨y1, y2⟩ := hcn q hqn
          obtain ⟨b2, off2, rfl, hb2, hc2'⟩ := (HRW.out.ext HS2.out.ext).2.2 (by omega)
          have r1 := hc2' j hjl
          rw [hq] at r1
          have HQ : Hid ((zs.getD j 0).toNat = q) := Lib.hid (by rw [hq, Int.toNat_natCast])
          have hS := HS2.out
          generalize trLine k zs p j = P at *
          have l1 := (hS.left.at rfl q (by omega)).1
          have l2 := (hS.left.at rfl q (by omega)).2.1
          have hqi : (q : Int) < (cs.length : Int) := by omega
          clear hc2' hcn hq i1
          by_cases hy : P.1.getD q 0 = 0
          case pos =>
            have HN2 : Hid (trLine k zs p (j + 1) = (P.1, P.2 ++ [(k, j)])) := Lib.hid (by rw [HN.out, trStep_zero (by rw [HQ.out]; exact hy)])
            rw [hy] at l1
            have HFE2 : Hid (P.2.length ≤ 10000000) := Lib.hid (by omega)
            clear hS hln hfe y1 y2 hy HN
            go_wp2_with (first | (at_builtin; refine list_pushP rfl (.tmp 41) (.tmp 45) rfl w.heap.size _ P.2 rfl (HS2.out.next (by repeat (first | exact Ext.refl _ | assumption | refine Ext.alloc ?_ _ | refine Ext.drew ?_ | refine Ext.drewN ?_ _ | (refine Ext.setCell ?_ (by simp <;> omega) _) | refine Ext.trans ?_ (by assumption)))).out wr.heap.size k j rfl (by simp) (by simp) HFE2.out (by have := HS2.out.ext.size; simp; omega) ?_; intro v' w' ho hg; have HS3 := Lib.hid (HS2.out.push (by repeat (first | exact Ext.refl _ | assumption | refine Ext.alloc ?_ _ | refine Ext.drew ?_ | refine Ext.drewN ?_ _ | (refine Ext.setCell ?_ (by simp <;> omega) _) | refine Ext.trans ?_ (by assumption))) hg ho); clear ho hg))
            go_roundw
            case rel => exact ⟨j + 1, by omega, by go_num, Lib.hid (by rw [HN2.out]; exact HS3.out)⟩
            case measure => simp [intOf]; omega
          case neg =>
            have HN2 : Hid (trLine k zs p (j + 1) = (P.1.set q (P.1.getD q 0 - 1), P.2)) := Lib.hid (by rw [HN.out, trStep_more (by rw [HQ.out]; exact hy), HQ.out])
            have e0 : (P.1.getD q 0 == 0) = false := by simpa using hy
            obtain ⟨y, hyy⟩ : ∃ y, P.1.getD q 0 = y := ⟨_, rfl⟩
            rw [hyy] at l1 e0 y1 y2 HN2
            have hy0 : 1 ≤ y := by omega
            clear hS hln hfe hy HN hyy
            go_wp2
            go_roundw
            case rel => exact ⟨j + 1, by omega, by go_num, Lib.hid (by rw [HN2.out]; exact HS2.out.put q (y - 1))⟩
            case measure => simp [intOf]; omega
end Go.Proofs.YtpkmapngdkkglaaGreatDoor
