/-
  Walk: the reference's CheckFount.
-/
import Derived.Test.YtaopcpfgmjpliaaDoorRefA
import Derived.Test.YtaopcpfgmjpliaaDoorRead
namespace Go.Proofs.YtaopcpfgmjpliaaDoor
open Go.RowKit

theorem Same.quiet {P : Program} {f : FuncId} {args : Array Value} {w : World} {n : Nat} {v : Value} (h : Calls P f args (w.drewN n) (Same v (w.drewN n))) :
    Calls P f args (w.drewN n) fun e w'' => e = .returned v ∧ ∃ m, w'' = w.drewN m := h.mono fun _ _ ⟨he, hm⟩ => ⟨he, n, hm.symm⟩
theorem Same.quiet_add {P : Program} {f : FuncId} {args : Array Value} {w : World} {a n : Nat} {v : Value} (h : Calls P f args (w.drewN (a + n)) (Same v (w.drewN (a + n)))) :
    Calls P f args (w.drewN (a + n)) fun e w'' => e = .returned v ∧ ∃ m, w'' = w.drewN (a + m) := h.mono fun _ _ ⟨he, hm⟩ => ⟨he, n, hm.symm⟩

theorem RT.take {w : World} {A : Option Addr} {n k : Nat} {ss : List TS} (h : RT w A n ss) (hk : k ≤ n) : RT w A k (ss.take k) := by
  obtain ⟨h1, h2, h3⟩ := h
  refine ⟨by rw [List.length_take]; omega, by omega, fun hp => ?_⟩
  obtain ⟨b, off, ha, hb, hc⟩ := h3 (by omega)
  exact ⟨b, off, ha, hb, fun j hj => by rw [take_at ss k j hj]; exact hc j (by omega)⟩
theorem nameAt_take (ss : List TS) (s : ByteArray) (k : Nat) : ∀ n, n ≤ k → nameAt (ss.take k) s n = nameAt ss s n
  | 0, _ => rfl
  | n + 1, h => by rw [nameAt, nameAt, nameAt_take ss s k n (by omega), take_at ss k n (by omega)]
theorem optI_neg {o : Option Nat} (h : o.isSome = false) : optI o = -1 := by cases o <;> simp_all [optI]
theorem optI_pos {o : Option Nat} (h : o.isSome = true) : 0 ≤ optI o := by cases o <;> simp_all [optI]

set_option maxHeartbeats 8000000 in
set_option maxRecDepth 100000 in
theorem rCheckFount_any (f : FT) (A : Option Addr) (c : Nat) (w : World) (hf : FR w A c f) :
    Calls Tryd.prog 10 #[f.val A c] w (Ret (ChkV f) w) := by
  obtain ⟨name, body, ss⟩ := f
  have hnm := hf.nm
  have hbig := hf.rt.big
  have hcap := hf.cap
  simp only [FT.val, maxLen] at *
  have HF := Lib.hid hf; clear hf
  by_cases h1 : nameB name = false
  · have HC : Hid (chk ⟨name, body, ss⟩ = (0, 4)) := Lib.hid (by unfold chk; simp [h1])
    unfold ChkV; rw [HC.out]
    have HN := Lib.hid h1; clear h1
    go_enter Tryd.func10, Tryd.ntmps10
    go_wp2_with (first | (go_at_call 24; refine Calls.mono (bIsName_any _ _ hnm) ?_; rw [HN.out]; rintro e w2 ⟨rfl, rfl⟩))
    go_ret2
    exact Ret.mk' rfl (by repeat (first | exact Ext.refl _ | assumption | refine Ext.alloc ?_ _ | refine Ext.drew ?_ | refine Ext.drewN ?_ _ | (refine Ext.setCell ?_ (by simp <;> omega) _) | refine Ext.trans ?_ (by assumption)))
  have HN : Hid (nameB name = true) := Lib.hid (by simpa using h1)
  by_cases hb0 : 1 ≤ body ∧ body ≤ 144
  · by_cases hl0 : ss.length = 0
    · have HC : Hid (chk ⟨name, body, ss⟩ = (0, 10)) := Lib.hid (by unfold chk; simp [h1, hb0, hl0])
      unfold ChkV; rw [HC.out]
      rw [hl0]; clear hl0 h1 hcap HF
      go_enter Tryd.func10, Tryd.ntmps10
      go_wp2_with (first | (go_at_call 25; refine Calls.mono (bWithin_yes _ _ _ _ ?_) ?_; (omega); rintro e w1 ⟨rfl, rfl⟩) | (go_at_call 25; refine Calls.mono (bWithin_no _ _ _ _ ?_) ?_; (omega); rintro e w1 ⟨rfl, rfl⟩) | (go_at_call 24; refine Calls.mono (bIsName_any _ _ hnm) ?_; rw [HN.out]; rintro e w2 ⟨rfl, rfl⟩))
      go_ret2
      exact Ret.mk' rfl (by repeat (first | exact Ext.refl _ | assumption | refine Ext.alloc ?_ _ | refine Ext.drew ?_ | refine Ext.drewN ?_ _ | (refine Ext.setCell ?_ (by simp <;> omega) _) | refine Ext.trans ?_ (by assumption)))
    · by_cases hl1 : 120 < ss.length
      · have HC : Hid (chk ⟨name, body, ss⟩ = (0, 8)) := Lib.hid (by unfold chk; simp only [if_neg h1, if_neg (show ¬ ¬ (1 ≤ body ∧ body ≤ 144) by simpa using hb0), if_neg hl0, if_pos hl1])
        unfold ChkV; rw [HC.out]
        have e1 : (120 : Int) < (ss.length : Int) := by omega
        have e2 : ((ss.length : Int) == 0) = false := (by rw [beq_eq_false_iff_ne]; omega)
        clear hl0 h1 hcap HF
        go_enter Tryd.func10, Tryd.ntmps10
        go_wp2_with (first | (go_at_call 25; refine Calls.mono (bWithin_yes _ _ _ _ ?_) ?_; (omega); rintro e w1 ⟨rfl, rfl⟩) | (go_at_call 25; refine Calls.mono (bWithin_no _ _ _ _ ?_) ?_; (omega); rintro e w1 ⟨rfl, rfl⟩) | (go_at_call 24; refine Calls.mono (bIsName_any _ _ hnm) ?_; rw [HN.out]; rintro e w2 ⟨rfl, rfl⟩))
        go_ret2
        exact Ret.mk' rfl (by repeat (first | exact Ext.refl _ | assumption | refine Ext.alloc ?_ _ | refine Ext.drew ?_ | refine Ext.drewN ?_ _ | (refine Ext.setCell ?_ (by simp <;> omega) _) | refine Ext.trans ?_ (by assumption)))
      · have HC := Lib.hid (chk_ok (f := ⟨name, body, ss⟩) HN.out hb0 (by show 1 ≤ ss.length; omega) (by show ss.length ≤ 120; omega))
        have e1 : ¬ (120 : Int) < (ss.length : Int) := by omega
        have e2 : ((ss.length : Int) == 0) = false := (by rw [beq_eq_false_iff_ne]; omega)
        unfold ChkV
        generalize chk ⟨name, body, ss⟩ = ch at *
        clear h1
        go_enter Tryd.func10, Tryd.ntmps10
        go_wp2_with (first | (go_at_call 25; refine Calls.mono (bWithin_yes _ _ _ _ ?_) ?_; (omega); rintro e w1 ⟨rfl, rfl⟩) | (go_at_call 25; refine Calls.mono (bWithin_no _ _ _ _ ?_) ?_; (omega); rintro e w1 ⟨rfl, rfl⟩) | (go_at_call 24; refine Calls.mono (bIsName_any _ _ hnm) ?_; rw [HN.out]; rintro e w2 ⟨rfl, rfl⟩))
        go_loopw [4] (fun i wr => ∃ k : Nat, k ≤ ss.length ∧ i = .int .i64 k ∧ cleanTo ss k ∧ Ext w wr ∧ Blk wr w.heap.size 24 #[.string name, .int .i64 body, .slice A ss.length c]) (fun i _ => ss.length - (intOf i).toNat)
        case atStart => exact ⟨0, Nat.zero_le _, rfl, fun k hk => absurd hk (by omega), (by repeat (first | exact Ext.refl _ | assumption | refine Ext.alloc ?_ _ | refine Ext.drew ?_ | refine Ext.drewN ?_ _ | (refine Ext.setCell ?_ (by simp <;> omega) _) | refine Ext.trans ?_ (by assumption))), Blk.new _ _ _⟩
        case round =>
          obtain ⟨k, hk, rfl, hcl, hx, hB⟩ := hrel
          have HCL := Lib.hid hcl; clear hcl
          obtain ⟨f0, f1, f2, fl⟩ := hB.c3
          by_cases hlt : k < ss.length
          · obtain ⟨hn, ht, _, _⟩ := HF.out.sz k hlt
            have hRT := HF.out.rt.ext hx
            have HRT : Hid (RT wr A ss.length ss) := Lib.hid hRT
            obtain ⟨b, off, rfl, hbw, hcell⟩ := hRT.2.2 (by show 0 < ss.length; omega)
            obtain ⟨c1, c2, c3, c4⟩ := hcell k hlt
            have hkn : (k : Int) < (ss.length : Int) := by omega
            have hkc : (k : Int) ≤ (c : Int) := by omega
            have hkc' : k ≤ c := by omega
            have HX : Hid (sortErr ss k (ss.getD k TS.zero) = _) := Lib.hid rfl
            unfold sortErr at HX
            have HNA := Lib.hid (nameAt_has ss (ss.getD k TS.zero).name k hk)
            generalize hxd : ss.getD k TS.zero = x at *
            have HXD := Lib.hid hxd; clear hxd hcell hRT
            have HBB := Lib.hid hB; have HE := Lib.hid hx; clear hB hx
            have hbad : Hid (∀ z, sortErr ss k x = z → z ≠ 0 → ch = ((k : Int), z)) := Lib.hid (fun z hz hz0 => by
              rw [HC.out]
              show (match firstBad ss ss.length with | some k => ((k : Int), sortErr ss k (ss.getD k TS.zero)) | none => (0, 0)) = _
              rw [firstBad_some HCL.out hlt (by rw [HXD.out, hz]; exact hz0)]
              simp only
              rw [HXD.out, hz])
            by_cases n1 : nameB x.name = true
            · have HN1 := Lib.hid n1; clear n1
              have HPre := Lib.hid (HRT.out.take hk)
              have hsort : Hid (sortErr ss k x = if hasName ss k x.name = true then 5 else if ¬ (1 ≤ x.kind ∧ x.kind ≤ 3) then 15 else if ¬ (1 ≤ x.width ∧ x.width ≤ 100000) then 2 else textErr ss k x.kind x.text) := Lib.hid (by unfold sortErr; rw [if_neg (by rw [HN1.out]; simp)])
              have hNT : Hid (nameAt (ss.take k) x.name k = nameAt ss x.name k) := Lib.hid (nameAt_take ss x.name k k (Nat.le_refl _))
              by_cases n2 : hasName ss k x.name = true
              · have HCH := Lib.hid (hbad.out 5 (by rw [hsort.out, if_pos n2]) (by decide))
                have hi : 0 ≤ optI (nameAt (ss.take k) x.name k) := by rw [hNT.out]; exact optI_pos (by rw [HNA.out, n2])
                clear n2
                go_wp2_with (first | (go_at_call 24; refine Calls.mono (bIsName_any _ _ hn) ?_; rw [HN1.out]; rintro e w2 ⟨rfl, rfl⟩))
                go_quiet ((go_at_call 26; exact Same.quiet (named_any _ _ _ _ _ _ (HPre.out.ext (by repeat (first | exact Ext.refl _ | assumption | refine Ext.alloc ?_ _ | refine Ext.drew ?_ | refine Ext.drewN ?_ _ | (refine Ext.setCell ?_ (by simp <;> omega) _) | refine Ext.trans ?_ (by assumption)))))))
                go_wp2
                go_ret2
                exact Ret.mk' (by rw [HCH.out]; rfl) (HE.out.trans (by repeat (first | exact Ext.refl _ | assumption | refine Ext.alloc ?_ _ | refine Ext.drew ?_ | refine Ext.drewN ?_ _ | (refine Ext.setCell ?_ (by simp <;> omega) _) | refine Ext.trans ?_ (by assumption))))
              · have hi : ¬ 0 ≤ optI (nameAt (ss.take k) x.name k) := by rw [hNT.out, optI_neg (by rw [HNA.out]; simpa using n2)]; omega
                have HN2 := Lib.hid n2; clear n2
                by_cases hkk : 1 ≤ x.kind ∧ x.kind ≤ 3
                · by_cases hww : 1 ≤ x.width ∧ x.width ≤ 100000
                  · have HZ : Hid (sortErr ss k x = textErr ss k x.kind x.text) := Lib.hid (by rw [hsort.out, if_neg HN2.out, if_neg (by simpa using hkk), if_neg (by simpa using hww)])
                    have cP := fun W h => printsErr_any (some ⟨b, off, none⟩) k c ss x.kind x.text W h hk hkk ht
                    generalize textErr ss k x.kind x.text = z at *
                    have CP := Lib.hid cP; clear cP
                    by_cases hz : z = 0
                    · subst hz
                      go_wp2_with (first | (go_at_call 24; refine Calls.mono (bIsName_any _ _ hn) ?_; rw [HN1.out]; rintro e w2 ⟨rfl, rfl⟩))
                      go_quiet ((go_at_call 26; exact Same.quiet (named_any _ _ _ _ _ _ (HPre.out.ext (by repeat (first | exact Ext.refl _ | assumption | refine Ext.alloc ?_ _ | refine Ext.drew ?_ | refine Ext.drewN ?_ _ | (refine Ext.setCell ?_ (by simp <;> omega) _) | refine Ext.trans ?_ (by assumption)))))))
                      go_wp2_with (first | (go_at_call 25; refine Calls.mono (bWithin_yes _ _ _ _ ?_) ?_; (omega); rintro e w1 ⟨rfl, rfl⟩) | (go_at_call 25; refine Calls.mono (bWithin_no _ _ _ _ ?_) ?_; (omega); rintro e w1 ⟨rfl, rfl⟩))
                      go_quiet ((go_at_call 27; first | exact Same.quiet (CP.out _ (HPre.out.ext (by repeat (first | exact Ext.refl _ | assumption | refine Ext.alloc ?_ _ | refine Ext.drew ?_ | refine Ext.drewN ?_ _ | (refine Ext.setCell ?_ (by simp <;> omega) _) | refine Ext.trans ?_ (by assumption))))) | exact Same.quiet_add (CP.out _ (HPre.out.ext (by repeat (first | exact Ext.refl _ | assumption | refine Ext.alloc ?_ _ | refine Ext.drew ?_ | refine Ext.drewN ?_ _ | (refine Ext.setCell ?_ (by simp <;> omega) _) | refine Ext.trans ?_ (by assumption)))))))
                      go_wp2
                      go_roundw
                      case rel => exact ⟨k + 1, by omega, by go_num, cleanTo_succ HCL.out (by rw [HXD.out]; exact HZ.out), HE.out.trans (by repeat (first | exact Ext.refl _ | assumption | refine Ext.alloc ?_ _ | refine Ext.drew ?_ | refine Ext.drewN ?_ _ | (refine Ext.setCell ?_ (by simp <;> omega) _) | refine Ext.trans ?_ (by assumption))), HBB.out.ext (by repeat (first | exact Ext.refl _ | assumption | refine Ext.alloc ?_ _ | refine Ext.drew ?_ | refine Ext.drewN ?_ _ | (refine Ext.setCell ?_ (by simp <;> omega) _) | refine Ext.trans ?_ (by assumption)))⟩
                      case measure => simp [intOf]; omega
                    · have HCH := Lib.hid (hbad.out z HZ.out hz)
                      have e0 : (z != 0) = true := by simpa using hz
                      clear hz
                      go_wp2_with (first | (go_at_call 24; refine Calls.mono (bIsName_any _ _ hn) ?_; rw [HN1.out]; rintro e w2 ⟨rfl, rfl⟩))
                      go_quiet ((go_at_call 26; exact Same.quiet (named_any _ _ _ _ _ _ (HPre.out.ext (by repeat (first | exact Ext.refl _ | assumption | refine Ext.alloc ?_ _ | refine Ext.drew ?_ | refine Ext.drewN ?_ _ | (refine Ext.setCell ?_ (by simp <;> omega) _) | refine Ext.trans ?_ (by assumption)))))))
                      go_wp2_with (first | (go_at_call 25; refine Calls.mono (bWithin_yes _ _ _ _ ?_) ?_; (omega); rintro e w1 ⟨rfl, rfl⟩) | (go_at_call 25; refine Calls.mono (bWithin_no _ _ _ _ ?_) ?_; (omega); rintro e w1 ⟨rfl, rfl⟩))
                      go_quiet ((go_at_call 27; first | exact Same.quiet (CP.out _ (HPre.out.ext (by repeat (first | exact Ext.refl _ | assumption | refine Ext.alloc ?_ _ | refine Ext.drew ?_ | refine Ext.drewN ?_ _ | (refine Ext.setCell ?_ (by simp <;> omega) _) | refine Ext.trans ?_ (by assumption))))) | exact Same.quiet_add (CP.out _ (HPre.out.ext (by repeat (first | exact Ext.refl _ | assumption | refine Ext.alloc ?_ _ | refine Ext.drew ?_ | refine Ext.drewN ?_ _ | (refine Ext.setCell ?_ (by simp <;> omega) _) | refine Ext.trans ?_ (by assumption)))))))
                      go_wp2
                      go_ret2
                      exact Ret.mk' (by rw [HCH.out]; rfl) (HE.out.trans (by repeat (first | exact Ext.refl _ | assumption | refine Ext.alloc ?_ _ | refine Ext.drew ?_ | refine Ext.drewN ?_ _ | (refine Ext.setCell ?_ (by simp <;> omega) _) | refine Ext.trans ?_ (by assumption))))
                  · have HCH := Lib.hid (hbad.out 2 (by rw [hsort.out, if_neg HN2.out, if_neg (by simpa using hkk), if_pos hww]) (by decide))
                    go_wp2_with (first | (go_at_call 24; refine Calls.mono (bIsName_any _ _ hn) ?_; rw [HN1.out]; rintro e w2 ⟨rfl, rfl⟩))
                    go_quiet ((go_at_call 26; exact Same.quiet (named_any _ _ _ _ _ _ (HPre.out.ext (by repeat (first | exact Ext.refl _ | assumption | refine Ext.alloc ?_ _ | refine Ext.drew ?_ | refine Ext.drewN ?_ _ | (refine Ext.setCell ?_ (by simp <;> omega) _) | refine Ext.trans ?_ (by assumption)))))))
                    go_wp2_with (first | (go_at_call 25; refine Calls.mono (bWithin_yes _ _ _ _ ?_) ?_; (omega); rintro e w1 ⟨rfl, rfl⟩) | (go_at_call 25; refine Calls.mono (bWithin_no _ _ _ _ ?_) ?_; (omega); rintro e w1 ⟨rfl, rfl⟩))
                    go_ret2
                    exact Ret.mk' (by rw [HCH.out]; rfl) (HE.out.trans (by repeat (first | exact Ext.refl _ | assumption | refine Ext.alloc ?_ _ | refine Ext.drew ?_ | refine Ext.drewN ?_ _ | (refine Ext.setCell ?_ (by simp <;> omega) _) | refine Ext.trans ?_ (by assumption))))
                · have HCH := Lib.hid (hbad.out 15 (by rw [hsort.out, if_neg HN2.out, if_pos hkk]) (by decide))
                  go_wp2_with (first | (go_at_call 24; refine Calls.mono (bIsName_any _ _ hn) ?_; rw [HN1.out]; rintro e w2 ⟨rfl, rfl⟩))
                  go_quiet ((go_at_call 26; exact Same.quiet (named_any _ _ _ _ _ _ (HPre.out.ext (by repeat (first | exact Ext.refl _ | assumption | refine Ext.alloc ?_ _ | refine Ext.drew ?_ | refine Ext.drewN ?_ _ | (refine Ext.setCell ?_ (by simp <;> omega) _) | refine Ext.trans ?_ (by assumption)))))))
                  go_wp2_with (first | (go_at_call 25; refine Calls.mono (bWithin_yes _ _ _ _ ?_) ?_; (omega); rintro e w1 ⟨rfl, rfl⟩) | (go_at_call 25; refine Calls.mono (bWithin_no _ _ _ _ ?_) ?_; (omega); rintro e w1 ⟨rfl, rfl⟩))
                  go_ret2
                  exact Ret.mk' (by rw [HCH.out]; rfl) (HE.out.trans (by repeat (first | exact Ext.refl _ | assumption | refine Ext.alloc ?_ _ | refine Ext.drew ?_ | refine Ext.drewN ?_ _ | (refine Ext.setCell ?_ (by simp <;> omega) _) | refine Ext.trans ?_ (by assumption))))
            · have HN1 : Hid (nameB x.name = false) := Lib.hid (by simpa using n1)
              have HCH := Lib.hid (hbad.out 4 (by unfold sortErr; rw [if_pos HN1.out]) (by decide))
              clear n1
              go_wp2_with (first | (go_at_call 24; refine Calls.mono (bIsName_any _ _ hn) ?_; rw [HN1.out]; rintro e w2 ⟨rfl, rfl⟩))
              go_ret2
              exact Ret.mk' (by rw [HCH.out]; rfl) (HE.out.trans (by repeat (first | exact Ext.refl _ | assumption | refine Ext.alloc ?_ _ | refine Ext.drew ?_ | refine Ext.drewN ?_ _ | (refine Ext.setCell ?_ (by simp <;> omega) _) | refine Ext.trans ?_ (by assumption))))
          · obtain rfl : k = ss.length := by omega
            have HBB := Lib.hid hB; have HE := Lib.hid hx; clear hB hx
            have hch : ch = (0, 0) := by
              rw [HC.out]
              show (match firstBad ss ss.length with | some k => ((k : Int), sortErr ss k (ss.getD k TS.zero)) | none => (0, 0)) = _
              rw [firstBad_none HCL.out]
            have HCH := Lib.hid hch; clear HC hch
            go_wp2
            go_ret2
            exact Ret.mk' (by rw [HCH.out]; rfl) HE.out
  · have HC : Hid (chk ⟨name, body, ss⟩ = (0, 2)) := Lib.hid (by unfold chk; simp only [if_neg h1, if_pos hb0])
    unfold ChkV; rw [HC.out]
    clear h1 hcap HF
    go_enter Tryd.func10, Tryd.ntmps10
    go_wp2_with (first | (go_at_call 25; refine Calls.mono (bWithin_yes _ _ _ _ ?_) ?_; (omega); rintro e w1 ⟨rfl, rfl⟩) | (go_at_call 25; refine Calls.mono (bWithin_no _ _ _ _ ?_) ?_; (omega); rintro e w1 ⟨rfl, rfl⟩) | (go_at_call 24; refine Calls.mono (bIsName_any _ _ hnm) ?_; rw [HN.out]; rintro e w2 ⟨rfl, rfl⟩))
    go_ret2
    exact Ret.mk' rfl (by repeat (first | exact Ext.refl _ | assumption | refine Ext.alloc ?_ _ | refine Ext.drew ?_ | refine Ext.drewN ?_ _ | (refine Ext.setCell ?_ (by simp <;> omega) _) | refine Ext.trans ?_ (by assumption)))
end Go.Proofs.YtaopcpfgmjpliaaDoor
