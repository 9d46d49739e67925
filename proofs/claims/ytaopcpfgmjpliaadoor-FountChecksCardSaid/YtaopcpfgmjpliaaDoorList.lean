/-
  Walks: lists of sorts: checkList, WidthOf.
-/
import Derived.Test.YtaopcpfgmjpliaaDoorTimes
namespace Go.Proofs.YtaopcpfgmjpliaaDoor
open Go.RowKit

/-- A number that is no sort's of n ones. -/
def badIdx (n : Nat) (z : Int) : Bool := !(decide (0 ≤ z) && decide (z ≤ (n : Int) - 1))
theorem badIdx_false {n : Nat} {z : Int} : badIdx n z = false ↔ 0 ≤ z ∧ z < n := by
  unfold badIdx; rw [Bool.not_eq_false', Bool.and_eq_true, decide_eq_true_eq, decide_eq_true_eq]; omega
def listErr (n : Nat) (zs : List Int) : Int := if 10000 < zs.length then 8 else if (idxOf (badIdx n) zs zs.length).isSome = true then 6 else 0
def listChk (f : FT) (zs : List Int) : Int := if (chk f).2 ≠ 0 then (chk f).2 else listErr f.sorts.length zs
theorem listErr_zero {n : Nat} {zs : List Int} (h : listErr n zs = 0) : zs.length ≤ 10000 ∧ ∀ k, k < zs.length → 0 ≤ zs.getD k 0 ∧ zs.getD k 0 < n := by
  unfold listErr at h
  by_cases h1 : 10000 < zs.length
  · rw [if_pos h1] at h; exact absurd h (by decide)
  rw [if_neg h1] at h
  by_cases h2 : (idxOf (badIdx n) zs zs.length).isSome = true
  · rw [if_pos h2] at h; exact absurd h (by decide)
  refine ⟨by omega, fun k hk => badIdx_false.1 ?_⟩
  rw [Bool.eq_false_iff]
  intro hb
  exact h2 ((idxOf_isSome _ _ _).2 ⟨k, hk, hb⟩)
theorem listErr_of {n : Nat} {zs : List Int} (h1 : zs.length ≤ 10000) (h2 : ∀ k, k < zs.length → 0 ≤ zs.getD k 0 ∧ zs.getD k 0 < n) : listErr n zs = 0 := by
  unfold listErr
  rw [if_neg (by omega), if_neg]
  intro hs
  obtain ⟨k, hk, hb⟩ := (idxOf_isSome _ _ _).1 hs
  rw [badIdx_false.2 (h2 k hk)] at hb; cases hb
theorem listChk_zero {f : FT} {zs : List Int} (h : listChk f zs = 0) : (chk f).2 = 0 ∧ listErr f.sorts.length zs = 0 := by
  unfold listChk at h
  by_cases h1 : (chk f).2 ≠ 0
  · rw [if_pos h1] at h; exact absurd h h1
  · rw [if_neg h1] at h; exact ⟨by simpa using h1, h⟩
theorem sort_ok {f : FT} (h : (chk f).2 = 0) {k : Nat} (hk : k < f.sorts.length) : (1 ≤ (f.sorts.getD k TS.zero).kind ∧ (f.sorts.getD k TS.zero).kind ≤ 3) ∧ (1 ≤ (f.sorts.getD k TS.zero).width ∧ (f.sorts.getD k TS.zero).width ≤ 100000) ∧
    nameB (f.sorts.getD k TS.zero).name = true ∧ hasName f.sorts k (f.sorts.getD k TS.zero).name = false ∧ textErr f.sorts k (f.sorts.getD k TS.zero).kind (f.sorts.getD k TS.zero).text = 0 := by
  obtain ⟨_, _, _, hc⟩ := chk_zero h
  obtain ⟨h1, h2, h3, h4, h5⟩ := sort_zero (hc k hk)
  exact ⟨h3, h4, h1, h2, h5⟩
theorem badIdx_pred (b : Nat) (A : Option Addr) (n c : Nat) (w : World) (hn : n ≤ 120) (hb : b < w.heap.size) (hc : w.cell? ⟨b, 2, none⟩ = some (.slice A n c)) :
    PredI 46 #[.pointer (some ⟨b, 0, none⟩)] (badIdx n) w := fun W z hW => by
  show Calls Tryd.prog 46 #[.int .i64 z, .pointer (some ⟨b, 0, none⟩)] W _
  have c2 : W.cell? ⟨b, 2, none⟩ = some (.slice A n c) := (hW.cell (p := ⟨b, 2, none⟩) hb).trans hc
  have hbW : b < W.heap.size := Nat.lt_of_lt_of_le hb hW.size
  clear hc hW
  by_cases hz : 0 ≤ z ∧ z ≤ (n : Int) - 1
  · have HB : Hid (badIdx n z = false) := Lib.hid (badIdx_false.2 (by omega))
    rw [HB.out]
    go_enter Tryd.func46, Tryd.ntmps46
    go_wp2_with (first | (go_at_call 35; refine Calls.mono (within_yes _ _ _ _ ?_) ?_; (omega); rintro e w1 ⟨rfl, rfl⟩) | (go_at_call 35; refine Calls.mono (within_no _ _ _ _ ?_) ?_; (omega); rintro e w1 ⟨rfl, rfl⟩))
    go_ret
    exact ⟨rfl, rfl⟩
  · have HB : Hid (badIdx n z = true) := Lib.hid (by rw [← Bool.not_eq_false, badIdx_false]; omega)
    rw [HB.out]
    go_enter Tryd.func46, Tryd.ntmps46
    go_wp2_with (first | (go_at_call 35; refine Calls.mono (within_yes _ _ _ _ ?_) ?_; (omega); rintro e w1 ⟨rfl, rfl⟩) | (go_at_call 35; refine Calls.mono (within_no _ _ _ _ ?_) ?_; (omega); rintro e w1 ⟨rfl, rfl⟩))
    go_ret
    exact ⟨rfl, rfl⟩
set_option maxHeartbeats 1000000 in
theorem checkList_any (f : FT) (A : Option Addr) (c : Nat) (B : Option Addr) (d : Nat) (zs : List Int) (w : World) (hf : FR w A c f) (h : RI w B zs.length zs) :
    Calls Tryd.prog 29 #[f.val A c, .slice B zs.length d] w (Ret (.int .i64 (listChk f zs)) w) := by
  have cR := fun W h => checkFount_any f A c W h
  unfold ChkV at cR
  have HF := Lib.hid hf; have hbig := h.big; have HR := Lib.hid h; clear hf h
  by_cases hz : (chk f).2 = 0
  case neg =>
    have HE : Hid (listChk f zs = (chk f).2) := Lib.hid (by unfold listChk; rw [if_pos hz])
    generalize listChk f zs = r at *
    generalize chk f = p at *
    obtain ⟨n, z⟩ := p
    simp only at cR hz HE
    have e0 : (z != 0) = true := by simpa using hz
    obtain ⟨name, body, ss⟩ := f
    simp only [FT.val] at *
    have CR := Lib.hid cR; clear cR hz
    go_enter Tryd.func29, Tryd.ntmps29
    go_wp2_with (first | (go_at_call 6; refine Calls.mono (CR.out _ ?_) ?_; (exact HF.out.ext (by repeat (first | exact Ext.refl _ | assumption | refine Ext.alloc ?_ _ | refine Ext.drew ?_ | refine Ext.drewN ?_ _ | (refine Ext.setCell ?_ (by simp <;> omega) _) | refine Ext.trans ?_ (by assumption)))); rintro e w1 ⟨rfl, hb⟩))
    go_ret
    exact Ret.mk' (by rw [HE.out]; rfl) (by repeat (first | exact Ext.refl _ | assumption | refine Ext.alloc ?_ _ | refine Ext.drew ?_ | refine Ext.drewN ?_ _ | (refine Ext.setCell ?_ (by simp <;> omega) _) | refine Ext.trans ?_ (by assumption)))
  case pos =>
  have HE : Hid (listChk f zs = listErr f.sorts.length zs) := Lib.hid (by unfold listChk; rw [if_neg (by simpa using hz)])
  have hn := (chk_zero hz).2.2.1
  have HL : Hid (listErr f.sorts.length zs = if 10000 < zs.length then 8 else if (idxOf (badIdx f.sorts.length) zs zs.length).isSome = true then 6 else 0) := Lib.hid rfl
  rw [hz] at cR
  generalize listChk f zs = r at *
  generalize (chk f).1 = n1 at *
  clear hz
  have cC := fun b A c W hb hc h => containsFunc_any 46 #[.pointer (some ⟨b, 0, none⟩)] (fun _ _ => by kernel_rfl) (badIdx f.sorts.length) B zs.length d zs W h (badIdx_pred b A f.sorts.length c W hn hb hc)
  obtain ⟨name, body, ss⟩ := f
  simp only [FT.val] at *
  have CR := Lib.hid cR; clear cR
  by_cases hl : zs.length ≤ 10000
  case neg =>
    have i1 : (10000 : Int) < (zs.length : Int) := by omega
    have HL' : Hid (listErr ss.length zs = 8) := Lib.hid (by rw [HL.out, if_pos (by omega)])
    clear HL cC hl
    go_enter Tryd.func29, Tryd.ntmps29
    go_wp2_with (first | (go_at_call 6; refine Calls.mono (CR.out _ ?_) ?_; (exact HF.out.ext (by repeat (first | exact Ext.refl _ | assumption | refine Ext.alloc ?_ _ | refine Ext.drew ?_ | refine Ext.drewN ?_ _ | (refine Ext.setCell ?_ (by simp <;> omega) _) | refine Ext.trans ?_ (by assumption)))); rintro e w1 ⟨rfl, hb⟩))
    go_ret
    exact Ret.mk' (by rw [HE.out, HL'.out]; rfl) (by repeat (first | exact Ext.refl _ | assumption | refine Ext.alloc ?_ _ | refine Ext.drew ?_ | refine Ext.drewN ?_ _ | (refine Ext.setCell ?_ (by simp <;> omega) _) | refine Ext.trans ?_ (by assumption)))
  case pos =>
  have i1 : ¬ (10000 : Int) < (zs.length : Int) := by omega
  have HL' : Hid (listErr ss.length zs = if (idxOf (badIdx ss.length) zs zs.length).isSome = true then 6 else 0) := Lib.hid (by rw [HL.out, if_neg (by omega)])
  clear HL
  cases hs : (idxOf (badIdx ss.length) zs zs.length).isSome
  all_goals
    rw [hs] at HL'
    simp only [hs] at cC
    have CC := Lib.hid cC; clear cC
    clear hs
    go_enter Tryd.func29, Tryd.ntmps29
    go_wp2_with (first | (go_at_call 6; refine Calls.mono (CR.out _ ?_) ?_; (exact HF.out.ext (by repeat (first | exact Ext.refl _ | assumption | refine Ext.alloc ?_ _ | refine Ext.drew ?_ | refine Ext.drewN ?_ _ | (refine Ext.setCell ?_ (by simp <;> omega) _) | refine Ext.trans ?_ (by assumption)))); rintro e w1 ⟨rfl, hb⟩; have HB1 := Lib.hid ((Blk.new _ _ _).ext hb)) | (go_at_call 45; refine Calls.mono (CC.out w.heap.size A c _ ?_ ?_ ?_) ?_; (exact HB1.out.c3.2.2.2); (exact HB1.out.c3.2.2.1); (exact HR.out.ext (Ext.trans (by repeat (first | exact Ext.refl _ | assumption | refine Ext.alloc ?_ _ | refine Ext.drew ?_ | refine Ext.drewN ?_ _ | (refine Ext.setCell ?_ (by simp <;> omega) _) | refine Ext.trans ?_ (by assumption))) hb)); rintro e w2 ⟨rfl, rfl⟩))
    go_ret
    exact Ret.mk' (by rw [HE.out, HL'.out]; rfl) (by repeat (first | exact Ext.refl _ | assumption | refine Ext.alloc ?_ _ | refine Ext.drew ?_ | refine Ext.drewN ?_ _ | (refine Ext.setCell ?_ (by simp <;> omega) _) | refine Ext.trans ?_ (by assumption)))

/-- The width of the first n of a list. -/
def widthTo (ss : List TS) (zs : List Int) (n : Nat) : Int := sumTo (fun k => (ss.getD (zs.getD k 0).toNat TS.zero).width) n
def widthR (f : FT) (zs : List Int) : Int × Int := if listChk f zs ≠ 0 then (0, listChk f zs) else (widthTo f.sorts zs zs.length, 0)
def widthV (f : FT) (zs : List Int) : Value := .tuple #[.int .i64 (widthR f zs).1, .int .i64 (widthR f zs).2]
set_option maxHeartbeats 2000000 in
theorem widthOf_any (f : FT) (A : Option Addr) (c : Nat) (B : Option Addr) (d : Nat) (zs : List Int) (w : World) (hf : FR w A c f) (h : RI w B zs.length zs) :
    Calls Tryd.prog 14 #[f.val A c, .slice B zs.length d] w (Ret (widthV f zs) w) := by
  have cL := fun W h1 h2 => checkList_any f A c B d zs W h1 h2
  have HV : Hid (widthV f zs = .tuple #[.int .i64 (widthR f zs).1, .int .i64 (widthR f zs).2]) := Lib.hid rfl
  have HF := Lib.hid hf; have HX := Lib.hid h; clear hf h
  by_cases hz : listChk f zs = 0
  case neg =>
    have HE : Hid (widthR f zs = (0, listChk f zs)) := Lib.hid (by unfold widthR; rw [if_pos hz])
    generalize widthV f zs = V at *
    generalize widthR f zs = r at *
    generalize listChk f zs = z at *
    have e0 : (z != 0) = true := by simpa using hz
    obtain ⟨name, body, ss⟩ := f
    simp only [FT.val] at *
    have CL := Lib.hid cL; clear cL hz
    go_enter Tryd.func14, Tryd.ntmps14
    go_wp2_with (first | (go_at_call 29; refine Calls.mono (CL.out _ ?_ ?_) ?_; (exact HF.out.ext (by repeat (first | exact Ext.refl _ | assumption | refine Ext.alloc ?_ _ | refine Ext.drew ?_ | refine Ext.drewN ?_ _ | (refine Ext.setCell ?_ (by simp <;> omega) _) | refine Ext.trans ?_ (by assumption)))); (exact HX.out.ext (by repeat (first | exact Ext.refl _ | assumption | refine Ext.alloc ?_ _ | refine Ext.drew ?_ | refine Ext.drewN ?_ _ | (refine Ext.setCell ?_ (by simp <;> omega) _) | refine Ext.trans ?_ (by assumption)))); rintro e w1 ⟨rfl, hb⟩))
    go_ret2
    exact Ret.mk' (by rw [HV.out, HE.out]; rfl) (by repeat (first | exact Ext.refl _ | assumption | refine Ext.alloc ?_ _ | refine Ext.drew ?_ | refine Ext.drewN ?_ _ | (refine Ext.setCell ?_ (by simp <;> omega) _) | refine Ext.trans ?_ (by assumption)))
  case pos =>
  obtain ⟨hck, hle⟩ := listChk_zero hz
  obtain ⟨hl, hb⟩ := listErr_zero hle
  have HIX := Lib.hid hb
  have HWD : Hid (∀ k, k < zs.length → 0 ≤ (f.sorts.getD (zs.getD k 0).toNat TS.zero).width ∧ (f.sorts.getD (zs.getD k 0).toNat TS.zero).width ≤ 100000) := Lib.hid fun k hk => by
    have h1 := hb k hk
    have := (sort_ok hck (k := (zs.getD k 0).toNat) (by omega)).2.1
    omega
  have HBD : Hid (∀ n, n ≤ zs.length → 0 ≤ widthTo f.sorts zs n ∧ widthTo f.sorts zs n ≤ 1000000000) := Lib.hid fun n hn => by
    have := sumTo_bd (fun k => (f.sorts.getD (zs.getD k 0).toNat TS.zero).width) 100000 n (fun k hk => HWD.out k (by omega))
    unfold widthTo; omega
  have HE : Hid (widthR f zs = (widthTo f.sorts zs zs.length, 0)) := Lib.hid (by unfold widthR; rw [if_neg (by simpa using hz)])
  rw [hz] at cL
  have hss := (chk_zero hck).2.2.1
  clear hz hck hle hb
  generalize widthV f zs = V at *
  generalize widthR f zs = r at *
  obtain ⟨name, body, ss⟩ := f
  simp only [FT.val] at *
  have CL := Lib.hid cL; clear cL
  go_enter Tryd.func14, Tryd.ntmps14
  go_wp2_with (first | (go_at_call 29; refine Calls.mono (CL.out _ ?_ ?_) ?_; (exact HF.out.ext (by repeat (first | exact Ext.refl _ | assumption | refine Ext.alloc ?_ _ | refine Ext.drew ?_ | refine Ext.drewN ?_ _ | (refine Ext.setCell ?_ (by simp <;> omega) _) | refine Ext.trans ?_ (by assumption)))); (exact HX.out.ext (by repeat (first | exact Ext.refl _ | assumption | refine Ext.alloc ?_ _ | refine Ext.drew ?_ | refine Ext.drewN ?_ _ | (refine Ext.setCell ?_ (by simp <;> omega) _) | refine Ext.trans ?_ (by assumption)))); rintro e w1 ⟨rfl, hb⟩; have HB1 := Lib.hid ((Blk.new _ _ _).ext hb); have HE1 := Lib.hid (show Ext w w1 from Ext.trans (by repeat (first | exact Ext.refl _ | assumption | refine Ext.alloc ?_ _ | refine Ext.drew ?_ | refine Ext.drewN ?_ _ | (refine Ext.setCell ?_ (by simp <;> omega) _) | refine Ext.trans ?_ (by assumption))) hb)))
  obtain ⟨k0, k1, k2, kl⟩ := HB1.out.c3
  go_loop [7, 9, 18] (fun t _ i => ∃ k : Nat, k ≤ zs.length ∧ i = .int .i64 k ∧ t = .int .i64 (widthTo ss zs k)) (fun _ _ i => zs.length - (intOf i).toNat)
  case atStart => exact ⟨0, Nat.zero_le _, rfl, rfl⟩
  case round =>
    obtain ⟨k, hk, rfl, rfl⟩ := hrel
    have hbd := HBD.out k hk
    by_cases hlt : k < zs.length
    · obtain ⟨i1, i2⟩ := HIX.out k hlt
      obtain ⟨j, hj⟩ : ∃ j : Nat, zs.getD k 0 = (j : Int) := ⟨(zs.getD k 0).toNat, by omega⟩
      obtain ⟨b, off, rfl, hbw, hcell⟩ := (HX.out.ext HE1.out).2.2 (by omega)
      have c1 := hcell k hlt
      have hwd := HWD.out k hlt
      have HN : Hid (widthTo ss zs (k + 1) = widthTo ss zs k + (ss.getD (zs.getD k 0).toNat TS.zero).width) := Lib.hid rfl
      rw [hj] at c1 i1 i2 hwd HN
      rw [Int.toNat_natCast] at hwd HN
      have hjn : j < ss.length := by omega
      obtain ⟨b', off', rfl, hbw', hcell'⟩ := (HF.out.rt.ext HE1.out).2.2 (by show 0 < ss.length; omega)
      have c2 := (hcell' j hjn).2.2.2
      have hki : (k : Int) < (zs.length : Int) := by omega
      have hji : (j : Int) < (ss.length : Int) := by omega
      generalize (ss.getD j TS.zero).width = y at *
      generalize widthTo ss zs k = x at *
      obtain ⟨hx1, hx2⟩ := hbd
      obtain ⟨hy1, hy2⟩ := hwd
      clear hcell hcell' hj
      go_wp2
      go_round
      case rel => exact ⟨k + 1, by omega, by go_num, by rw [HN.out]⟩
      case measure => simp [intOf]; omega
    · obtain rfl : k = zs.length := by omega
      go_wp2
      go_ret2
      exact Ret.mk' (by rw [HV.out, HE.out]; rfl) HE1.out
end Go.Proofs.YtaopcpfgmjpliaaDoor
