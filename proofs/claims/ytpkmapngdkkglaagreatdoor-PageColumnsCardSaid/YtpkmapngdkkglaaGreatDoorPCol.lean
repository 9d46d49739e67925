/-
  Walk: the widths of columns (page.ColumnWidths).
-/
import Derived.Test.YtpkmapngdkkglaaGreatDoorColSpec
import Derived.Test.YtpkmapngdkkglaaGreatDoorLnNeed
namespace Go.Proofs.YtpkmapngdkkglaaGreatDoor
open Go.RowKit

/-- A slice of ints and an error. -/
def RetIC (zs : List Int) (z : Int) (w : World) (e : Ending) (w' : World) : Prop := ∃ A c, e = .returned (.tuple #[.slice A zs.length c, .int .i64 z]) ∧ RI w' A zs.length zs ∧ Ext w w'
theorem RetIC.none_ {z : Int} {w w' : World} (h : Ext w w') : RetIC [] z w (.returned (.tuple #[.slice none 0 0, .int .i64 z])) w' := ⟨none, 0, rfl, RI.nil, h⟩
def pColE (f : FT) (xs : List S3) : Int := if (chk f).2 ≠ 0 then (chk f).2 else colE f.sorts.length xs
def pColL (f : FT) (xs : List S3) : List Int := if (chk f).2 ≠ 0 then [] else colL f.sorts xs
/-- Widths of right lists. -/
theorem wdt_bd {f : FT} (h : (chk f).2 = 0) {xs : List S3} {k i : Nat} (hg : listErr f.sorts.length (cz xs k i) = 0) : 0 ≤ wdt f.sorts xs k i ∧ wdt f.sorts xs k i ≤ 1000000000 := by
  obtain ⟨h1, h2⟩ := listErr_zero hg
  unfold wdt widthTo
  have hb := sumTo_bd (fun q => (f.sorts.getD ((cz xs k i).getD q 0).toNat TS.zero).width) 100000 (cz xs k i).length fun q hq => by
    have h3 := h2 q hq
    have := (sort_ok h (k := ((cz xs k i).getD q 0).toNat) (by omega)).2
    omega
  omega
set_option maxRecDepth 100000 in
set_option maxHeartbeats 8000000 in
theorem pCol_any (f : FT) (A : Option Addr) (c : Nat) (B : Option Addr) (d : Nat) (xs : List S3) (w : World) (hf : FR w A c f) (h : R3 w B xs.length xs) :
    Calls Tryz.prog 36 #[f.val A c, .slice B xs.length d] w (RetIC (pColL f xs) (pColE f xs) w) := by
  have hbig := h.2.1
  have cF := fun W h => pFountErr_any f A c W h
  have HF := Lib.hid hf; have HR := Lib.hid h; clear hf h
  by_cases h1 : (chk f).2 = 0
  case neg =>
    have hE : pColE f xs = (chk f).2 := by unfold pColE; rw [if_pos h1]
    have hL : pColL f xs = [] := by unfold pColL; rw [if_pos h1]
    rw [hE, hL]
    have e0 : ((chk f).2 != 0) = true := by simpa using h1
    generalize (chk f).2 = z at *
    obtain ⟨name, body, ss⟩ := f
    simp only [FT.val] at *
    have CF := Lib.hid cF; clear cF h1 hE hL
    go_enter Tryz.func36, Tryz.ntmps36
    have HB := Lib.hid (Blk.new w 48 #[.string name, .int .i64 body, .slice A ss.length c])
    have HX : Hid (Ext w (w.alloc (.cells #[.string name, .int .i64 body, .slice A ss.length c] 48))) := Lib.hid (by repeat (first | exact Ext.refl _ | assumption | refine Ext.alloc ?_ _ | refine Ext.drew ?_ | refine Ext.drewN ?_ _ | (refine Ext.setCell ?_ (by simp <;> omega) _) | refine Ext.trans ?_ (by assumption)))
    obtain ⟨k0, k1, k2, kl⟩ := HB.out.c3
    go_wp2_with (first | (go_at_call 61; refine Calls.mono (CF.out _ (HF.out.ext (HX.out.trans (by repeat (first | exact Ext.refl _ | assumption | refine Ext.alloc ?_ _ | refine Ext.drew ?_ | refine Ext.drewN ?_ _ | (refine Ext.setCell ?_ (by simp <;> omega) _) | refine Ext.trans ?_ (by assumption)))))) ?_; rintro e w1 ⟨rfl, hb⟩; have HB9 := Lib.hid (HB.out.ext (Ext.trans (by repeat (first | exact Ext.refl _ | assumption | refine Ext.alloc ?_ _ | refine Ext.drew ?_ | refine Ext.drewN ?_ _ | (refine Ext.setCell ?_ (by simp <;> omega) _) | refine Ext.trans ?_ (by assumption))) hb)); have HX9 := Lib.hid (HX.out.trans (Ext.trans (by repeat (first | exact Ext.refl _ | assumption | refine Ext.alloc ?_ _ | refine Ext.drew ?_ | refine Ext.drewN ?_ _ | (refine Ext.setCell ?_ (by simp <;> omega) _) | refine Ext.trans ?_ (by assumption))) hb)); clear k0 k1 k2 kl HB HX; have HB := HB9; have HX := HX9; clear HB9 HX9; obtain ⟨k0, k1, k2, kl⟩ := HB.out.c3; clear hb))
    go_ret2
    exact RetIC.none_ (HX.out.trans (by repeat (first | exact Ext.refl _ | assumption | refine Ext.alloc ?_ _ | refine Ext.drew ?_ | refine Ext.drewN ?_ _ | (refine Ext.setCell ?_ (by simp <;> omega) _) | refine Ext.trans ?_ (by assumption))))
  case pos =>
  have hE : pColE f xs = colE f.sorts.length xs := by unfold pColE; rw [if_neg (by simpa using h1)]
  have hL : pColL f xs = colL f.sorts xs := by unfold pColL; rw [if_neg (by simpa using h1)]
  rw [hE, hL]
  have HLC : Hid (∀ zs, listChk f zs = listErr f.sorts.length zs) := Lib.hid fun zs => by unfold listChk; rw [if_neg (by simpa using h1)]
  have HWD : Hid (∀ k i, listErr f.sorts.length (cz xs k i) = 0 → 0 ≤ wdt f.sorts xs k i ∧ wdt f.sorts xs k i ≤ 1000000000) := Lib.hid fun k i hg => wdt_bd h1 hg
  rw [h1] at cF
  have HCE : Hid (colE f.sorts.length xs = if 60 < xs.length then 8 else firstE (rowE f.sorts.length xs) xs.length) := Lib.hid rfl
  have HCL : Hid (colL f.sorts xs = if colE f.sorts.length xs ≠ 0 then [] else colV f.sorts xs xs.length) := Lib.hid rfl
  clear h1 hE hL
  generalize colE f.sorts.length xs = E at *
  generalize colL f.sorts xs = L at *
  obtain ⟨name, body, ss⟩ := f
  simp only [FT.val] at *
  have CF := Lib.hid cF; clear cF
  by_cases h60 : 60 < xs.length
  case pos =>
    have HV : Hid (E = 8 ∧ L = []) := Lib.hid (by
      have h8 : E = 8 := by rw [HCE.out, if_pos h60]
      exact ⟨h8, by rw [HCL.out, if_pos (by rw [h8]; decide)]⟩)
    have i1 : (60 : Int) < (xs.length : Int) := by omega
    clear HCE HCL HLC HWD h60
    go_enter Tryz.func36, Tryz.ntmps36
    have HB := Lib.hid (Blk.new w 48 #[.string name, .int .i64 body, .slice A ss.length c])
    have HX : Hid (Ext w (w.alloc (.cells #[.string name, .int .i64 body, .slice A ss.length c] 48))) := Lib.hid (by repeat (first | exact Ext.refl _ | assumption | refine Ext.alloc ?_ _ | refine Ext.drew ?_ | refine Ext.drewN ?_ _ | (refine Ext.setCell ?_ (by simp <;> omega) _) | refine Ext.trans ?_ (by assumption)))
    obtain ⟨k0, k1, k2, kl⟩ := HB.out.c3
    go_wp2_with (first | (go_at_call 61; refine Calls.mono (CF.out _ (HF.out.ext (HX.out.trans (by repeat (first | exact Ext.refl _ | assumption | refine Ext.alloc ?_ _ | refine Ext.drew ?_ | refine Ext.drewN ?_ _ | (refine Ext.setCell ?_ (by simp <;> omega) _) | refine Ext.trans ?_ (by assumption)))))) ?_; rintro e w1 ⟨rfl, hb⟩; have HB9 := Lib.hid (HB.out.ext (Ext.trans (by repeat (first | exact Ext.refl _ | assumption | refine Ext.alloc ?_ _ | refine Ext.drew ?_ | refine Ext.drewN ?_ _ | (refine Ext.setCell ?_ (by simp <;> omega) _) | refine Ext.trans ?_ (by assumption))) hb)); have HX9 := Lib.hid (HX.out.trans (Ext.trans (by repeat (first | exact Ext.refl _ | assumption | refine Ext.alloc ?_ _ | refine Ext.drew ?_ | refine Ext.drewN ?_ _ | (refine Ext.setCell ?_ (by simp <;> omega) _) | refine Ext.trans ?_ (by assumption))) hb)); clear k0 k1 k2 kl HB HX; have HB := HB9; have HX := HX9; clear HB9 HX9; obtain ⟨k0, k1, k2, kl⟩ := HB.out.c3; clear hb))
    go_ret2
    rw [HV.out.1, HV.out.2]
    exact RetIC.none_ (HX.out.trans (by repeat (first | exact Ext.refl _ | assumption | refine Ext.alloc ?_ _ | refine Ext.drew ?_ | refine Ext.drewN ?_ _ | (refine Ext.setCell ?_ (by simp <;> omega) _) | refine Ext.trans ?_ (by assumption))))
  case neg =>
  have i1 : ¬ (60 : Int) < (xs.length : Int) := by omega
  have HH : Hid (∀ k z, (∀ j, j < k → rowE ss.length xs j = 0) → k < xs.length → rowE ss.length xs k = z → z ≠ 0 → E = z ∧ L = []) := Lib.hid fun k z h0 hk he hb => by
    have h8 : E = z := by rw [HCE.out, if_neg h60, ← he]; exact firstE_hit (g := rowE ss.length xs) h0 (by rw [he]; exact hb) hk
    exact ⟨h8, by rw [HCL.out, if_pos (by rw [h8]; exact hb)]⟩
  have HZ : Hid ((∀ j, j < xs.length → rowE ss.length xs j = 0) → E = 0 ∧ L = colV ss xs xs.length) := Lib.hid fun h => by
    have h8 : E = 0 := by rw [HCE.out, if_neg h60]; exact firstE_none h
    exact ⟨h8, by rw [HCL.out, if_neg (by simpa using h8)]⟩
  clear HCE HCL
  go_enter Tryz.func36, Tryz.ntmps36
  have HB := Lib.hid (Blk.new w 48 #[.string name, .int .i64 body, .slice A ss.length c])
  have HX : Hid (Ext w (w.alloc (.cells #[.string name, .int .i64 body, .slice A ss.length c] 48))) := Lib.hid (by repeat (first | exact Ext.refl _ | assumption | refine Ext.alloc ?_ _ | refine Ext.drew ?_ | refine Ext.drewN ?_ _ | (refine Ext.setCell ?_ (by simp <;> omega) _) | refine Ext.trans ?_ (by assumption)))
  obtain ⟨k0, k1, k2, kl⟩ := HB.out.c3
  go_wp2_with (first | (go_at_call 61; refine Calls.mono (CF.out _ (HF.out.ext (HX.out.trans (by repeat (first | exact Ext.refl _ | assumption | refine Ext.alloc ?_ _ | refine Ext.drew ?_ | refine Ext.drewN ?_ _ | (refine Ext.setCell ?_ (by simp <;> omega) _) | refine Ext.trans ?_ (by assumption)))))) ?_; rintro e w1 ⟨rfl, hb⟩; have HB9 := Lib.hid (HB.out.ext (Ext.trans (by repeat (first | exact Ext.refl _ | assumption | refine Ext.alloc ?_ _ | refine Ext.drew ?_ | refine Ext.drewN ?_ _ | (refine Ext.setCell ?_ (by simp <;> omega) _) | refine Ext.trans ?_ (by assumption))) hb)); have HX9 := Lib.hid (HX.out.trans (Ext.trans (by repeat (first | exact Ext.refl _ | assumption | refine Ext.alloc ?_ _ | refine Ext.drew ?_ | refine Ext.drewN ?_ _ | (refine Ext.setCell ?_ (by simp <;> omega) _) | refine Ext.trans ?_ (by assumption))) hb)); clear k0 k1 k2 kl HB HX; have HB := HB9; have HX := HX9; clear HB9 HX9; obtain ⟨k0, k1, k2, kl⟩ := HB.out.c3; clear hb))
  have HB1 := HB
  have HX1 := HX
  clear k0 k1 k2 kl HB HX
  go_loopw [7, 24] (fun v j wr => ∃ i : Nat, i ≤ xs.length ∧ j = .int .i64 (i : Int) ∧ Hid (∀ j, j < i → rowE ss.length xs j = 0) ∧ Hid (Own wr (w.heap.size + 1) v (colV ss xs i)) ∧ Hid (∀ j, j < (colV ss xs i).length → 0 ≤ (colV ss xs i).getD j 0 ∧ (colV ss xs i).getD j 0 ≤ 1000000000) ∧ Hid (Blk wr w.heap.size 48 #[.string name, .int .i64 body, .slice A ss.length c]) ∧ Hid (Ext w wr)) (fun _ j _ => xs.length - (intOf j).toNat)
  case atStart => exact ⟨0, Nat.zero_le _, rfl, Lib.hid (fun j hj => absurd hj (by omega)), Lib.hid (Own.nil _ _), Lib.hid (fun j hj => absurd hj (by simp [colV])), HB1, HX1⟩
  case round =>
    obtain ⟨i, hi, rfl, H0, HO, HOBB, HB, HX⟩ := hrel
    clear HB1 HX1
    obtain ⟨k0, k1, k2, kl⟩ := HB.out.c3
    by_cases hlt : i < xs.length
    case neg =>
      obtain rfl : i = xs.length := by omega
      have i2 : ¬ (xs.length : Int) < (xs.length : Int) := by omega
      have HV := Lib.hid (HZ.out H0.out)
      have hcl : (colV ss xs xs.length).length ≤ 1000000 := by
        rcases Nat.eq_zero_or_pos xs.length with h9 | h9
        · rw [h9]; simp [colV]
        · rw [colV_len ss xs _ h9]
          by_cases h8 : rlen xs 0 ≤ 60
          · omega
          · have := H0.out 0 h9
            unfold rowE at this
            rw [if_neg (by simp), if_pos (by omega)] at this
            cases this
      generalize colV ss xs xs.length = L9 at *
      obtain ⟨A9, c9, rfl, _, hr9⟩ := HO.out.form (by omega)
      have HR9 := Lib.hid hr9
      clear hr9 hcl HZ HH
      go_wp2
      go_ret2
      rw [HV.out.1, HV.out.2]
      exact ⟨A9, c9, rfl, HR9.out.ext (by repeat (first | exact Ext.refl _ | assumption | refine Ext.alloc ?_ _ | refine Ext.drew ?_ | refine Ext.drewN ?_ _ | (refine Ext.setCell ?_ (by simp <;> omega) _) | refine Ext.trans ?_ (by assumption))), HX.out.trans (by repeat (first | exact Ext.refl _ | assumption | refine Ext.alloc ?_ _ | refine Ext.drew ?_ | refine Ext.drewN ?_ _ | (refine Ext.setCell ?_ (by simp <;> omega) _) | refine Ext.trans ?_ (by assumption)))⟩
    case pos =>
      have hii : (i : Int) < (xs.length : Int) := by omega
      obtain ⟨b, off, rfl, hbw, hcell⟩ := (HR.out.ext HX.out).2.2.1 (by omega)
      have hrl := HR.out.2.2.2 i hlt
      have ci := hcell i hlt
      have c0 := hcell 0 (by omega)
      rw [Nat.add_zero] at c0
      have hp0 : (0 : Int) < (xs.length : Int) := by omega
      have HHI := Lib.hid (fun z he hb => HH.out i z H0.out hlt he hb)
      have HNX : Hid (rowE ss.length xs i = 0 → ∀ j, j < i + 1 → rowE ss.length xs j = 0) := Lib.hid fun h j hj => by
        rcases Nat.lt_or_ge j i with h9 | h9
        · exact H0.out j h9
        · obtain rfl : j = i := by omega
          exact h
      have HRD : Hid (rowE ss.length xs i = if rlen xs i ≠ rlen xs 0 then 10 else if 60 < rlen xs i then 8 else firstE (fun q => listErr ss.length (cz xs i q)) (rlen xs i)) := Lib.hid rfl
      have HRI : Hid (rlen xs i = (xs.getD i S3.none_).rows.length) := Lib.hid rfl
      have HR00 : Hid (rlen xs 0 = (xs.getD 0 S3.none_).rows.length) := Lib.hid rfl
      have HCZ0 : Hid (∀ q, cz xs i q = ((xs.getD i S3.none_).rows.getD q SI.none_).zs) := Lib.hid fun _ => rfl
      have HCV : Hid (colV ss xs (i + 1) = upd (wdt ss xs i) (if i = 0 then List.replicate (rlen xs 0) 0 else colV ss xs i) (rlen xs 0)) := Lib.hid rfl
      have HWS0 : Hid (∀ q, wdt ss xs i q = widthTo ss (cz xs i q) (cz xs i q).length) := Lib.hid fun _ => rfl
      have HCVL : Hid (0 < i → (colV ss xs i).length = rlen xs 0) := Lib.hid fun h => colV_len ss xs i h
      have HWDI := Lib.hid (fun q => HWD.out i q)
      clear hcell HH HZ
      generalize hr0 : xs.getD 0 S3.none_ = r0 at *
      generalize hri0 : xs.getD i S3.none_ = r at *
      obtain ⟨zA, zc, zrows⟩ := r0
      obtain ⟨rA, rc, rws⟩ := r
      simp only [S3.val] at *
      clear hr0 hri0
      obtain ⟨m, hm⟩ : ∃ m, zrows.length = m := ⟨_, rfl⟩
      obtain ⟨rn, hrn⟩ : ∃ rn, rws.length = rn := ⟨_, rfl⟩
      rw [hm] at c0 HR00
      rw [hrn] at ci HRI hrl
      rw [HRI.out, HR00.out] at HRD
      rw [HR00.out] at HCV HCVL
      clear HRI HR00 hm hrn
      have HRL := Lib.hid hrl
      have HWL : Hid (w.heap.size + 1 ≤ wr.heap.size) := Lib.hid (by have := HB.out.lt; omega)
      have hrb := hrl.2.1
      clear hrl
      by_cases hne : rn = m
      case neg =>
        have HV := Lib.hid (HHI.out 10 (by rw [HRD.out, if_pos hne]) (by decide))
        have i3 : ((rn : Int) != (m : Int)) = true := by rw [bne_iff_ne]; omega
        clear HHI HNX HRD HCZ0 HCV HWS0 hne
        go_wp2
        go_ret2
        rw [HV.out.1, HV.out.2]
        exact RetIC.none_ (HX.out.trans (by repeat (first | exact Ext.refl _ | assumption | refine Ext.alloc ?_ _ | refine Ext.drew ?_ | refine Ext.drewN ?_ _ | (refine Ext.setCell ?_ (by simp <;> omega) _) | refine Ext.trans ?_ (by assumption))))
      case pos =>
      subst hne
      by_cases hm60 : 60 < rn
      case pos =>
        have HV := Lib.hid (HHI.out 8 (by rw [HRD.out, if_neg (by simp), if_pos hm60]) (by decide))
        have i4 : (60 : Int) < (rn : Int) := by omega
        clear HHI HNX HRD HCZ0 HCV HWS0 hm60
        go_wp2
        go_ret2
        rw [HV.out.1, HV.out.2]
        exact RetIC.none_ (HX.out.trans (by repeat (first | exact Ext.refl _ | assumption | refine Ext.alloc ?_ _ | refine Ext.drew ?_ | refine Ext.drewN ?_ _ | (refine Ext.setCell ?_ (by simp <;> omega) _) | refine Ext.trans ?_ (by assumption))))
      case neg =>
      have i4 : ¬ (60 : Int) < (rn : Int) := by omega
      have HRD2 : Hid (rowE ss.length xs i = firstE (fun q => listErr ss.length (cz xs i q)) rn) := Lib.hid (by rw [HRD.out, if_neg (by simp), if_neg hm60])
      have HROW0 : Hid ((∀ j, j < rn → listErr ss.length (cz xs i j) = 0) → rowE ss.length xs i = 0) := Lib.hid fun h => by rw [HRD2.out]; exact firstE_none h
      have HRE : Hid (∀ k, (∀ j, j < k → listErr ss.length (cz xs i j) = 0) → k < rn → listErr ss.length (cz xs i k) ≠ 0 → E = listErr ss.length (cz xs i k) ∧ L = []) := Lib.hid fun k h0 hk hb => HHI.out _ (by rw [HRD2.out]; exact firstE_hit (g := fun q => listErr ss.length (cz xs i q)) h0 hb hk) hb
      have hm2 : rn ≤ 60 := by omega
      clear HHI HRD HRD2 hm60
      obtain ⟨ws, hws⟩ : ∃ ws, ws = wdt ss xs i := ⟨_, rfl⟩
      rw [← hws] at HCV HWS0 HWDI
      clear hws
      obtain ⟨out0, hout0⟩ : ∃ o, (if i = 0 then List.replicate rn 0 else colV ss xs i) = o := ⟨_, rfl⟩
      rw [hout0] at HCV
      have HOL : Hid (out0.length = rn) := Lib.hid (by
        rw [← hout0]
        split
        · simp
        · rename_i h9; exact HCVL.out (by omega))
      have HOB0 : Hid (∀ j, j < rn → 0 ≤ (upd ws out0 0).getD j 0 ∧ (upd ws out0 0).getD j 0 ≤ 1000000000) := Lib.hid (by
        intro j hj
        show 0 ≤ out0.getD j 0 ∧ out0.getD j 0 ≤ 1000000000
        rw [← hout0]
        split
        · rw [List.getD_eq_getElem?_getD, List.getElem?_replicate, if_pos hj]; simp
        · rename_i h9; exact HOBB.out j (by rw [HCVL.out (by omega)]; exact hj))
      clear HOBB
      by_cases hi0 : i = 0
      case pos =>
        have e1 : ((i : Int) == 0) = true := by rw [beq_iff_eq]; omega
        rw [if_pos hi0] at hout0
        have HOUT := Lib.hid hout0
        clear hi0 HCVL hout0
        go_wp2_with (first | (at_make; refine list_makeI rfl (.tmp 44) (.tmp 44) rfl rn rfl rfl (by omega) ?_; intro W2 hS hb hlt2; have HSO := Lib.hid hS.own; have HB9 := Lib.hid (HB.out.ext (Ext.trans (by repeat (first | exact Ext.refl _ | assumption | refine Ext.alloc ?_ _ | refine Ext.drew ?_ | refine Ext.drewN ?_ _ | (refine Ext.setCell ?_ (by simp <;> omega) _) | refine Ext.trans ?_ (by assumption))) hb)); have HX9 := Lib.hid (HX.out.trans (Ext.trans (by repeat (first | exact Ext.refl _ | assumption | refine Ext.alloc ?_ _ | refine Ext.drew ?_ | refine Ext.drewN ?_ _ | (refine Ext.setCell ?_ (by simp <;> omega) _) | refine Ext.trans ?_ (by assumption))) hb)); clear k0 k1 k2 kl HB HX; have HB := HB9; have HX := HX9; clear HB9 HX9; obtain ⟨k0, k1, k2, kl⟩ := HB.out.c3; clear hS hb hlt2))
        obtain ⟨gw, hgw⟩ : ∃ x, x = wr.heap.size := ⟨_, rfl⟩
        have HO7 : Hid (Own W2 (w.heap.size + 1) (.slice (some ⟨gw, 0, none⟩) rn rn) out0) := Lib.hid (by
          have h9 := HSO.out
          rw [List.length_replicate, HOUT.out, ← hgw] at h9
          exact h9.low (by rw [hgw]; exact HWL.out))
        rw [← hgw]
        clear HSO HO hgw
        have HO0 : Hid (Own _ (w.heap.size + 1) (.slice (some ⟨gw, 0, none⟩) rn rn) (upd ws out0 0)) := HO7
        have HB7 := HB
        have HX7 := HX
        clear HO7 HB HX k0 k1 k2 kl
        go_loopw [48] (fun j wr2 => ∃ k : Nat, k ≤ rn ∧ j = .int .i64 (k : Int) ∧ Hid (∀ j, j < k → listErr ss.length (cz xs i j) = 0) ∧ Hid (Own wr2 (w.heap.size + 1) (.slice (some ⟨gw, 0, none⟩) rn rn) (upd ws out0 k)) ∧ Hid (∀ j, j < rn → 0 ≤ (upd ws out0 k).getD j 0 ∧ (upd ws out0 k).getD j 0 ≤ 1000000000) ∧ Hid (Blk wr2 w.heap.size 48 #[.string name, .int .i64 body, .slice A ss.length c]) ∧ Hid (Ext w wr2)) (fun j _ => rn - (intOf j).toNat)
        case atStart => exact ⟨0, Nat.zero_le _, rfl, Lib.hid (fun j hj => absurd hj (by omega)), HO0, HOB0, HB7, HX7⟩
        case round =>
          obtain ⟨k, hk, rfl, HK, HO2, HUB, HB, HX⟩ := hrel
          clear HO0 HB7 HX7
          obtain ⟨k0, k1, k2, kl⟩ := HB.out.c3
          by_cases hkm : k < rn
          case neg =>
            obtain rfl : rn = k := by omega
            have i9 : ¬ (rn : Int) < (rn : Int) := by omega
            have HRZ := Lib.hid (HROW0.out HK.out)
            clear hkm
            go_wp2
            go_roundw
            case rel => exact ⟨i + 1, by omega, by go_num, Lib.hid (HNX.out HRZ.out), Lib.hid (by rw [HCV.out]; exact HO2.out), Lib.hid (by rw [HCV.out]; exact fun j hj => HUB.out j (by rw [upd_len, HOL.out] at hj; exact hj)), HB, HX⟩
            case measure => simp [intOf] <;> omega
          case pos =>
            have i9 : (k : Int) < (rn : Int) := by omega
            obtain ⟨rb, ro, rfl, hrb2, hrc⟩ := (HRL.out.ext HX.out).2.2.1 (by omega)
            have hri := (HRL.out.ext HX.out).2.2.2 k hkm
            have r1 := hrc k hkm
            have HE1 := Lib.hid (HRE.out k HK.out hkm)
            have HKS : Hid (listErr ss.length (cz xs i k) = 0 → ∀ j, j < k + 1 → listErr ss.length (cz xs i j) = 0) := Lib.hid fun h j hj => by
              rcases Nat.lt_or_ge j k with h9 | h9
              · exact HK.out j h9
              · obtain rfl : j = k := by omega
                exact h
            have HCZ := Lib.hid (HCZ0.out k)
            have HWS := Lib.hid (HWS0.out k)
            have HWB := Lib.hid (HWDI.out k)
            have HUP : Hid (upd ws out0 (k + 1) = (upd ws out0 k).set k (max ((upd ws out0 k).getD k 0) (ws k))) := Lib.hid rfl
            rw [HCZ.out] at HE1 HKS HWS HWB
            clear hrc HCZ
            generalize rws.getD k SI.none_ = s at *
            obtain ⟨sA, sc, zs⟩ := s
            simp only [SI.val] at *
            have cW := fun W h1 h2 => widthOf_any ⟨name, body, ss⟩ A c sA sc zs W h1 h2
            unfold widthV at cW
            have hlc := HLC.out zs
            have HSW := Lib.hid hri
            by_cases hz : listErr ss.length zs = 0
            case neg =>
              have hwr : widthR ⟨name, body, ss⟩ zs = (0, listErr ss.length zs) := by unfold widthR; rw [hlc, if_pos hz]
              rw [hwr] at cW
              have HV := Lib.hid (HE1.out hz)
              generalize listErr ss.length zs = z at *
              have e0 : (z != 0) = true := by simpa using hz
              simp only [FT.val] at cW
              have CW := Lib.hid cW
              clear cW hwr hlc hz HE1 HKS HWS HWB hri
              go_wp2_with (first | (go_at_call 71; refine Calls.mono (CW.out _ (HF.out.ext (HX.out.trans (by repeat (first | exact Ext.refl _ | assumption | refine Ext.alloc ?_ _ | refine Ext.drew ?_ | refine Ext.drewN ?_ _ | (refine Ext.setCell ?_ (by simp <;> omega) _) | refine Ext.trans ?_ (by assumption))))) (HSW.out.ext (by repeat (first | exact Ext.refl _ | assumption | refine Ext.alloc ?_ _ | refine Ext.drew ?_ | refine Ext.drewN ?_ _ | (refine Ext.setCell ?_ (by simp <;> omega) _) | refine Ext.trans ?_ (by assumption))))) ?_; rintro e w1 ⟨rfl, hb⟩; have HB9 := Lib.hid (HB.out.ext (Ext.trans (by repeat (first | exact Ext.refl _ | assumption | refine Ext.alloc ?_ _ | refine Ext.drew ?_ | refine Ext.drewN ?_ _ | (refine Ext.setCell ?_ (by simp <;> omega) _) | refine Ext.trans ?_ (by assumption))) hb)); have HX9 := Lib.hid (HX.out.trans (Ext.trans (by repeat (first | exact Ext.refl _ | assumption | refine Ext.alloc ?_ _ | refine Ext.drew ?_ | refine Ext.drewN ?_ _ | (refine Ext.setCell ?_ (by simp <;> omega) _) | refine Ext.trans ?_ (by assumption))) hb)); clear k0 k1 k2 kl HB HX; have HB := HB9; have HX := HX9; clear HB9 HX9; obtain ⟨k0, k1, k2, kl⟩ := HB.out.c3; clear hb))
              go_ret2
              rw [HV.out.1, HV.out.2]
              exact RetIC.none_ (HX.out.trans (by repeat (first | exact Ext.refl _ | assumption | refine Ext.alloc ?_ _ | refine Ext.drew ?_ | refine Ext.drewN ?_ _ | (refine Ext.setCell ?_ (by simp <;> omega) _) | refine Ext.trans ?_ (by assumption))))
            case pos =>
              have hwr : widthR ⟨name, body, ss⟩ zs = (ws k, 0) := by unfold widthR; rw [hlc, if_neg (by simpa using hz), HWS.out]
              rw [hwr] at cW
              have HK2 := Lib.hid (HKS.out hz)
              obtain ⟨w1b, w2b⟩ := HWB.out hz
              obtain ⟨g, cap, hvg, hgb⟩ := World.ownsRow.form HO2.out (by rw [upd_len, HOL.out]; omega)
              obtain ⟨hA7, hmd, hc7⟩ := Value.slice.inj hvg.symm
              clear hmd hc7 hvg
              cases hA7
              obtain ⟨g, rfl⟩ : ∃ g, g = gw := ⟨_, rfl⟩
              have HOG := HO2
              have hul : k < (upd ws out0 k).length := by rw [upd_len, HOL.out]; exact hkm
              have l1 := (HOG.out.at rfl k hul).1
              obtain ⟨y1, y2⟩ := HUB.out k hkm
              have HUN : Hid (∀ y, (upd ws out0 k).getD k 0 = y → ∀ j, j < rn → 0 ≤ ((upd ws out0 k).set k (max y (ws k))).getD j 0 ∧ ((upd ws out0 k).set k (max y (ws k))).getD j 0 ≤ 1000000000) := Lib.hid fun y hy j hj => by
                rw [getD_set hul]
                split
                · rw [← hy]; omega
                · exact HUB.out j hj
              generalize hyy : (upd ws out0 k).getD k 0 = y at *
              have HYY := Lib.hid hyy
              generalize ws k = wk at *
              simp only [FT.val] at cW
              have CW := Lib.hid cW
              have HGB : Hid (w.heap.size + 1 ≤ g) := Lib.hid hgb.1
              have HGL : Hid (g < wr.heap.size) := Lib.hid hgb.2
              have HL1 := Lib.hid l1
              clear cW hwr hlc hz HE1 HKS HWS HWB hri hgb hul l1 hyy HUB
              go_wp2_with (first | (go_at_call 71; refine Calls.mono (CW.out _ (HF.out.ext (HX.out.trans (by repeat (first | exact Ext.refl _ | assumption | refine Ext.alloc ?_ _ | refine Ext.drew ?_ | refine Ext.drewN ?_ _ | (refine Ext.setCell ?_ (by simp <;> omega) _) | refine Ext.trans ?_ (by assumption))))) (HSW.out.ext (by repeat (first | exact Ext.refl _ | assumption | refine Ext.alloc ?_ _ | refine Ext.drew ?_ | refine Ext.drewN ?_ _ | (refine Ext.setCell ?_ (by simp <;> omega) _) | refine Ext.trans ?_ (by assumption))))) ?_; rintro e w1 ⟨rfl, hb⟩; have HO3 := Lib.hid (HOG.out.ext (Ext.trans (by repeat (first | exact Ext.refl _ | assumption | refine Ext.alloc ?_ _ | refine Ext.drew ?_ | refine Ext.drewN ?_ _ | (refine Ext.setCell ?_ (by simp <;> omega) _) | refine Ext.trans ?_ (by assumption))) hb)); have l1 := ((Ext.trans (a := wr) (by repeat (first | exact Ext.refl _ | assumption | refine Ext.alloc ?_ _ | refine Ext.drew ?_ | refine Ext.drewN ?_ _ | (refine Ext.setCell ?_ (by simp <;> omega) _) | refine Ext.trans ?_ (by assumption))) hb).cell (p := ⟨g, k, none⟩) HGL.out).trans HL1.out; have l2 := (HO3.out.at rfl k (by rw [upd_len, HOL.out]; exact hkm)).2.1; have l3 : g < w1.heap.size := Nat.lt_of_lt_of_le HGL.out (Ext.trans (a := wr) (by repeat (first | exact Ext.refl _ | assumption | refine Ext.alloc ?_ _ | refine Ext.drew ?_ | refine Ext.drewN ?_ _ | (refine Ext.setCell ?_ (by simp <;> omega) _) | refine Ext.trans ?_ (by assumption))) hb).size; have HB9 := Lib.hid (HB.out.ext (Ext.trans (by repeat (first | exact Ext.refl _ | assumption | refine Ext.alloc ?_ _ | refine Ext.drew ?_ | refine Ext.drewN ?_ _ | (refine Ext.setCell ?_ (by simp <;> omega) _) | refine Ext.trans ?_ (by assumption))) hb)); have HX9 := Lib.hid (HX.out.trans (Ext.trans (by repeat (first | exact Ext.refl _ | assumption | refine Ext.alloc ?_ _ | refine Ext.drew ?_ | refine Ext.drewN ?_ _ | (refine Ext.setCell ?_ (by simp <;> omega) _) | refine Ext.trans ?_ (by assumption))) hb)); clear k0 k1 k2 kl HB HX; have HB := HB9; have HX := HX9; clear HB9 HX9; obtain ⟨k0, k1, k2, kl⟩ := HB.out.c3; clear hb))
              go_roundw
              case rel => exact ⟨k + 1, by omega, by go_num, HK2, Lib.hid (by rw [HUP.out]; exact HO3.out.set k _), Lib.hid (by rw [HUP.out]; exact HUN.out y rfl), Lib.hid (HB.out.far (p := ⟨g, k, none⟩) (by have := HGB.out; simp only; omega) _), Lib.hid (HX.out.setCell (p := ⟨g, k, none⟩) (by have := HGB.out; simp only; omega) _)⟩
              case measure => simp [intOf] <;> omega
      case neg =>
        have e1 : ((i : Int) == 0) = false := by rw [beq_eq_false_iff_ne]; omega
        rw [if_neg hi0] at hout0
        rw [hout0] at HO
        clear hi0 HCVL hout0
        have hol := HOL.out
        obtain ⟨A7, c7, hv7, _, _⟩ := HO.out.form (by omega)
        rw [hol] at hv7
        subst hv7
        have HO7 := HO
        clear HO hol
        go_wp2
        have HO0 : Hid (Own _ (w.heap.size + 1) (.slice A7 rn c7) (upd ws out0 0)) := HO7
        have HB7 := HB
        have HX7 := HX
        clear HO7 HB HX k0 k1 k2 kl
        go_loopw [48] (fun j wr2 => ∃ k : Nat, k ≤ rn ∧ j = .int .i64 (k : Int) ∧ Hid (∀ j, j < k → listErr ss.length (cz xs i j) = 0) ∧ Hid (Own wr2 (w.heap.size + 1) (.slice A7 rn c7) (upd ws out0 k)) ∧ Hid (∀ j, j < rn → 0 ≤ (upd ws out0 k).getD j 0 ∧ (upd ws out0 k).getD j 0 ≤ 1000000000) ∧ Hid (Blk wr2 w.heap.size 48 #[.string name, .int .i64 body, .slice A ss.length c]) ∧ Hid (Ext w wr2)) (fun j _ => rn - (intOf j).toNat)
        case atStart => exact ⟨0, Nat.zero_le _, rfl, Lib.hid (fun j hj => absurd hj (by omega)), HO0, HOB0, HB7, HX7⟩
        case round =>
          obtain ⟨k, hk, rfl, HK, HO2, HUB, HB, HX⟩ := hrel
          clear HO0 HB7 HX7
          obtain ⟨k0, k1, k2, kl⟩ := HB.out.c3
          by_cases hkm : k < rn
          case neg =>
            obtain rfl : rn = k := by omega
            have i9 : ¬ (rn : Int) < (rn : Int) := by omega
            have HRZ := Lib.hid (HROW0.out HK.out)
            clear hkm
            go_wp2
            go_roundw
            case rel => exact ⟨i + 1, by omega, by go_num, Lib.hid (HNX.out HRZ.out), Lib.hid (by rw [HCV.out]; exact HO2.out), Lib.hid (by rw [HCV.out]; exact fun j hj => HUB.out j (by rw [upd_len, HOL.out] at hj; exact hj)), HB, HX⟩
            case measure => simp [intOf] <;> omega
          case pos =>
            have i9 : (k : Int) < (rn : Int) := by omega
            obtain ⟨rb, ro, rfl, hrb2, hrc⟩ := (HRL.out.ext HX.out).2.2.1 (by omega)
            have hri := (HRL.out.ext HX.out).2.2.2 k hkm
            have r1 := hrc k hkm
            have HE1 := Lib.hid (HRE.out k HK.out hkm)
            have HKS : Hid (listErr ss.length (cz xs i k) = 0 → ∀ j, j < k + 1 → listErr ss.length (cz xs i j) = 0) := Lib.hid fun h j hj => by
              rcases Nat.lt_or_ge j k with h9 | h9
              · exact HK.out j h9
              · obtain rfl : j = k := by omega
                exact h
            have HCZ := Lib.hid (HCZ0.out k)
            have HWS := Lib.hid (HWS0.out k)
            have HWB := Lib.hid (HWDI.out k)
            have HUP : Hid (upd ws out0 (k + 1) = (upd ws out0 k).set k (max ((upd ws out0 k).getD k 0) (ws k))) := Lib.hid rfl
            rw [HCZ.out] at HE1 HKS HWS HWB
            clear hrc HCZ
            generalize rws.getD k SI.none_ = s at *
            obtain ⟨sA, sc, zs⟩ := s
            simp only [SI.val] at *
            have cW := fun W h1 h2 => widthOf_any ⟨name, body, ss⟩ A c sA sc zs W h1 h2
            unfold widthV at cW
            have hlc := HLC.out zs
            have HSW := Lib.hid hri
            by_cases hz : listErr ss.length zs = 0
            case neg =>
              have hwr : widthR ⟨name, body, ss⟩ zs = (0, listErr ss.length zs) := by unfold widthR; rw [hlc, if_pos hz]
              rw [hwr] at cW
              have HV := Lib.hid (HE1.out hz)
              generalize listErr ss.length zs = z at *
              have e0 : (z != 0) = true := by simpa using hz
              simp only [FT.val] at cW
              have CW := Lib.hid cW
              clear cW hwr hlc hz HE1 HKS HWS HWB hri
              go_wp2_with (first | (go_at_call 71; refine Calls.mono (CW.out _ (HF.out.ext (HX.out.trans (by repeat (first | exact Ext.refl _ | assumption | refine Ext.alloc ?_ _ | refine Ext.drew ?_ | refine Ext.drewN ?_ _ | (refine Ext.setCell ?_ (by simp <;> omega) _) | refine Ext.trans ?_ (by assumption))))) (HSW.out.ext (by repeat (first | exact Ext.refl _ | assumption | refine Ext.alloc ?_ _ | refine Ext.drew ?_ | refine Ext.drewN ?_ _ | (refine Ext.setCell ?_ (by simp <;> omega) _) | refine Ext.trans ?_ (by assumption))))) ?_; rintro e w1 ⟨rfl, hb⟩; have HB9 := Lib.hid (HB.out.ext (Ext.trans (by repeat (first | exact Ext.refl _ | assumption | refine Ext.alloc ?_ _ | refine Ext.drew ?_ | refine Ext.drewN ?_ _ | (refine Ext.setCell ?_ (by simp <;> omega) _) | refine Ext.trans ?_ (by assumption))) hb)); have HX9 := Lib.hid (HX.out.trans (Ext.trans (by repeat (first | exact Ext.refl _ | assumption | refine Ext.alloc ?_ _ | refine Ext.drew ?_ | refine Ext.drewN ?_ _ | (refine Ext.setCell ?_ (by simp <;> omega) _) | refine Ext.trans ?_ (by assumption))) hb)); clear k0 k1 k2 kl HB HX; have HB := HB9; have HX := HX9; clear HB9 HX9; obtain ⟨k0, k1, k2, kl⟩ := HB.out.c3; clear hb))
              go_ret2
              rw [HV.out.1, HV.out.2]
              exact RetIC.none_ (HX.out.trans (by repeat (first | exact Ext.refl _ | assumption | refine Ext.alloc ?_ _ | refine Ext.drew ?_ | refine Ext.drewN ?_ _ | (refine Ext.setCell ?_ (by simp <;> omega) _) | refine Ext.trans ?_ (by assumption))))
            case pos =>
              have hwr : widthR ⟨name, body, ss⟩ zs = (ws k, 0) := by unfold widthR; rw [hlc, if_neg (by simpa using hz), HWS.out]
              rw [hwr] at cW
              have HK2 := Lib.hid (HKS.out hz)
              obtain ⟨w1b, w2b⟩ := HWB.out hz
              obtain ⟨g, cap, hvg, hgb⟩ := World.ownsRow.form HO2.out (by rw [upd_len, HOL.out]; omega)
              obtain ⟨hA7, hmd, hc7⟩ := Value.slice.inj hvg.symm
              clear hmd hc7 hvg
              cases hA7
              skip
              have HOG := HO2
              have hul : k < (upd ws out0 k).length := by rw [upd_len, HOL.out]; exact hkm
              have l1 := (HOG.out.at rfl k hul).1
              obtain ⟨y1, y2⟩ := HUB.out k hkm
              have HUN : Hid (∀ y, (upd ws out0 k).getD k 0 = y → ∀ j, j < rn → 0 ≤ ((upd ws out0 k).set k (max y (ws k))).getD j 0 ∧ ((upd ws out0 k).set k (max y (ws k))).getD j 0 ≤ 1000000000) := Lib.hid fun y hy j hj => by
                rw [getD_set hul]
                split
                · rw [← hy]; omega
                · exact HUB.out j hj
              generalize hyy : (upd ws out0 k).getD k 0 = y at *
              have HYY := Lib.hid hyy
              generalize ws k = wk at *
              simp only [FT.val] at cW
              have CW := Lib.hid cW
              have HGB : Hid (w.heap.size + 1 ≤ g) := Lib.hid hgb.1
              have HGL : Hid (g < wr.heap.size) := Lib.hid hgb.2
              have HL1 := Lib.hid l1
              clear cW hwr hlc hz HE1 HKS HWS HWB hri hgb hul l1 hyy HUB
              go_wp2_with (first | (go_at_call 71; refine Calls.mono (CW.out _ (HF.out.ext (HX.out.trans (by repeat (first | exact Ext.refl _ | assumption | refine Ext.alloc ?_ _ | refine Ext.drew ?_ | refine Ext.drewN ?_ _ | (refine Ext.setCell ?_ (by simp <;> omega) _) | refine Ext.trans ?_ (by assumption))))) (HSW.out.ext (by repeat (first | exact Ext.refl _ | assumption | refine Ext.alloc ?_ _ | refine Ext.drew ?_ | refine Ext.drewN ?_ _ | (refine Ext.setCell ?_ (by simp <;> omega) _) | refine Ext.trans ?_ (by assumption))))) ?_; rintro e w1 ⟨rfl, hb⟩; have HO3 := Lib.hid (HOG.out.ext (Ext.trans (by repeat (first | exact Ext.refl _ | assumption | refine Ext.alloc ?_ _ | refine Ext.drew ?_ | refine Ext.drewN ?_ _ | (refine Ext.setCell ?_ (by simp <;> omega) _) | refine Ext.trans ?_ (by assumption))) hb)); have l1 := ((Ext.trans (a := wr) (by repeat (first | exact Ext.refl _ | assumption | refine Ext.alloc ?_ _ | refine Ext.drew ?_ | refine Ext.drewN ?_ _ | (refine Ext.setCell ?_ (by simp <;> omega) _) | refine Ext.trans ?_ (by assumption))) hb).cell (p := ⟨g, k, none⟩) HGL.out).trans HL1.out; have l2 := (HO3.out.at rfl k (by rw [upd_len, HOL.out]; exact hkm)).2.1; have l3 : g < w1.heap.size := Nat.lt_of_lt_of_le HGL.out (Ext.trans (a := wr) (by repeat (first | exact Ext.refl _ | assumption | refine Ext.alloc ?_ _ | refine Ext.drew ?_ | refine Ext.drewN ?_ _ | (refine Ext.setCell ?_ (by simp <;> omega) _) | refine Ext.trans ?_ (by assumption))) hb).size; have HB9 := Lib.hid (HB.out.ext (Ext.trans (by repeat (first | exact Ext.refl _ | assumption | refine Ext.alloc ?_ _ | refine Ext.drew ?_ | refine Ext.drewN ?_ _ | (refine Ext.setCell ?_ (by simp <;> omega) _) | refine Ext.trans ?_ (by assumption))) hb)); have HX9 := Lib.hid (HX.out.trans (Ext.trans (by repeat (first | exact Ext.refl _ | assumption | refine Ext.alloc ?_ _ | refine Ext.drew ?_ | refine Ext.drewN ?_ _ | (refine Ext.setCell ?_ (by simp <;> omega) _) | refine Ext.trans ?_ (by assumption))) hb)); clear k0 k1 k2 kl HB HX; have HB := HB9; have HX := HX9; clear HB9 HX9; obtain ⟨k0, k1, k2, kl⟩ := HB.out.c3; clear hb))
              go_roundw
              case rel => exact ⟨k + 1, by omega, by go_num, HK2, Lib.hid (by rw [HUP.out]; exact HO3.out.set k _), Lib.hid (by rw [HUP.out]; exact HUN.out y rfl), Lib.hid (HB.out.far (p := ⟨g, k, none⟩) (by have := HGB.out; simp only; omega) _), Lib.hid (HX.out.setCell (p := ⟨g, k, none⟩) (by have := HGB.out; simp only; omega) _)⟩
              case measure => simp [intOf] <;> omega
end Go.Proofs.YtpkmapngdkkglaaGreatDoor
