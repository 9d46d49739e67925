/-
  Walk: the reference's widths of columns.
-/
import Derived.Test.YtpkmapngdkkglaaGreatDoorPCol
namespace Go.Proofs.YtpkmapngdkkglaaGreatDoor
open Go.RowKit
attribute [local go_sem ↓] Go.wp_at_zero Go.wp_at_succ

theorem range_bd {ws : Nat → Int} {n : Nat} (h : ∀ j, j < n → 0 ≤ ws j ∧ ws j ≤ 1000000000) : ∀ j, j < ((List.range n).map ws).length → 0 ≤ ((List.range n).map ws).getD j 0 ∧ ((List.range n).map ws).getD j 0 ≤ 1000000000 := fun j hj => by
  rw [List.length_map, List.length_range] at hj
  rw [List.getD_eq_getElem?_getD, List.getElem?_map, List.getElem?_range hj]
  exact h j hj
theorem blk_push {w W W' W2 : World} {t : TypeId} {cs : Array Value} {v : Value} {zs : List Int} (h : Blk W w.heap.size t cs) (ho : Own W (w.heap.size + 1) v zs) (hx : Ext W W') (hg : W'.grownBy W2 v.ownBlock) : Blk W2 w.heap.size t cs :=
  (hg.block _ (h.ext hx).lt fun e => by have := ho.base_le _ e.symm; omega).trans (h.ext hx)
theorem ext_push {w W W' W2 : World} {v : Value} {zs : List Int} (h : Ext w W) (ho : Own W (w.heap.size + 1) v zs) (hx : Ext W W') (hg : W'.grownBy W2 v.ownBlock) : Ext w W2 :=
  (h.trans hx).grown hg fun k hk => by have := ho.base_le k hk; omega
set_option maxRecDepth 100000 in
set_option maxHeartbeats 8000000 in
theorem rCol_any (f : FT) (A : Option Addr) (c : Nat) (B : Option Addr) (d : Nat) (xs : List S3) (w : World) (hf : FR w A c f) (h : R3 w B xs.length xs) (h1 : (chk f).2 = 0) :
    Calls Tryz.prog 37 #[f.val A c, .slice B xs.length d] w (RetIC (colL f.sorts xs) (colE f.sorts.length xs) w) := by
  have hbig := h.2.1
  have HF := Lib.hid hf; have HR := Lib.hid h; clear hf h
  have HLE := Lib.hid (fun X e zs W q1 q2 => rListErr_any f A c X e zs W q1 q2)
  have HWC := Lib.hid (fun X e zs W q1 q2 q3 => rWidthOf_any f A c X e zs W q1 q2 q3 h1)
  have HWD : Hid (∀ k i, listErr f.sorts.length (cz xs k i) = 0 → 0 ≤ wdt f.sorts xs k i ∧ wdt f.sorts xs k i ≤ 1000000000) := Lib.hid fun k i hg => wdt_bd h1 hg
  have HCE : Hid (colE f.sorts.length xs = if 60 < xs.length then 8 else firstE (rowE f.sorts.length xs) xs.length) := Lib.hid rfl
  have HCL : Hid (colL f.sorts xs = if colE f.sorts.length xs ≠ 0 then [] else colV f.sorts xs xs.length) := Lib.hid rfl
  clear h1
  generalize colE f.sorts.length xs = E at *
  generalize colL f.sorts xs = L at *
  obtain ⟨name, body, ss⟩ := f
  simp only [FT.val] at *
  by_cases h60 : 60 < xs.length
  case pos =>
    have HV : Hid (E = 8 ∧ L = []) := Lib.hid (by
      have h8 : E = 8 := by rw [HCE.out, if_pos h60]
      exact ⟨h8, by rw [HCL.out, if_pos (by rw [h8]; decide)]⟩)
    have i1 : (60 : Int) < (xs.length : Int) := by omega
    clear HCE HCL HWD h60
    go_enter Tryz.func37, Tryz.ntmps37
    go_wp2
    go_ret2
    rw [HV.out.1, HV.out.2]
    exact RetIC.none_ (by repeat (first | exact Ext.refl _ | assumption | refine Ext.alloc ?_ _ | refine Ext.drew ?_ | refine Ext.drewN ?_ _ | (refine Ext.setCell ?_ (by simp <;> omega) _) | refine Ext.trans ?_ (by assumption)))
  case neg =>
  have i1 : ¬ (60 : Int) < (xs.length : Int) := by omega
  have HH : Hid (∀ k z, (∀ j, j < k → rowE ss.length xs j = 0) → k < xs.length → rowE ss.length xs k = z → z ≠ 0 → E = z ∧ L = []) := Lib.hid fun k z h0 hk he hb => by
    have h8 : E = z := by rw [HCE.out, if_neg h60, ← he]; exact firstE_hit (g := rowE ss.length xs) h0 (by rw [he]; exact hb) hk
    exact ⟨h8, by rw [HCL.out, if_pos (by rw [h8]; exact hb)]⟩
  have HZ : Hid ((∀ j, j < xs.length → rowE ss.length xs j = 0) → E = 0 ∧ L = colV ss xs xs.length) := Lib.hid fun h => by
    have h8 : E = 0 := by rw [HCE.out, if_neg h60]; exact firstE_none h
    exact ⟨h8, by rw [HCL.out, if_neg (by simpa using h8)]⟩
  clear HCE HCL h60
  go_enter Tryz.func37, Tryz.ntmps37
  have HB1 := Lib.hid (Blk.new w 48 #[.string name, .int .i64 body, .slice A ss.length c])
  go_wp2
  go_loopw [6, 7] (fun v j wr => ∃ i : Nat, i ≤ xs.length ∧ j = .int .i64 (i : Int) ∧ Hid (∀ j, j < i → rowE ss.length xs j = 0) ∧ Hid (Own wr (w.heap.size + 1) v (colV ss xs i)) ∧ Hid (∀ j, j < (colV ss xs i).length → 0 ≤ (colV ss xs i).getD j 0 ∧ (colV ss xs i).getD j 0 ≤ 1000000000) ∧ Hid (Blk wr w.heap.size 48 #[.string name, .int .i64 body, .slice A ss.length c]) ∧ Hid (Ext w wr)) (fun _ j _ => xs.length - (intOf j).toNat)
  case atStart => exact ⟨0, Nat.zero_le _, rfl, Lib.hid (fun j hj => absurd hj (by omega)), Lib.hid (Own.nil _ _), Lib.hid (fun j hj => absurd hj (by simp [colV])), HB1, Lib.hid (by repeat (first | exact Ext.refl _ | assumption | refine Ext.alloc ?_ _ | refine Ext.drew ?_ | refine Ext.drewN ?_ _ | (refine Ext.setCell ?_ (by simp <;> omega) _) | refine Ext.trans ?_ (by assumption)))⟩
  case round =>
    obtain ⟨i, hi, rfl, H0, HO, HOBB, HB, HX⟩ := hrel
    clear HB1
    obtain ⟨k0, k1, k2, kl⟩ := HB.out.c3
    by_cases hlt : i < xs.length
    case neg =>
      obtain rfl : i = xs.length := by omega
      have i2 : ¬ (xs.length : Int) < (xs.length : Int) := by omega
      have HV := Lib.hid (HZ.out H0.out)
      have hcl : (colV ss xs xs.length).length ≤ 1000000 := by
        rcases Nat.eq_zero_or_pos xs.length with h9 | h9
        · rw [h9]; simp [colV]
        · rw [colV_len ss xs _ h9]
          by_cases h8 : rlen xs 0 ≤ 60
          · omega
          · have := H0.out 0 h9
            unfold rowE at this
            rw [if_neg (by simp), if_pos (by omega)] at this
            cases this
      generalize colV ss xs xs.length = L9 at *
      obtain ⟨A9, c9, rfl, _, hr9⟩ := HO.out.form (by omega)
      have HR9 := Lib.hid hr9
      clear hr9 hcl HZ HH
      go_wp2
      go_ret2
      rw [HV.out.1, HV.out.2]
      exact ⟨A9, c9, rfl, HR9.out.ext (by repeat (first | exact Ext.refl _ | assumption | refine Ext.alloc ?_ _ | refine Ext.drew ?_ | refine Ext.drewN ?_ _ | (refine Ext.setCell ?_ (by simp <;> omega) _) | refine Ext.trans ?_ (by assumption))), HX.out.trans (by repeat (first | exact Ext.refl _ | assumption | refine Ext.alloc ?_ _ | refine Ext.drew ?_ | refine Ext.drewN ?_ _ | (refine Ext.setCell ?_ (by simp <;> omega) _) | refine Ext.trans ?_ (by assumption)))⟩
    case pos =>
      have hii : (i : Int) < (xs.length : Int) := by omega
      have hp0 : (0 : Int) < (xs.length : Int) := by omega
      have hp1 : 0 < xs.length := by omega
      obtain ⟨b, off, rfl, hbw, hcell⟩ := HR.out.2.2.1 (by omega)
      have hrl := HR.out.2.2.2 i hlt
      have ci := hcell i hlt
      have c0 := hcell 0 (by omega)
      rw [Nat.add_zero] at c0
      have HHI := Lib.hid (fun z he hb => HH.out i z H0.out hlt he hb)
      have HNX : Hid (rowE ss.length xs i = 0 → ∀ j, j < i + 1 → rowE ss.length xs j = 0) := Lib.hid fun h j hj => by
        rcases Nat.lt_or_ge j i with h9 | h9
        · exact H0.out j h9
        · obtain rfl : j = i := by omega
          exact h
      have HRD : Hid (rowE ss.length xs i = if rlen xs i ≠ rlen xs 0 then 10 else if 60 < rlen xs i then 8 else firstE (fun q => listErr ss.length (cz xs i q)) (rlen xs i)) := Lib.hid rfl
      have HRI : Hid (rlen xs i = (xs.getD i S3.none_).rows.length) := Lib.hid rfl
      have HR00 : Hid (rlen xs 0 = (xs.getD 0 S3.none_).rows.length) := Lib.hid rfl
      have HCZ0 : Hid (∀ q, cz xs i q = ((xs.getD i S3.none_).rows.getD q SI.none_).zs) := Lib.hid fun _ => rfl
      have HCV : Hid (colV ss xs (i + 1) = upd (wdt ss xs i) (if i = 0 then List.replicate (rlen xs 0) 0 else colV ss xs i) (rlen xs 0)) := Lib.hid rfl
      have HWS0 : Hid (∀ q, wdt ss xs i q = widthTo ss (cz xs i q) (cz xs i q).length) := Lib.hid fun _ => rfl
      have HCVL : Hid (0 < i → (colV ss xs i).length = rlen xs 0) := Lib.hid fun h => colV_len ss xs i h
      have HWDI := Lib.hid (fun q => HWD.out i q)
      clear hcell HH HZ
      generalize hr0 : xs.getD 0 S3.none_ = r0 at *
      generalize hri0 : xs.getD i S3.none_ = r at *
      obtain ⟨zA, zc, zrows⟩ := r0
      obtain ⟨rA, rc, rws⟩ := r
      simp only [S3.val] at *
      clear hr0 hri0
      obtain ⟨m, hm⟩ : ∃ m, zrows.length = m := ⟨_, rfl⟩
      obtain ⟨rn, hrn⟩ : ∃ rn, rws.length = rn := ⟨_, rfl⟩
      rw [hm] at c0 HR00
      rw [hrn] at ci HRI hrl
      rw [HRI.out, HR00.out] at HRD
      rw [HR00.out] at HCV HCVL
      clear HRI HR00 hm hrn
      have HRL := Lib.hid hrl
      have hrb := hrl.2.1
      have HCI := Lib.hid ci; have HC0 := Lib.hid c0; have HBW := Lib.hid hbw
      clear hrl ci c0
      by_cases hne : rn = m
      case neg =>
        have HV := Lib.hid (HHI.out 10 (by rw [HRD.out, if_pos hne]) (by decide))
        have i3 : ((rn : Int) != (m : Int)) = true := by rw [bne_iff_ne]; omega
        clear HHI HNX HRD HCZ0 HCV HWS0 hne
        go_upto_region 7 with fail
        refine wp_region_steady (Ext _) [?_, ?_, ?_, ?_, ?_, ?_, ?_, ?_, ?_, ?_] (by kernel_rfl) (by kernel_rfl) rfl (Ext.refl _).drew ?_ ?_
        rotate_left 10
        · refine StepsT.cons (fun W hW => ?_) ?_
          · have ci := ((HX.out.trans hW).cell (p := ⟨b, off + i, none⟩) HBW.out).trans HCI.out; have c0 := ((HX.out.trans hW).cell (p := ⟨b, off, none⟩) HBW.out).trans HC0.out; first | (refine StepT.off rfl hW ?_; rfl) | (refine StepT.go rfl ?_; go_simp; first | (refine ⟨?_, hW⟩; rfl))
          simp only [Act.put, List.setIfInBounds_toArray, List.set_cons_zero, List.set_cons_succ]
          refine StepsT.cons (fun W hW => ?_) ?_
          · have ci := ((HX.out.trans hW).cell (p := ⟨b, off + i, none⟩) HBW.out).trans HCI.out; have c0 := ((HX.out.trans hW).cell (p := ⟨b, off, none⟩) HBW.out).trans HC0.out; first | (refine StepT.off rfl hW ?_; rfl) | (refine StepT.go rfl ?_; go_simp; first | (refine ⟨?_, hW⟩; rfl))
          simp only [Act.put, List.setIfInBounds_toArray, List.set_cons_zero, List.set_cons_succ]
          refine StepsT.cons (fun W hW => ?_) ?_
          · have ci := ((HX.out.trans hW).cell (p := ⟨b, off + i, none⟩) HBW.out).trans HCI.out; have c0 := ((HX.out.trans hW).cell (p := ⟨b, off, none⟩) HBW.out).trans HC0.out; first | (refine StepT.off rfl hW ?_; rfl) | (refine StepT.go rfl ?_; go_simp; first | (refine ⟨?_, hW⟩; rfl))
          simp only [Act.put, List.setIfInBounds_toArray, List.set_cons_zero, List.set_cons_succ]
          refine StepsT.cons (fun W hW => ?_) ?_
          · have ci := ((HX.out.trans hW).cell (p := ⟨b, off + i, none⟩) HBW.out).trans HCI.out; have c0 := ((HX.out.trans hW).cell (p := ⟨b, off, none⟩) HBW.out).trans HC0.out; first | (refine StepT.off rfl hW ?_; rfl) | (refine StepT.go rfl ?_; go_simp; first | (refine ⟨?_, hW⟩; rfl))
          simp only [Act.put, List.setIfInBounds_toArray, List.set_cons_zero, List.set_cons_succ]
          refine StepsT.cons (fun W hW => ?_) ?_
          · have ci := ((HX.out.trans hW).cell (p := ⟨b, off + i, none⟩) HBW.out).trans HCI.out; have c0 := ((HX.out.trans hW).cell (p := ⟨b, off, none⟩) HBW.out).trans HC0.out; first | (refine StepT.off rfl hW ?_; rfl) | (refine StepT.go rfl ?_; go_simp; first | (refine ⟨?_, hW⟩; rfl))
          simp only [Act.put, List.setIfInBounds_toArray, List.set_cons_zero, List.set_cons_succ]
          refine StepsT.cons (fun W hW => ?_) ?_
          · have ci := ((HX.out.trans hW).cell (p := ⟨b, off + i, none⟩) HBW.out).trans HCI.out; have c0 := ((HX.out.trans hW).cell (p := ⟨b, off, none⟩) HBW.out).trans HC0.out; first | (refine StepT.off rfl hW ?_; rfl) | (refine StepT.go rfl ?_; go_simp; first | (refine ⟨?_, hW⟩; rfl))
          simp only [Act.put, List.setIfInBounds_toArray, List.set_cons_zero, List.set_cons_succ]
          refine StepsT.cons (fun W hW => ?_) ?_
          · have ci := ((HX.out.trans hW).cell (p := ⟨b, off + i, none⟩) HBW.out).trans HCI.out; have c0 := ((HX.out.trans hW).cell (p := ⟨b, off, none⟩) HBW.out).trans HC0.out; first | (refine StepT.off rfl hW ?_; rfl) | (refine StepT.go rfl ?_; go_simp; first | (refine ⟨?_, hW⟩; rfl))
          simp only [Act.put, List.setIfInBounds_toArray, List.set_cons_zero, List.set_cons_succ]
          refine StepsT.cons (fun W hW => ?_) ?_
          · have ci := ((HX.out.trans hW).cell (p := ⟨b, off + i, none⟩) HBW.out).trans HCI.out; have c0 := ((HX.out.trans hW).cell (p := ⟨b, off, none⟩) HBW.out).trans HC0.out; first | (refine StepT.off rfl hW ?_; rfl) | (refine StepT.go rfl ?_; go_simp; first | (refine ⟨?_, hW⟩; rfl))
          simp only [Act.put, List.setIfInBounds_toArray, List.set_cons_zero, List.set_cons_succ]
          refine StepsT.cons (fun W hW => ?_) ?_
          · have ci := ((HX.out.trans hW).cell (p := ⟨b, off + i, none⟩) HBW.out).trans HCI.out; have c0 := ((HX.out.trans hW).cell (p := ⟨b, off, none⟩) HBW.out).trans HC0.out; first | (refine StepT.off rfl hW ?_; rfl) | (refine StepT.go rfl ?_; go_simp; first | (refine ⟨?_, hW⟩; rfl))
          simp only [Act.put, List.setIfInBounds_toArray, List.set_cons_zero, List.set_cons_succ]
          refine StepsT.cons (fun W hW => ?_) ?_
          · have ci := ((HX.out.trans hW).cell (p := ⟨b, off + i, none⟩) HBW.out).trans HCI.out; have c0 := ((HX.out.trans hW).cell (p := ⟨b, off, none⟩) HBW.out).trans HC0.out; first | (refine StepT.off rfl hW ?_; rfl) | (refine StepT.go rfl ?_; go_simp; first | (refine ⟨?_, hW⟩; rfl))
          simp only [Act.put, List.setIfInBounds_toArray, List.set_cons_zero, List.set_cons_succ]
          trivial
        intro W hW
        simp only [putAll, Act.put, List.setIfInBounds_toArray, List.set_cons_zero, List.set_cons_succ]
        go_wp2
        go_ret2
        rw [HV.out.1, HV.out.2]
        exact RetIC.none_ (HX.out.trans (Ext.trans hW (by repeat (first | exact Ext.refl _ | assumption | refine Ext.alloc ?_ _ | refine Ext.drew ?_ | refine Ext.drewN ?_ _ | (refine Ext.setCell ?_ (by simp <;> omega) _) | refine Ext.trans ?_ (by assumption)))))
      case pos =>
      subst hne
      go_upto_region 7 with fail
      refine wp_region_steady (Ext _) [?_, ?_, ?_, ?_, ?_, ?_, ?_, ?_, ?_, ?_] (by kernel_rfl) (by kernel_rfl) rfl (Ext.refl _).drew ?_ ?_
      rotate_left 10
      · refine StepsT.cons (fun W hW => ?_) ?_
        · have ci := ((HX.out.trans hW).cell (p := ⟨b, off + i, none⟩) HBW.out).trans HCI.out; have c0 := ((HX.out.trans hW).cell (p := ⟨b, off, none⟩) HBW.out).trans HC0.out; first | (refine StepT.off rfl hW ?_; rfl) | (refine StepT.go rfl ?_; go_simp; first | (refine ⟨?_, hW⟩; rfl))
        simp only [Act.put, List.setIfInBounds_toArray, List.set_cons_zero, List.set_cons_succ]
        refine StepsT.cons (fun W hW => ?_) ?_
        · have ci := ((HX.out.trans hW).cell (p := ⟨b, off + i, none⟩) HBW.out).trans HCI.out; have c0 := ((HX.out.trans hW).cell (p := ⟨b, off, none⟩) HBW.out).trans HC0.out; first | (refine StepT.off rfl hW ?_; rfl) | (refine StepT.go rfl ?_; go_simp; first | (refine ⟨?_, hW⟩; rfl))
        simp only [Act.put, List.setIfInBounds_toArray, List.set_cons_zero, List.set_cons_succ]
        refine StepsT.cons (fun W hW => ?_) ?_
        · have ci := ((HX.out.trans hW).cell (p := ⟨b, off + i, none⟩) HBW.out).trans HCI.out; have c0 := ((HX.out.trans hW).cell (p := ⟨b, off, none⟩) HBW.out).trans HC0.out; first | (refine StepT.off rfl hW ?_; rfl) | (refine StepT.go rfl ?_; go_simp; first | (refine ⟨?_, hW⟩; rfl))
        simp only [Act.put, List.setIfInBounds_toArray, List.set_cons_zero, List.set_cons_succ]
        refine StepsT.cons (fun W hW => ?_) ?_
        · have ci := ((HX.out.trans hW).cell (p := ⟨b, off + i, none⟩) HBW.out).trans HCI.out; have c0 := ((HX.out.trans hW).cell (p := ⟨b, off, none⟩) HBW.out).trans HC0.out; first | (refine StepT.off rfl hW ?_; rfl) | (refine StepT.go rfl ?_; go_simp; first | (refine ⟨?_, hW⟩; rfl))
        simp only [Act.put, List.setIfInBounds_toArray, List.set_cons_zero, List.set_cons_succ]
        refine StepsT.cons (fun W hW => ?_) ?_
        · have ci := ((HX.out.trans hW).cell (p := ⟨b, off + i, none⟩) HBW.out).trans HCI.out; have c0 := ((HX.out.trans hW).cell (p := ⟨b, off, none⟩) HBW.out).trans HC0.out; first | (refine StepT.off rfl hW ?_; rfl) | (refine StepT.go rfl ?_; go_simp; first | (refine ⟨?_, hW⟩; rfl))
        simp only [Act.put, List.setIfInBounds_toArray, List.set_cons_zero, List.set_cons_succ]
        refine StepsT.cons (fun W hW => ?_) ?_
        · have ci := ((HX.out.trans hW).cell (p := ⟨b, off + i, none⟩) HBW.out).trans HCI.out; have c0 := ((HX.out.trans hW).cell (p := ⟨b, off, none⟩) HBW.out).trans HC0.out; first | (refine StepT.off rfl hW ?_; rfl) | (refine StepT.go rfl ?_; go_simp; first | (refine ⟨?_, hW⟩; rfl))
        simp only [Act.put, List.setIfInBounds_toArray, List.set_cons_zero, List.set_cons_succ]
        refine StepsT.cons (fun W hW => ?_) ?_
        · have ci := ((HX.out.trans hW).cell (p := ⟨b, off + i, none⟩) HBW.out).trans HCI.out; have c0 := ((HX.out.trans hW).cell (p := ⟨b, off, none⟩) HBW.out).trans HC0.out; first | (refine StepT.off rfl hW ?_; rfl) | (refine StepT.go rfl ?_; go_simp; first | (refine ⟨?_, hW⟩; rfl))
        simp only [Act.put, List.setIfInBounds_toArray, List.set_cons_zero, List.set_cons_succ]
        refine StepsT.cons (fun W hW => ?_) ?_
        · have ci := ((HX.out.trans hW).cell (p := ⟨b, off + i, none⟩) HBW.out).trans HCI.out; have c0 := ((HX.out.trans hW).cell (p := ⟨b, off, none⟩) HBW.out).trans HC0.out; first | (refine StepT.off rfl hW ?_; rfl) | (refine StepT.go rfl ?_; go_simp; first | (refine ⟨?_, hW⟩; rfl))
        simp only [Act.put, List.setIfInBounds_toArray, List.set_cons_zero, List.set_cons_succ]
        refine StepsT.cons (fun W hW => ?_) ?_
        · have ci := ((HX.out.trans hW).cell (p := ⟨b, off + i, none⟩) HBW.out).trans HCI.out; have c0 := ((HX.out.trans hW).cell (p := ⟨b, off, none⟩) HBW.out).trans HC0.out; first | (refine StepT.off rfl hW ?_; rfl) | (refine StepT.go rfl ?_; go_simp; first | (refine ⟨?_, hW⟩; rfl))
        simp only [Act.put, List.setIfInBounds_toArray, List.set_cons_zero, List.set_cons_succ]
        refine StepsT.cons (fun W hW => ?_) ?_
        · have ci := ((HX.out.trans hW).cell (p := ⟨b, off + i, none⟩) HBW.out).trans HCI.out; have c0 := ((HX.out.trans hW).cell (p := ⟨b, off, none⟩) HBW.out).trans HC0.out; first | (refine StepT.off rfl hW ?_; rfl) | (refine StepT.go rfl ?_; go_simp; first | (refine ⟨?_, hW⟩; rfl))
        simp only [Act.put, List.setIfInBounds_toArray, List.set_cons_zero, List.set_cons_succ]
        trivial
      intro W hW
      simp only [putAll, Act.put, List.setIfInBounds_toArray, List.set_cons_zero, List.set_cons_succ]
      have HX7 := Lib.hid (HX.out.trans hW); have HB7 := Lib.hid (HB.out.ext hW); have HO7 := Lib.hid (HO.out.ext hW)
      have ci := (HX7.out.cell (p := ⟨b, off + i, none⟩) HBW.out).trans HCI.out
      have cbl : b < W.heap.size := Nat.lt_of_lt_of_le HBW.out HX7.out.size
      clear HX HB HO hW k0 k1 k2 kl
      by_cases hm60 : 60 < rn
      case pos =>
        have HV := Lib.hid (HHI.out 8 (by rw [HRD.out, if_neg (by simp), if_pos hm60]) (by decide))
        have i4 : (60 : Int) < (rn : Int) := by omega
        clear HHI HNX HRD HCZ0 HCV HWS0 hm60
        go_wp2
        go_ret2
        rw [HV.out.1, HV.out.2]
        exact RetIC.none_ (HX7.out.trans (by repeat (first | exact Ext.refl _ | assumption | refine Ext.alloc ?_ _ | refine Ext.drew ?_ | refine Ext.drewN ?_ _ | (refine Ext.setCell ?_ (by simp <;> omega) _) | refine Ext.trans ?_ (by assumption))))
      case neg =>
      have i4 : ¬ (60 : Int) < (rn : Int) := by omega
      have HRD2 : Hid (rowE ss.length xs i = firstE (fun q => listErr ss.length (cz xs i q)) rn) := Lib.hid (by rw [HRD.out, if_neg (by simp), if_neg hm60])
      have HROW0 : Hid ((∀ j, j < rn → listErr ss.length (cz xs i j) = 0) → rowE ss.length xs i = 0) := Lib.hid fun h => by rw [HRD2.out]; exact firstE_none h
      have HRE : Hid (∀ k, (∀ j, j < k → listErr ss.length (cz xs i j) = 0) → k < rn → listErr ss.length (cz xs i k) ≠ 0 → E = listErr ss.length (cz xs i k) ∧ L = []) := Lib.hid fun k h0 hk hb => HHI.out _ (by rw [HRD2.out]; exact firstE_hit (g := fun q => listErr ss.length (cz xs i q)) h0 hb hk) hb
      have hm2 : rn ≤ 60 := by omega
      clear HHI HRD HRD2 hm60
      obtain ⟨ws, hws⟩ : ∃ ws, ws = wdt ss xs i := ⟨_, rfl⟩
      rw [← hws] at HCV HWS0 HWDI
      clear hws
      by_cases hi0 : i = 0
      case pos =>
        have e1 : ((i : Int) == 0) = true := by rw [beq_iff_eq]; omega
        have HO0 : Hid (Own W (w.heap.size + 1) _ ((List.range 0).map ws)) := Lib.hid (by have h9 := HO7.out; rw [hi0] at h9; exact h9)
        have HCV2 : Hid (colV ss xs (i + 1) = upd ws (List.replicate rn 0) rn) := Lib.hid (by rw [HCV.out, if_pos hi0])
        have hrn2 := hm2
        clear hi0 HCVL HOBB HO7 HCV
        go_wp2
        go_loopw [6, 8] (fun v j wr => ∃ k : Nat, k ≤ rn ∧ j = .int .i64 (k : Int) ∧ Hid (∀ j, j < k → listErr ss.length (cz xs i j) = 0) ∧ Hid (Own wr (w.heap.size + 1) v ((List.range k).map ws)) ∧ Hid (Blk wr w.heap.size 48 #[.string name, .int .i64 body, .slice A ss.length c]) ∧ Hid (Ext w wr)) (fun _ j _ => rn - (intOf j).toNat)
        case atStart => exact ⟨0, Nat.zero_le _, rfl, Lib.hid (fun j hj => absurd hj (by omega)), HO0, HB7, HX7⟩
        case round =>
          obtain ⟨k, hk, rfl, HK, HO, HB, HX⟩ := hrel
          clear HB7 HX7
          have ci := (HX.out.cell (p := ⟨b, off + i, none⟩) HBW.out).trans HCI.out; have cbl : b < wr.heap.size := Nat.lt_of_lt_of_le HBW.out HX.out.size; obtain ⟨k0, k1, k2, kl⟩ := HB.out.c3
          by_cases hkm : k < rn
          case neg =>
            obtain rfl : rn = k := by omega
            have i9 : ¬ (rn : Int) < (rn : Int) := by omega
            have HRZ := Lib.hid (HROW0.out HK.out)
            have HEND : Hid (colV ss xs (i + 1) = (List.range rn).map ws) := Lib.hid (by rw [HCV2.out]; exact upd_first ws rn (fun j hj => (HWDI.out j (HK.out j hj)).1))
            clear hkm
            go_wp2
            go_roundw
            case rel => exact ⟨i + 1, by omega, by go_num, Lib.hid (HNX.out HRZ.out), Lib.hid (by rw [HEND.out]; exact HO.out), Lib.hid (by rw [HEND.out]; exact range_bd fun j hj => HWDI.out j (HK.out j hj)), HB, HX⟩
            case measure => simp [intOf] <;> omega
          case pos =>
            have i9 : (k : Int) < (rn : Int) := by omega
            obtain ⟨rb, ro, rfl, hrb2, hrc⟩ := HRL.out.2.2.1 (by omega)
            have hri := HRL.out.2.2.2 k hkm
            have r1 := hrc k hkm
            have HE1 := Lib.hid (HRE.out k HK.out hkm)
            have HKS : Hid (listErr ss.length (cz xs i k) = 0 → ∀ j, j < k + 1 → listErr ss.length (cz xs i j) = 0) := Lib.hid fun h j hj => by
              rcases Nat.lt_or_ge j k with h9 | h9
              · exact HK.out j h9
              · obtain rfl : j = k := by omega
                exact h
            have HCZ := Lib.hid (HCZ0.out k)
            have HWS := Lib.hid (HWS0.out k)
            have HWB := Lib.hid (HWDI.out k)
            rw [HCZ.out] at HE1 HKS HWS HWB
            clear hrc HCZ
            generalize rws.getD k SI.none_ = s at *
            obtain ⟨sA, sc, zs⟩ := s
            simp only [SI.val] at *
            have CL := Lib.hid (fun W h1 h2 => HLE.out sA sc zs W h1 h2)
            have HSW := Lib.hid hri; have HR1 := Lib.hid r1; have HRB := Lib.hid hrb2
            by_cases hz : listErr ss.length zs = 0
            case neg =>
              have HV := Lib.hid (HE1.out hz)
              generalize listErr ss.length zs = z at *
              have e0 : (z != 0) = true := by simpa using hz
              clear hz HE1 HKS HWS HWB hri r1 hrb2
              go_upto_region 14 with fail
              refine wp_region_steady (Ext _) [?_, ?_, ?_, ?_, ?_, ?_, ?_, ?_, ?_, ?_] (by kernel_rfl) (by kernel_rfl) rfl (Ext.refl _).drew ?_ ?_
              rotate_left 10
              · refine StepsT.cons (fun W hW => ?_) ?_
                · have ci := ((HX.out.trans hW).cell (p := ⟨b, off + i, none⟩) HBW.out).trans HCI.out; have r1 := ((HX.out.trans hW).cell (p := ⟨rb, ro + k, none⟩) HRB.out).trans HR1.out; obtain ⟨k0, k1, k2, kl⟩ := (HB.out.ext hW).c3; first | (refine StepT.off rfl hW ?_; rfl) | (refine StepT.go rfl ?_; go_simp; first | (refine ⟨?_, hW⟩; rfl) | (refine Calls.mono (CL.out _ (HF.out.ext (HX.out.trans hW)) (HSW.out.ext (HX.out.trans hW))) ?_; rintro e w4 ⟨rfl, hb⟩; refine ⟨?_, hW.trans hb⟩; rfl))
                simp only [Act.put, List.setIfInBounds_toArray, List.set_cons_zero, List.set_cons_succ]
                refine StepsT.cons (fun W hW => ?_) ?_
                · have ci := ((HX.out.trans hW).cell (p := ⟨b, off + i, none⟩) HBW.out).trans HCI.out; have r1 := ((HX.out.trans hW).cell (p := ⟨rb, ro + k, none⟩) HRB.out).trans HR1.out; obtain ⟨k0, k1, k2, kl⟩ := (HB.out.ext hW).c3; first | (refine StepT.off rfl hW ?_; rfl) | (refine StepT.go rfl ?_; go_simp; first | (refine ⟨?_, hW⟩; rfl) | (refine Calls.mono (CL.out _ (HF.out.ext (HX.out.trans hW)) (HSW.out.ext (HX.out.trans hW))) ?_; rintro e w4 ⟨rfl, hb⟩; refine ⟨?_, hW.trans hb⟩; rfl))
                simp only [Act.put, List.setIfInBounds_toArray, List.set_cons_zero, List.set_cons_succ]
                refine StepsT.cons (fun W hW => ?_) ?_
                · have ci := ((HX.out.trans hW).cell (p := ⟨b, off + i, none⟩) HBW.out).trans HCI.out; have r1 := ((HX.out.trans hW).cell (p := ⟨rb, ro + k, none⟩) HRB.out).trans HR1.out; obtain ⟨k0, k1, k2, kl⟩ := (HB.out.ext hW).c3; first | (refine StepT.off rfl hW ?_; rfl) | (refine StepT.go rfl ?_; go_simp; first | (refine ⟨?_, hW⟩; rfl) | (refine Calls.mono (CL.out _ (HF.out.ext (HX.out.trans hW)) (HSW.out.ext (HX.out.trans hW))) ?_; rintro e w4 ⟨rfl, hb⟩; refine ⟨?_, hW.trans hb⟩; rfl))
                simp only [Act.put, List.setIfInBounds_toArray, List.set_cons_zero, List.set_cons_succ]
                refine StepsT.cons (fun W hW => ?_) ?_
                · have ci := ((HX.out.trans hW).cell (p := ⟨b, off + i, none⟩) HBW.out).trans HCI.out; have r1 := ((HX.out.trans hW).cell (p := ⟨rb, ro + k, none⟩) HRB.out).trans HR1.out; obtain ⟨k0, k1, k2, kl⟩ := (HB.out.ext hW).c3; first | (refine StepT.off rfl hW ?_; rfl) | (refine StepT.go rfl ?_; go_simp; first | (refine ⟨?_, hW⟩; rfl) | (refine Calls.mono (CL.out _ (HF.out.ext (HX.out.trans hW)) (HSW.out.ext (HX.out.trans hW))) ?_; rintro e w4 ⟨rfl, hb⟩; refine ⟨?_, hW.trans hb⟩; rfl))
                simp only [Act.put, List.setIfInBounds_toArray, List.set_cons_zero, List.set_cons_succ]
                refine StepsT.cons (fun W hW => ?_) ?_
                · have ci := ((HX.out.trans hW).cell (p := ⟨b, off + i, none⟩) HBW.out).trans HCI.out; have r1 := ((HX.out.trans hW).cell (p := ⟨rb, ro + k, none⟩) HRB.out).trans HR1.out; obtain ⟨k0, k1, k2, kl⟩ := (HB.out.ext hW).c3; first | (refine StepT.off rfl hW ?_; rfl) | (refine StepT.go rfl ?_; go_simp; first | (refine ⟨?_, hW⟩; rfl) | (refine Calls.mono (CL.out _ (HF.out.ext (HX.out.trans hW)) (HSW.out.ext (HX.out.trans hW))) ?_; rintro e w4 ⟨rfl, hb⟩; refine ⟨?_, hW.trans hb⟩; rfl))
                simp only [Act.put, List.setIfInBounds_toArray, List.set_cons_zero, List.set_cons_succ]
                refine StepsT.cons (fun W hW => ?_) ?_
                · have ci := ((HX.out.trans hW).cell (p := ⟨b, off + i, none⟩) HBW.out).trans HCI.out; have r1 := ((HX.out.trans hW).cell (p := ⟨rb, ro + k, none⟩) HRB.out).trans HR1.out; obtain ⟨k0, k1, k2, kl⟩ := (HB.out.ext hW).c3; first | (refine StepT.off rfl hW ?_; rfl) | (refine StepT.go rfl ?_; go_simp; first | (refine ⟨?_, hW⟩; rfl) | (refine Calls.mono (CL.out _ (HF.out.ext (HX.out.trans hW)) (HSW.out.ext (HX.out.trans hW))) ?_; rintro e w4 ⟨rfl, hb⟩; refine ⟨?_, hW.trans hb⟩; rfl))
                simp only [Act.put, List.setIfInBounds_toArray, List.set_cons_zero, List.set_cons_succ]
                refine StepsT.cons (fun W hW => ?_) ?_
                · have ci := ((HX.out.trans hW).cell (p := ⟨b, off + i, none⟩) HBW.out).trans HCI.out; have r1 := ((HX.out.trans hW).cell (p := ⟨rb, ro + k, none⟩) HRB.out).trans HR1.out; obtain ⟨k0, k1, k2, kl⟩ := (HB.out.ext hW).c3; first | (refine StepT.off rfl hW ?_; rfl) | (refine StepT.go rfl ?_; go_simp; first | (refine ⟨?_, hW⟩; rfl) | (refine Calls.mono (CL.out _ (HF.out.ext (HX.out.trans hW)) (HSW.out.ext (HX.out.trans hW))) ?_; rintro e w4 ⟨rfl, hb⟩; refine ⟨?_, hW.trans hb⟩; rfl))
                simp only [Act.put, List.setIfInBounds_toArray, List.set_cons_zero, List.set_cons_succ]
                refine StepsT.cons (fun W hW => ?_) ?_
                · have ci := ((HX.out.trans hW).cell (p := ⟨b, off + i, none⟩) HBW.out).trans HCI.out; have r1 := ((HX.out.trans hW).cell (p := ⟨rb, ro + k, none⟩) HRB.out).trans HR1.out; obtain ⟨k0, k1, k2, kl⟩ := (HB.out.ext hW).c3; first | (refine StepT.off rfl hW ?_; rfl) | (refine StepT.go rfl ?_; go_simp; first | (refine ⟨?_, hW⟩; rfl) | (refine Calls.mono (CL.out _ (HF.out.ext (HX.out.trans hW)) (HSW.out.ext (HX.out.trans hW))) ?_; rintro e w4 ⟨rfl, hb⟩; refine ⟨?_, hW.trans hb⟩; rfl))
                simp only [Act.put, List.setIfInBounds_toArray, List.set_cons_zero, List.set_cons_succ]
                refine StepsT.cons (fun W hW => ?_) ?_
                · have ci := ((HX.out.trans hW).cell (p := ⟨b, off + i, none⟩) HBW.out).trans HCI.out; have r1 := ((HX.out.trans hW).cell (p := ⟨rb, ro + k, none⟩) HRB.out).trans HR1.out; obtain ⟨k0, k1, k2, kl⟩ := (HB.out.ext hW).c3; first | (refine StepT.off rfl hW ?_; rfl) | (refine StepT.go rfl ?_; go_simp; first | (refine ⟨?_, hW⟩; rfl) | (refine Calls.mono (CL.out _ (HF.out.ext (HX.out.trans hW)) (HSW.out.ext (HX.out.trans hW))) ?_; rintro e w4 ⟨rfl, hb⟩; refine ⟨?_, hW.trans hb⟩; rfl))
                simp only [Act.put, List.setIfInBounds_toArray, List.set_cons_zero, List.set_cons_succ]
                refine StepsT.cons (fun W hW => ?_) ?_
                · have ci := ((HX.out.trans hW).cell (p := ⟨b, off + i, none⟩) HBW.out).trans HCI.out; have r1 := ((HX.out.trans hW).cell (p := ⟨rb, ro + k, none⟩) HRB.out).trans HR1.out; obtain ⟨k0, k1, k2, kl⟩ := (HB.out.ext hW).c3; first | (refine StepT.off rfl hW ?_; rfl) | (refine StepT.go rfl ?_; go_simp; first | (refine ⟨?_, hW⟩; rfl) | (refine Calls.mono (CL.out _ (HF.out.ext (HX.out.trans hW)) (HSW.out.ext (HX.out.trans hW))) ?_; rintro e w4 ⟨rfl, hb⟩; refine ⟨?_, hW.trans hb⟩; rfl))
                simp only [Act.put, List.setIfInBounds_toArray, List.set_cons_zero, List.set_cons_succ]
                trivial
              intro W hW
              simp only [putAll, Act.put, List.setIfInBounds_toArray, List.set_cons_zero, List.set_cons_succ]
              go_wp2
              go_ret2
              rw [HV.out.1, HV.out.2]
              exact RetIC.none_ (HX.out.trans (Ext.trans hW (by repeat (first | exact Ext.refl _ | assumption | refine Ext.alloc ?_ _ | refine Ext.drew ?_ | refine Ext.drewN ?_ _ | (refine Ext.setCell ?_ (by simp <;> omega) _) | refine Ext.trans ?_ (by assumption)))))
            case pos =>
              have HK2 := Lib.hid (HKS.out hz)
              obtain ⟨w1b, w2b⟩ := HWB.out hz
              have CW := Lib.hid (fun W h1 h2 => HWC.out sA sc zs W h1 h2 (Good.of hz))
              rw [← HWS.out] at CW
              rw [hz] at CL
              have HWK : Hid (∀ x, ws k = x → 0 ≤ x ∧ x ≤ 1000000000) := Lib.hid fun x hx => by rw [← hx]; exact ⟨w1b, w2b⟩
              clear hz HE1 HKS HWS HWB hri r1 hrb2
              go_upto_region 14 with fail
              refine wp_region_steady (Ext _) [?_, ?_, ?_, ?_, ?_, ?_, ?_, ?_, ?_, ?_] (by kernel_rfl) (by kernel_rfl) rfl (Ext.refl _).drew ?_ ?_
              rotate_left 10
              · refine StepsT.cons (fun W hW => ?_) ?_
                · have ci := ((HX.out.trans hW).cell (p := ⟨b, off + i, none⟩) HBW.out).trans HCI.out; have r1 := ((HX.out.trans hW).cell (p := ⟨rb, ro + k, none⟩) HRB.out).trans HR1.out; obtain ⟨k0, k1, k2, kl⟩ := (HB.out.ext hW).c3; first | (refine StepT.off rfl hW ?_; rfl) | (refine StepT.go rfl ?_; go_simp; first | (refine ⟨?_, hW⟩; rfl) | (refine Calls.mono (CL.out _ (HF.out.ext (HX.out.trans hW)) (HSW.out.ext (HX.out.trans hW))) ?_; rintro e w4 ⟨rfl, hb⟩; refine ⟨?_, hW.trans hb⟩; rfl))
                simp only [Act.put, List.setIfInBounds_toArray, List.set_cons_zero, List.set_cons_succ]
                refine StepsT.cons (fun W hW => ?_) ?_
                · have ci := ((HX.out.trans hW).cell (p := ⟨b, off + i, none⟩) HBW.out).trans HCI.out; have r1 := ((HX.out.trans hW).cell (p := ⟨rb, ro + k, none⟩) HRB.out).trans HR1.out; obtain ⟨k0, k1, k2, kl⟩ := (HB.out.ext hW).c3; first | (refine StepT.off rfl hW ?_; rfl) | (refine StepT.go rfl ?_; go_simp; first | (refine ⟨?_, hW⟩; rfl) | (refine Calls.mono (CL.out _ (HF.out.ext (HX.out.trans hW)) (HSW.out.ext (HX.out.trans hW))) ?_; rintro e w4 ⟨rfl, hb⟩; refine ⟨?_, hW.trans hb⟩; rfl))
                simp only [Act.put, List.setIfInBounds_toArray, List.set_cons_zero, List.set_cons_succ]
                refine StepsT.cons (fun W hW => ?_) ?_
                · have ci := ((HX.out.trans hW).cell (p := ⟨b, off + i, none⟩) HBW.out).trans HCI.out; have r1 := ((HX.out.trans hW).cell (p := ⟨rb, ro + k, none⟩) HRB.out).trans HR1.out; obtain ⟨k0, k1, k2, kl⟩ := (HB.out.ext hW).c3; first | (refine StepT.off rfl hW ?_; rfl) | (refine StepT.go rfl ?_; go_simp; first | (refine ⟨?_, hW⟩; rfl) | (refine Calls.mono (CL.out _ (HF.out.ext (HX.out.trans hW)) (HSW.out.ext (HX.out.trans hW))) ?_; rintro e w4 ⟨rfl, hb⟩; refine ⟨?_, hW.trans hb⟩; rfl))
                simp only [Act.put, List.setIfInBounds_toArray, List.set_cons_zero, List.set_cons_succ]
                refine StepsT.cons (fun W hW => ?_) ?_
                · have ci := ((HX.out.trans hW).cell (p := ⟨b, off + i, none⟩) HBW.out).trans HCI.out; have r1 := ((HX.out.trans hW).cell (p := ⟨rb, ro + k, none⟩) HRB.out).trans HR1.out; obtain ⟨k0, k1, k2, kl⟩ := (HB.out.ext hW).c3; first | (refine StepT.off rfl hW ?_; rfl) | (refine StepT.go rfl ?_; go_simp; first | (refine ⟨?_, hW⟩; rfl) | (refine Calls.mono (CL.out _ (HF.out.ext (HX.out.trans hW)) (HSW.out.ext (HX.out.trans hW))) ?_; rintro e w4 ⟨rfl, hb⟩; refine ⟨?_, hW.trans hb⟩; rfl))
                simp only [Act.put, List.setIfInBounds_toArray, List.set_cons_zero, List.set_cons_succ]
                refine StepsT.cons (fun W hW => ?_) ?_
                · have ci := ((HX.out.trans hW).cell (p := ⟨b, off + i, none⟩) HBW.out).trans HCI.out; have r1 := ((HX.out.trans hW).cell (p := ⟨rb, ro + k, none⟩) HRB.out).trans HR1.out; obtain ⟨k0, k1, k2, kl⟩ := (HB.out.ext hW).c3; first | (refine StepT.off rfl hW ?_; rfl) | (refine StepT.go rfl ?_; go_simp; first | (refine ⟨?_, hW⟩; rfl) | (refine Calls.mono (CL.out _ (HF.out.ext (HX.out.trans hW)) (HSW.out.ext (HX.out.trans hW))) ?_; rintro e w4 ⟨rfl, hb⟩; refine ⟨?_, hW.trans hb⟩; rfl))
                simp only [Act.put, List.setIfInBounds_toArray, List.set_cons_zero, List.set_cons_succ]
                refine StepsT.cons (fun W hW => ?_) ?_
                · have ci := ((HX.out.trans hW).cell (p := ⟨b, off + i, none⟩) HBW.out).trans HCI.out; have r1 := ((HX.out.trans hW).cell (p := ⟨rb, ro + k, none⟩) HRB.out).trans HR1.out; obtain ⟨k0, k1, k2, kl⟩ := (HB.out.ext hW).c3; first | (refine StepT.off rfl hW ?_; rfl) | (refine StepT.go rfl ?_; go_simp; first | (refine ⟨?_, hW⟩; rfl) | (refine Calls.mono (CL.out _ (HF.out.ext (HX.out.trans hW)) (HSW.out.ext (HX.out.trans hW))) ?_; rintro e w4 ⟨rfl, hb⟩; refine ⟨?_, hW.trans hb⟩; rfl))
                simp only [Act.put, List.setIfInBounds_toArray, List.set_cons_zero, List.set_cons_succ]
                refine StepsT.cons (fun W hW => ?_) ?_
                · have ci := ((HX.out.trans hW).cell (p := ⟨b, off + i, none⟩) HBW.out).trans HCI.out; have r1 := ((HX.out.trans hW).cell (p := ⟨rb, ro + k, none⟩) HRB.out).trans HR1.out; obtain ⟨k0, k1, k2, kl⟩ := (HB.out.ext hW).c3; first | (refine StepT.off rfl hW ?_; rfl) | (refine StepT.go rfl ?_; go_simp; first | (refine ⟨?_, hW⟩; rfl) | (refine Calls.mono (CL.out _ (HF.out.ext (HX.out.trans hW)) (HSW.out.ext (HX.out.trans hW))) ?_; rintro e w4 ⟨rfl, hb⟩; refine ⟨?_, hW.trans hb⟩; rfl))
                simp only [Act.put, List.setIfInBounds_toArray, List.set_cons_zero, List.set_cons_succ]
                refine StepsT.cons (fun W hW => ?_) ?_
                · have ci := ((HX.out.trans hW).cell (p := ⟨b, off + i, none⟩) HBW.out).trans HCI.out; have r1 := ((HX.out.trans hW).cell (p := ⟨rb, ro + k, none⟩) HRB.out).trans HR1.out; obtain ⟨k0, k1, k2, kl⟩ := (HB.out.ext hW).c3; first | (refine StepT.off rfl hW ?_; rfl) | (refine StepT.go rfl ?_; go_simp; first | (refine ⟨?_, hW⟩; rfl) | (refine Calls.mono (CL.out _ (HF.out.ext (HX.out.trans hW)) (HSW.out.ext (HX.out.trans hW))) ?_; rintro e w4 ⟨rfl, hb⟩; refine ⟨?_, hW.trans hb⟩; rfl))
                simp only [Act.put, List.setIfInBounds_toArray, List.set_cons_zero, List.set_cons_succ]
                refine StepsT.cons (fun W hW => ?_) ?_
                · have ci := ((HX.out.trans hW).cell (p := ⟨b, off + i, none⟩) HBW.out).trans HCI.out; have r1 := ((HX.out.trans hW).cell (p := ⟨rb, ro + k, none⟩) HRB.out).trans HR1.out; obtain ⟨k0, k1, k2, kl⟩ := (HB.out.ext hW).c3; first | (refine StepT.off rfl hW ?_; rfl) | (refine StepT.go rfl ?_; go_simp; first | (refine ⟨?_, hW⟩; rfl) | (refine Calls.mono (CL.out _ (HF.out.ext (HX.out.trans hW)) (HSW.out.ext (HX.out.trans hW))) ?_; rintro e w4 ⟨rfl, hb⟩; refine ⟨?_, hW.trans hb⟩; rfl))
                simp only [Act.put, List.setIfInBounds_toArray, List.set_cons_zero, List.set_cons_succ]
                refine StepsT.cons (fun W hW => ?_) ?_
                · have ci := ((HX.out.trans hW).cell (p := ⟨b, off + i, none⟩) HBW.out).trans HCI.out; have r1 := ((HX.out.trans hW).cell (p := ⟨rb, ro + k, none⟩) HRB.out).trans HR1.out; obtain ⟨k0, k1, k2, kl⟩ := (HB.out.ext hW).c3; first | (refine StepT.off rfl hW ?_; rfl) | (refine StepT.go rfl ?_; go_simp; first | (refine ⟨?_, hW⟩; rfl) | (refine Calls.mono (CL.out _ (HF.out.ext (HX.out.trans hW)) (HSW.out.ext (HX.out.trans hW))) ?_; rintro e w4 ⟨rfl, hb⟩; refine ⟨?_, hW.trans hb⟩; rfl))
                simp only [Act.put, List.setIfInBounds_toArray, List.set_cons_zero, List.set_cons_succ]
                trivial
              intro W hW
              simp only [putAll, Act.put, List.setIfInBounds_toArray, List.set_cons_zero, List.set_cons_succ]
              have HX3 := Lib.hid (HX.out.trans hW); have HB3 := Lib.hid (HB.out.ext hW); have HO3 := Lib.hid (HO.out.ext hW)
              clear HX HB HO hW k0 k1 k2 kl ci cbl
              have HX := HX3; have HB := HB3; have HO := HO3
              clear HX3 HB3 HO3
              obtain ⟨k0, k1, k2, kl⟩ := HB.out.c3
              go_upto_region 17 with fail
              refine wp_region_steady (Ext _) [?_, ?_, ?_, ?_, ?_, ?_, ?_, ?_, ?_, ?_] (by kernel_rfl) (by kernel_rfl) rfl (Ext.refl _).drew ?_ ?_
              rotate_left 10
              · refine StepsT.cons (fun W hW => ?_) ?_
                · have ci := ((HX.out.trans hW).cell (p := ⟨b, off + i, none⟩) HBW.out).trans HCI.out; have r1 := ((HX.out.trans hW).cell (p := ⟨rb, ro + k, none⟩) HRB.out).trans HR1.out; obtain ⟨k0, k1, k2, kl⟩ := (HB.out.ext hW).c3; first | (refine StepT.off rfl hW ?_; rfl) | (refine StepT.go rfl ?_; go_simp; first | (refine ⟨?_, hW⟩; rfl) | (refine Calls.mono (CW.out _ (HF.out.ext (HX.out.trans hW)) (HSW.out.ext (HX.out.trans hW))) ?_; rintro e w4 ⟨rfl, hb⟩; refine ⟨?_, hW.trans hb⟩; rfl))
                simp only [Act.put, List.setIfInBounds_toArray, List.set_cons_zero, List.set_cons_succ]
                refine StepsT.cons (fun W hW => ?_) ?_
                · have ci := ((HX.out.trans hW).cell (p := ⟨b, off + i, none⟩) HBW.out).trans HCI.out; have r1 := ((HX.out.trans hW).cell (p := ⟨rb, ro + k, none⟩) HRB.out).trans HR1.out; obtain ⟨k0, k1, k2, kl⟩ := (HB.out.ext hW).c3; first | (refine StepT.off rfl hW ?_; rfl) | (refine StepT.go rfl ?_; go_simp; first | (refine ⟨?_, hW⟩; rfl) | (refine Calls.mono (CW.out _ (HF.out.ext (HX.out.trans hW)) (HSW.out.ext (HX.out.trans hW))) ?_; rintro e w4 ⟨rfl, hb⟩; refine ⟨?_, hW.trans hb⟩; rfl))
                simp only [Act.put, List.setIfInBounds_toArray, List.set_cons_zero, List.set_cons_succ]
                refine StepsT.cons (fun W hW => ?_) ?_
                · have ci := ((HX.out.trans hW).cell (p := ⟨b, off + i, none⟩) HBW.out).trans HCI.out; have r1 := ((HX.out.trans hW).cell (p := ⟨rb, ro + k, none⟩) HRB.out).trans HR1.out; obtain ⟨k0, k1, k2, kl⟩ := (HB.out.ext hW).c3; first | (refine StepT.off rfl hW ?_; rfl) | (refine StepT.go rfl ?_; go_simp; first | (refine ⟨?_, hW⟩; rfl) | (refine Calls.mono (CW.out _ (HF.out.ext (HX.out.trans hW)) (HSW.out.ext (HX.out.trans hW))) ?_; rintro e w4 ⟨rfl, hb⟩; refine ⟨?_, hW.trans hb⟩; rfl))
                simp only [Act.put, List.setIfInBounds_toArray, List.set_cons_zero, List.set_cons_succ]
                refine StepsT.cons (fun W hW => ?_) ?_
                · have ci := ((HX.out.trans hW).cell (p := ⟨b, off + i, none⟩) HBW.out).trans HCI.out; have r1 := ((HX.out.trans hW).cell (p := ⟨rb, ro + k, none⟩) HRB.out).trans HR1.out; obtain ⟨k0, k1, k2, kl⟩ := (HB.out.ext hW).c3; first | (refine StepT.off rfl hW ?_; rfl) | (refine StepT.go rfl ?_; go_simp; first | (refine ⟨?_, hW⟩; rfl) | (refine Calls.mono (CW.out _ (HF.out.ext (HX.out.trans hW)) (HSW.out.ext (HX.out.trans hW))) ?_; rintro e w4 ⟨rfl, hb⟩; refine ⟨?_, hW.trans hb⟩; rfl))
                simp only [Act.put, List.setIfInBounds_toArray, List.set_cons_zero, List.set_cons_succ]
                refine StepsT.cons (fun W hW => ?_) ?_
                · have ci := ((HX.out.trans hW).cell (p := ⟨b, off + i, none⟩) HBW.out).trans HCI.out; have r1 := ((HX.out.trans hW).cell (p := ⟨rb, ro + k, none⟩) HRB.out).trans HR1.out; obtain ⟨k0, k1, k2, kl⟩ := (HB.out.ext hW).c3; first | (refine StepT.off rfl hW ?_; rfl) | (refine StepT.go rfl ?_; go_simp; first | (refine ⟨?_, hW⟩; rfl) | (refine Calls.mono (CW.out _ (HF.out.ext (HX.out.trans hW)) (HSW.out.ext (HX.out.trans hW))) ?_; rintro e w4 ⟨rfl, hb⟩; refine ⟨?_, hW.trans hb⟩; rfl))
                simp only [Act.put, List.setIfInBounds_toArray, List.set_cons_zero, List.set_cons_succ]
                refine StepsT.cons (fun W hW => ?_) ?_
                · have ci := ((HX.out.trans hW).cell (p := ⟨b, off + i, none⟩) HBW.out).trans HCI.out; have r1 := ((HX.out.trans hW).cell (p := ⟨rb, ro + k, none⟩) HRB.out).trans HR1.out; obtain ⟨k0, k1, k2, kl⟩ := (HB.out.ext hW).c3; first | (refine StepT.off rfl hW ?_; rfl) | (refine StepT.go rfl ?_; go_simp; first | (refine ⟨?_, hW⟩; rfl) | (refine Calls.mono (CW.out _ (HF.out.ext (HX.out.trans hW)) (HSW.out.ext (HX.out.trans hW))) ?_; rintro e w4 ⟨rfl, hb⟩; refine ⟨?_, hW.trans hb⟩; rfl))
                simp only [Act.put, List.setIfInBounds_toArray, List.set_cons_zero, List.set_cons_succ]
                refine StepsT.cons (fun W hW => ?_) ?_
                · have ci := ((HX.out.trans hW).cell (p := ⟨b, off + i, none⟩) HBW.out).trans HCI.out; have r1 := ((HX.out.trans hW).cell (p := ⟨rb, ro + k, none⟩) HRB.out).trans HR1.out; obtain ⟨k0, k1, k2, kl⟩ := (HB.out.ext hW).c3; first | (refine StepT.off rfl hW ?_; rfl) | (refine StepT.go rfl ?_; go_simp; first | (refine ⟨?_, hW⟩; rfl) | (refine Calls.mono (CW.out _ (HF.out.ext (HX.out.trans hW)) (HSW.out.ext (HX.out.trans hW))) ?_; rintro e w4 ⟨rfl, hb⟩; refine ⟨?_, hW.trans hb⟩; rfl))
                simp only [Act.put, List.setIfInBounds_toArray, List.set_cons_zero, List.set_cons_succ]
                refine StepsT.cons (fun W hW => ?_) ?_
                · have ci := ((HX.out.trans hW).cell (p := ⟨b, off + i, none⟩) HBW.out).trans HCI.out; have r1 := ((HX.out.trans hW).cell (p := ⟨rb, ro + k, none⟩) HRB.out).trans HR1.out; obtain ⟨k0, k1, k2, kl⟩ := (HB.out.ext hW).c3; first | (refine StepT.off rfl hW ?_; rfl) | (refine StepT.go rfl ?_; go_simp; first | (refine ⟨?_, hW⟩; rfl) | (refine Calls.mono (CW.out _ (HF.out.ext (HX.out.trans hW)) (HSW.out.ext (HX.out.trans hW))) ?_; rintro e w4 ⟨rfl, hb⟩; refine ⟨?_, hW.trans hb⟩; rfl))
                simp only [Act.put, List.setIfInBounds_toArray, List.set_cons_zero, List.set_cons_succ]
                refine StepsT.cons (fun W hW => ?_) ?_
                · have ci := ((HX.out.trans hW).cell (p := ⟨b, off + i, none⟩) HBW.out).trans HCI.out; have r1 := ((HX.out.trans hW).cell (p := ⟨rb, ro + k, none⟩) HRB.out).trans HR1.out; obtain ⟨k0, k1, k2, kl⟩ := (HB.out.ext hW).c3; first | (refine StepT.off rfl hW ?_; rfl) | (refine StepT.go rfl ?_; go_simp; first | (refine ⟨?_, hW⟩; rfl) | (refine Calls.mono (CW.out _ (HF.out.ext (HX.out.trans hW)) (HSW.out.ext (HX.out.trans hW))) ?_; rintro e w4 ⟨rfl, hb⟩; refine ⟨?_, hW.trans hb⟩; rfl))
                simp only [Act.put, List.setIfInBounds_toArray, List.set_cons_zero, List.set_cons_succ]
                refine StepsT.cons (fun W hW => ?_) ?_
                · have ci := ((HX.out.trans hW).cell (p := ⟨b, off + i, none⟩) HBW.out).trans HCI.out; have r1 := ((HX.out.trans hW).cell (p := ⟨rb, ro + k, none⟩) HRB.out).trans HR1.out; obtain ⟨k0, k1, k2, kl⟩ := (HB.out.ext hW).c3; first | (refine StepT.off rfl hW ?_; rfl) | (refine StepT.go rfl ?_; go_simp; first | (refine ⟨?_, hW⟩; rfl) | (refine Calls.mono (CW.out _ (HF.out.ext (HX.out.trans hW)) (HSW.out.ext (HX.out.trans hW))) ?_; rintro e w4 ⟨rfl, hb⟩; refine ⟨?_, hW.trans hb⟩; rfl))
                simp only [Act.put, List.setIfInBounds_toArray, List.set_cons_zero, List.set_cons_succ]
                trivial
              intro W hW
              simp only [putAll, Act.put, List.setIfInBounds_toArray, List.set_cons_zero, List.set_cons_succ]
              have HX3 := Lib.hid (HX.out.trans hW); have HB3 := Lib.hid (HB.out.ext hW); have HO3 := Lib.hid (HO.out.ext hW)
              clear HX HB HO hW k0 k1 k2 kl
              have HX := HX3; have HB := HB3; have HO := HO3
              clear HX3 HB3 HO3
              obtain ⟨k0, k1, k2, kl⟩ := HB.out.c3
              have HLK : Hid (((List.range k).map ws).length ≤ 1000000) := Lib.hid (by rw [List.length_map, List.length_range]; omega); have HRS : Hid ((List.range (k + 1)).map ws = (List.range k).map ws ++ [ws k]) := Lib.hid (by rw [List.range_succ, List.map_append]; rfl)
              generalize (List.range k).map ws = L1 at *
              generalize ws k = wk at *
              go_wp2_with (first | (at_builtin; refine list_push rfl (.tmp 68) (.tmp 70) rfl (w.heap.size + 1) _ L1 rfl (HO.out.ext (by repeat (first | exact Ext.refl _ | assumption | refine Ext.alloc ?_ _ | refine Ext.drew ?_ | refine Ext.drewN ?_ _ | (refine Ext.setCell ?_ (by simp <;> omega) _) | refine Ext.trans ?_ (by assumption)))) W.heap.size wk rfl (by simp) HLK.out (by have := HB.out.lt; simp; omega) ?_; intro v' w' ho hg; have HO2 := Lib.hid ho; have HB2 := Lib.hid (blk_push HB.out HO.out (by repeat (first | exact Ext.refl _ | assumption | refine Ext.alloc ?_ _ | refine Ext.drew ?_ | refine Ext.drewN ?_ _ | (refine Ext.setCell ?_ (by simp <;> omega) _) | refine Ext.trans ?_ (by assumption))) hg); have HX2 := Lib.hid (ext_push HX.out HO.out (by repeat (first | exact Ext.refl _ | assumption | refine Ext.alloc ?_ _ | refine Ext.drew ?_ | refine Ext.drewN ?_ _ | (refine Ext.setCell ?_ (by simp <;> omega) _) | refine Ext.trans ?_ (by assumption))) hg); clear ho hg))
              go_roundw
              case rel => exact ⟨k + 1, by omega, by go_num, HK2, Lib.hid (by rw [HRS.out]; exact HO2.out), HB2, HX2⟩
              case measure => simp [intOf] <;> omega
      case neg =>
        have e1 : ((i : Int) == 0) = false := by rw [beq_eq_false_iff_ne]; omega
        have hip : 0 < i := by omega
        have HOL := Lib.hid (HCVL.out hip)
        have HCV2 : Hid (colV ss xs (i + 1) = upd ws (colV ss xs i) rn) := Lib.hid (by rw [HCV.out, if_neg hi0])
        have HO0 : Hid (Own W (w.heap.size + 1) _ (upd ws (colV ss xs i) 0)) := HO7
        have HU0 : Hid (∀ j, j < rn → 0 ≤ (upd ws (colV ss xs i) 0).getD j 0 ∧ (upd ws (colV ss xs i) 0).getD j 0 ≤ 1000000000) := Lib.hid fun j hj => HOBB.out j (by rw [HOL.out]; exact hj)
        clear hi0 HCVL HOBB HO7 HCV hip
        generalize colV ss xs i = out0 at *
        go_wp2
        go_loopw [6, 8] (fun v j wr => ∃ k : Nat, k ≤ rn ∧ j = .int .i64 (k : Int) ∧ Hid (∀ j, j < k → listErr ss.length (cz xs i j) = 0) ∧ Hid (Own wr (w.heap.size + 1) v (upd ws out0 k)) ∧ Hid (∀ j, j < rn → 0 ≤ (upd ws out0 k).getD j 0 ∧ (upd ws out0 k).getD j 0 ≤ 1000000000) ∧ Hid (Blk wr w.heap.size 48 #[.string name, .int .i64 body, .slice A ss.length c]) ∧ Hid (Ext w wr)) (fun _ j _ => rn - (intOf j).toNat)
        case atStart => exact ⟨0, Nat.zero_le _, rfl, Lib.hid (fun j hj => absurd hj (by omega)), HO0, HU0, HB7, HX7⟩
        case round =>
          obtain ⟨k, hk, rfl, HK, HO, HUB, HB, HX⟩ := hrel
          clear HB7 HX7
          have ci := (HX.out.cell (p := ⟨b, off + i, none⟩) HBW.out).trans HCI.out; have cbl : b < wr.heap.size := Nat.lt_of_lt_of_le HBW.out HX.out.size; obtain ⟨k0, k1, k2, kl⟩ := HB.out.c3
          by_cases hkm : k < rn
          case neg =>
            obtain rfl : rn = k := by omega
            have i9 : ¬ (rn : Int) < (rn : Int) := by omega
            have HRZ := Lib.hid (HROW0.out HK.out)
            have HEND : Hid (colV ss xs (i + 1) = upd ws out0 rn) := Lib.hid (HCV2.out)
            clear hkm
            go_wp2
            go_roundw
            case rel => exact ⟨i + 1, by omega, by go_num, Lib.hid (HNX.out HRZ.out), Lib.hid (by rw [HEND.out]; exact HO.out), Lib.hid (by rw [HEND.out]; exact fun j hj => HUB.out j (by rw [upd_len, HOL.out] at hj; exact hj)), HB, HX⟩
            case measure => simp [intOf] <;> omega
          case pos =>
            have i9 : (k : Int) < (rn : Int) := by omega
            obtain ⟨rb, ro, rfl, hrb2, hrc⟩ := HRL.out.2.2.1 (by omega)
            have hri := HRL.out.2.2.2 k hkm
            have r1 := hrc k hkm
            have HE1 := Lib.hid (HRE.out k HK.out hkm)
            have HKS : Hid (listErr ss.length (cz xs i k) = 0 → ∀ j, j < k + 1 → listErr ss.length (cz xs i j) = 0) := Lib.hid fun h j hj => by
              rcases Nat.lt_or_ge j k with h9 | h9
              · exact HK.out j h9
              · obtain rfl : j = k := by omega
                exact h
            have HCZ := Lib.hid (HCZ0.out k)
            have HWS := Lib.hid (HWS0.out k)
            have HWB := Lib.hid (HWDI.out k)
            rw [HCZ.out] at HE1 HKS HWS HWB
            clear hrc HCZ
            generalize rws.getD k SI.none_ = s at *
            obtain ⟨sA, sc, zs⟩ := s
            simp only [SI.val] at *
            have CL := Lib.hid (fun W h1 h2 => HLE.out sA sc zs W h1 h2)
            have HSW := Lib.hid hri; have HR1 := Lib.hid r1; have HRB := Lib.hid hrb2
            by_cases hz : listErr ss.length zs = 0
            case neg =>
              have HV := Lib.hid (HE1.out hz)
              generalize listErr ss.length zs = z at *
              have e0 : (z != 0) = true := by simpa using hz
              clear hz HE1 HKS HWS HWB hri r1 hrb2
              go_upto_region 14 with fail
              refine wp_region_steady (Ext _) [?_, ?_, ?_, ?_, ?_, ?_, ?_, ?_, ?_, ?_] (by kernel_rfl) (by kernel_rfl) rfl (Ext.refl _).drew ?_ ?_
              rotate_left 10
              · refine StepsT.cons (fun W hW => ?_) ?_
                · have ci := ((HX.out.trans hW).cell (p := ⟨b, off + i, none⟩) HBW.out).trans HCI.out; have r1 := ((HX.out.trans hW).cell (p := ⟨rb, ro + k, none⟩) HRB.out).trans HR1.out; obtain ⟨k0, k1, k2, kl⟩ := (HB.out.ext hW).c3; first | (refine StepT.off rfl hW ?_; rfl) | (refine StepT.go rfl ?_; go_simp; first | (refine ⟨?_, hW⟩; rfl) | (refine Calls.mono (CL.out _ (HF.out.ext (HX.out.trans hW)) (HSW.out.ext (HX.out.trans hW))) ?_; rintro e w4 ⟨rfl, hb⟩; refine ⟨?_, hW.trans hb⟩; rfl))
                simp only [Act.put, List.setIfInBounds_toArray, List.set_cons_zero, List.set_cons_succ]
                refine StepsT.cons (fun W hW => ?_) ?_
                · have ci := ((HX.out.trans hW).cell (p := ⟨b, off + i, none⟩) HBW.out).trans HCI.out; have r1 := ((HX.out.trans hW).cell (p := ⟨rb, ro + k, none⟩) HRB.out).trans HR1.out; obtain ⟨k0, k1, k2, kl⟩ := (HB.out.ext hW).c3; first | (refine StepT.off rfl hW ?_; rfl) | (refine StepT.go rfl ?_; go_simp; first | (refine ⟨?_, hW⟩; rfl) | (refine Calls.mono (CL.out _ (HF.out.ext (HX.out.trans hW)) (HSW.out.ext (HX.out.trans hW))) ?_; rintro e w4 ⟨rfl, hb⟩; refine ⟨?_, hW.trans hb⟩; rfl))
                simp only [Act.put, List.setIfInBounds_toArray, List.set_cons_zero, List.set_cons_succ]
                refine StepsT.cons (fun W hW => ?_) ?_
                · have ci := ((HX.out.trans hW).cell (p := ⟨b, off + i, none⟩) HBW.out).trans HCI.out; have r1 := ((HX.out.trans hW).cell (p := ⟨rb, ro + k, none⟩) HRB.out).trans HR1.out; obtain ⟨k0, k1, k2, kl⟩ := (HB.out.ext hW).c3; first | (refine StepT.off rfl hW ?_; rfl) | (refine StepT.go rfl ?_; go_simp; first | (refine ⟨?_, hW⟩; rfl) | (refine Calls.mono (CL.out _ (HF.out.ext (HX.out.trans hW)) (HSW.out.ext (HX.out.trans hW))) ?_; rintro e w4 ⟨rfl, hb⟩; refine ⟨?_, hW.trans hb⟩; rfl))
                simp only [Act.put, List.setIfInBounds_toArray, List.set_cons_zero, List.set_cons_succ]
                refine StepsT.cons (fun W hW => ?_) ?_
                · have ci := ((HX.out.trans hW).cell (p := ⟨b, off + i, none⟩) HBW.out).trans HCI.out; have r1 := ((HX.out.trans hW).cell (p := ⟨rb, ro + k, none⟩) HRB.out).trans HR1.out; obtain ⟨k0, k1, k2, kl⟩ := (HB.out.ext hW).c3; first | (refine StepT.off rfl hW ?_; rfl) | (refine StepT.go rfl ?_; go_simp; first | (refine ⟨?_, hW⟩; rfl) | (refine Calls.mono (CL.out _ (HF.out.ext (HX.out.trans hW)) (HSW.out.ext (HX.out.trans hW))) ?_; rintro e w4 ⟨rfl, hb⟩; refine ⟨?_, hW.trans hb⟩; rfl))
                simp only [Act.put, List.setIfInBounds_toArray, List.set_cons_zero, List.set_cons_succ]
                refine StepsT.cons (fun W hW => ?_) ?_
                · have ci := ((HX.out.trans hW).cell (p := ⟨b, off + i, none⟩) HBW.out).trans HCI.out; have r1 := ((HX.out.trans hW).cell (p := ⟨rb, ro + k, none⟩) HRB.out).trans HR1.out; obtain ⟨k0, k1, k2, kl⟩ := (HB.out.ext hW).c3; first | (refine StepT.off rfl hW ?_; rfl) | (refine StepT.go rfl ?_; go_simp; first | (refine ⟨?_, hW⟩; rfl) | (refine Calls.mono (CL.out _ (HF.out.ext (HX.out.trans hW)) (HSW.out.ext (HX.out.trans hW))) ?_; rintro e w4 ⟨rfl, hb⟩; refine ⟨?_, hW.trans hb⟩; rfl))
                simp only [Act.put, List.setIfInBounds_toArray, List.set_cons_zero, List.set_cons_succ]
                refine StepsT.cons (fun W hW => ?_) ?_
                · have ci := ((HX.out.trans hW).cell (p := ⟨b, off + i, none⟩) HBW.out).trans HCI.out; have r1 := ((HX.out.trans hW).cell (p := ⟨rb, ro + k, none⟩) HRB.out).trans HR1.out; obtain ⟨k0, k1, k2, kl⟩ := (HB.out.ext hW).c3; first | (refine StepT.off rfl hW ?_; rfl) | (refine StepT.go rfl ?_; go_simp; first | (refine ⟨?_, hW⟩; rfl) | (refine Calls.mono (CL.out _ (HF.out.ext (HX.out.trans hW)) (HSW.out.ext (HX.out.trans hW))) ?_; rintro e w4 ⟨rfl, hb⟩; refine ⟨?_, hW.trans hb⟩; rfl))
                simp only [Act.put, List.setIfInBounds_toArray, List.set_cons_zero, List.set_cons_succ]
                refine StepsT.cons (fun W hW => ?_) ?_
                · have ci := ((HX.out.trans hW).cell (p := ⟨b, off + i, none⟩) HBW.out).trans HCI.out; have r1 := ((HX.out.trans hW).cell (p := ⟨rb, ro + k, none⟩) HRB.out).trans HR1.out; obtain ⟨k0, k1, k2, kl⟩ := (HB.out.ext hW).c3; first | (refine StepT.off rfl hW ?_; rfl) | (refine StepT.go rfl ?_; go_simp; first | (refine ⟨?_, hW⟩; rfl) | (refine Calls.mono (CL.out _ (HF.out.ext (HX.out.trans hW)) (HSW.out.ext (HX.out.trans hW))) ?_; rintro e w4 ⟨rfl, hb⟩; refine ⟨?_, hW.trans hb⟩; rfl))
                simp only [Act.put, List.setIfInBounds_toArray, List.set_cons_zero, List.set_cons_succ]
                refine StepsT.cons (fun W hW => ?_) ?_
                · have ci := ((HX.out.trans hW).cell (p := ⟨b, off + i, none⟩) HBW.out).trans HCI.out; have r1 := ((HX.out.trans hW).cell (p := ⟨rb, ro + k, none⟩) HRB.out).trans HR1.out; obtain ⟨k0, k1, k2, kl⟩ := (HB.out.ext hW).c3; first | (refine StepT.off rfl hW ?_; rfl) | (refine StepT.go rfl ?_; go_simp; first | (refine ⟨?_, hW⟩; rfl) | (refine Calls.mono (CL.out _ (HF.out.ext (HX.out.trans hW)) (HSW.out.ext (HX.out.trans hW))) ?_; rintro e w4 ⟨rfl, hb⟩; refine ⟨?_, hW.trans hb⟩; rfl))
                simp only [Act.put, List.setIfInBounds_toArray, List.set_cons_zero, List.set_cons_succ]
                refine StepsT.cons (fun W hW => ?_) ?_
                · have ci := ((HX.out.trans hW).cell (p := ⟨b, off + i, none⟩) HBW.out).trans HCI.out; have r1 := ((HX.out.trans hW).cell (p := ⟨rb, ro + k, none⟩) HRB.out).trans HR1.out; obtain ⟨k0, k1, k2, kl⟩ := (HB.out.ext hW).c3; first | (refine StepT.off rfl hW ?_; rfl) | (refine StepT.go rfl ?_; go_simp; first | (refine ⟨?_, hW⟩; rfl) | (refine Calls.mono (CL.out _ (HF.out.ext (HX.out.trans hW)) (HSW.out.ext (HX.out.trans hW))) ?_; rintro e w4 ⟨rfl, hb⟩; refine ⟨?_, hW.trans hb⟩; rfl))
                simp only [Act.put, List.setIfInBounds_toArray, List.set_cons_zero, List.set_cons_succ]
                refine StepsT.cons (fun W hW => ?_) ?_
                · have ci := ((HX.out.trans hW).cell (p := ⟨b, off + i, none⟩) HBW.out).trans HCI.out; have r1 := ((HX.out.trans hW).cell (p := ⟨rb, ro + k, none⟩) HRB.out).trans HR1.out; obtain ⟨k0, k1, k2, kl⟩ := (HB.out.ext hW).c3; first | (refine StepT.off rfl hW ?_; rfl) | (refine StepT.go rfl ?_; go_simp; first | (refine ⟨?_, hW⟩; rfl) | (refine Calls.mono (CL.out _ (HF.out.ext (HX.out.trans hW)) (HSW.out.ext (HX.out.trans hW))) ?_; rintro e w4 ⟨rfl, hb⟩; refine ⟨?_, hW.trans hb⟩; rfl))
                simp only [Act.put, List.setIfInBounds_toArray, List.set_cons_zero, List.set_cons_succ]
                trivial
              intro W hW
              simp only [putAll, Act.put, List.setIfInBounds_toArray, List.set_cons_zero, List.set_cons_succ]
              go_wp2
              go_ret2
              rw [HV.out.1, HV.out.2]
              exact RetIC.none_ (HX.out.trans (Ext.trans hW (by repeat (first | exact Ext.refl _ | assumption | refine Ext.alloc ?_ _ | refine Ext.drew ?_ | refine Ext.drewN ?_ _ | (refine Ext.setCell ?_ (by simp <;> omega) _) | refine Ext.trans ?_ (by assumption)))))
            case pos =>
              have HK2 := Lib.hid (HKS.out hz)
              obtain ⟨w1b, w2b⟩ := HWB.out hz
              have CW := Lib.hid (fun W h1 h2 => HWC.out sA sc zs W h1 h2 (Good.of hz))
              rw [← HWS.out] at CW
              rw [hz] at CL
              have HWK : Hid (∀ x, ws k = x → 0 ≤ x ∧ x ≤ 1000000000) := Lib.hid fun x hx => by rw [← hx]; exact ⟨w1b, w2b⟩
              clear hz HE1 HKS HWS HWB hri r1 hrb2
              go_upto_region 14 with fail
              refine wp_region_steady (Ext _) [?_, ?_, ?_, ?_, ?_, ?_, ?_, ?_, ?_, ?_] (by kernel_rfl) (by kernel_rfl) rfl (Ext.refl _).drew ?_ ?_
              rotate_left 10
              · refine StepsT.cons (fun W hW => ?_) ?_
                · have ci := ((HX.out.trans hW).cell (p := ⟨b, off + i, none⟩) HBW.out).trans HCI.out; have r1 := ((HX.out.trans hW).cell (p := ⟨rb, ro + k, none⟩) HRB.out).trans HR1.out; obtain ⟨k0, k1, k2, kl⟩ := (HB.out.ext hW).c3; first | (refine StepT.off rfl hW ?_; rfl) | (refine StepT.go rfl ?_; go_simp; first | (refine ⟨?_, hW⟩; rfl) | (refine Calls.mono (CL.out _ (HF.out.ext (HX.out.trans hW)) (HSW.out.ext (HX.out.trans hW))) ?_; rintro e w4 ⟨rfl, hb⟩; refine ⟨?_, hW.trans hb⟩; rfl))
                simp only [Act.put, List.setIfInBounds_toArray, List.set_cons_zero, List.set_cons_succ]
                refine StepsT.cons (fun W hW => ?_) ?_
                · have ci := ((HX.out.trans hW).cell (p := ⟨b, off + i, none⟩) HBW.out).trans HCI.out; have r1 := ((HX.out.trans hW).cell (p := ⟨rb, ro + k, none⟩) HRB.out).trans HR1.out; obtain ⟨k0, k1, k2, kl⟩ := (HB.out.ext hW).c3; first | (refine StepT.off rfl hW ?_; rfl) | (refine StepT.go rfl ?_; go_simp; first | (refine ⟨?_, hW⟩; rfl) | (refine Calls.mono (CL.out _ (HF.out.ext (HX.out.trans hW)) (HSW.out.ext (HX.out.trans hW))) ?_; rintro e w4 ⟨rfl, hb⟩; refine ⟨?_, hW.trans hb⟩; rfl))
                simp only [Act.put, List.setIfInBounds_toArray, List.set_cons_zero, List.set_cons_succ]
                refine StepsT.cons (fun W hW => ?_) ?_
                · have ci := ((HX.out.trans hW).cell (p := ⟨b, off + i, none⟩) HBW.out).trans HCI.out; have r1 := ((HX.out.trans hW).cell (p := ⟨rb, ro + k, none⟩) HRB.out).trans HR1.out; obtain ⟨k0, k1, k2, kl⟩ := (HB.out.ext hW).c3; first | (refine StepT.off rfl hW ?_; rfl) | (refine StepT.go rfl ?_; go_simp; first | (refine ⟨?_, hW⟩; rfl) | (refine Calls.mono (CL.out _ (HF.out.ext (HX.out.trans hW)) (HSW.out.ext (HX.out.trans hW))) ?_; rintro e w4 ⟨rfl, hb⟩; refine ⟨?_, hW.trans hb⟩; rfl))
                simp only [Act.put, List.setIfInBounds_toArray, List.set_cons_zero, List.set_cons_succ]
                refine StepsT.cons (fun W hW => ?_) ?_
                · have ci := ((HX.out.trans hW).cell (p := ⟨b, off + i, none⟩) HBW.out).trans HCI.out; have r1 := ((HX.out.trans hW).cell (p := ⟨rb, ro + k, none⟩) HRB.out).trans HR1.out; obtain ⟨k0, k1, k2, kl⟩ := (HB.out.ext hW).c3; first | (refine StepT.off rfl hW ?_; rfl) | (refine StepT.go rfl ?_; go_simp; first | (refine ⟨?_, hW⟩; rfl) | (refine Calls.mono (CL.out _ (HF.out.ext (HX.out.trans hW)) (HSW.out.ext (HX.out.trans hW))) ?_; rintro e w4 ⟨rfl, hb⟩; refine ⟨?_, hW.trans hb⟩; rfl))
                simp only [Act.put, List.setIfInBounds_toArray, List.set_cons_zero, List.set_cons_succ]
                refine StepsT.cons (fun W hW => ?_) ?_
                · have ci := ((HX.out.trans hW).cell (p := ⟨b, off + i, none⟩) HBW.out).trans HCI.out; have r1 := ((HX.out.trans hW).cell (p := ⟨rb, ro + k, none⟩) HRB.out).trans HR1.out; obtain ⟨k0, k1, k2, kl⟩ := (HB.out.ext hW).c3; first | (refine StepT.off rfl hW ?_; rfl) | (refine StepT.go rfl ?_; go_simp; first | (refine ⟨?_, hW⟩; rfl) | (refine Calls.mono (CL.out _ (HF.out.ext (HX.out.trans hW)) (HSW.out.ext (HX.out.trans hW))) ?_; rintro e w4 ⟨rfl, hb⟩; refine ⟨?_, hW.trans hb⟩; rfl))
                simp only [Act.put, List.setIfInBounds_toArray, List.set_cons_zero, List.set_cons_succ]
                refine StepsT.cons (fun W hW => ?_) ?_
                · have ci := ((HX.out.trans hW).cell (p := ⟨b, off + i, none⟩) HBW.out).trans HCI.out; have r1 := ((HX.out.trans hW).cell (p := ⟨rb, ro + k, none⟩) HRB.out).trans HR1.out; obtain ⟨k0, k1, k2, kl⟩ := (HB.out.ext hW).c3; first | (refine StepT.off rfl hW ?_; rfl) | (refine StepT.go rfl ?_; go_simp; first | (refine ⟨?_, hW⟩; rfl) | (refine Calls.mono (CL.out _ (HF.out.ext (HX.out.trans hW)) (HSW.out.ext (HX.out.trans hW))) ?_; rintro e w4 ⟨rfl, hb⟩; refine ⟨?_, hW.trans hb⟩; rfl))
                simp only [Act.put, List.setIfInBounds_toArray, List.set_cons_zero, List.set_cons_succ]
                refine StepsT.cons (fun W hW => ?_) ?_
                · have ci := ((HX.out.trans hW).cell (p := ⟨b, off + i, none⟩) HBW.out).trans HCI.out; have r1 := ((HX.out.trans hW).cell (p := ⟨rb, ro + k, none⟩) HRB.out).trans HR1.out; obtain ⟨k0, k1, k2, kl⟩ := (HB.out.ext hW).c3; first | (refine StepT.off rfl hW ?_; rfl) | (refine StepT.go rfl ?_; go_simp; first | (refine ⟨?_, hW⟩; rfl) | (refine Calls.mono (CL.out _ (HF.out.ext (HX.out.trans hW)) (HSW.out.ext (HX.out.trans hW))) ?_; rintro e w4 ⟨rfl, hb⟩; refine ⟨?_, hW.trans hb⟩; rfl))
                simp only [Act.put, List.setIfInBounds_toArray, List.set_cons_zero, List.set_cons_succ]
                refine StepsT.cons (fun W hW => ?_) ?_
                · have ci := ((HX.out.trans hW).cell (p := ⟨b, off + i, none⟩) HBW.out).trans HCI.out; have r1 := ((HX.out.trans hW).cell (p := ⟨rb, ro + k, none⟩) HRB.out).trans HR1.out; obtain ⟨k0, k1, k2, kl⟩ := (HB.out.ext hW).c3; first | (refine StepT.off rfl hW ?_; rfl) | (refine StepT.go rfl ?_; go_simp; first | (refine ⟨?_, hW⟩; rfl) | (refine Calls.mono (CL.out _ (HF.out.ext (HX.out.trans hW)) (HSW.out.ext (HX.out.trans hW))) ?_; rintro e w4 ⟨rfl, hb⟩; refine ⟨?_, hW.trans hb⟩; rfl))
                simp only [Act.put, List.setIfInBounds_toArray, List.set_cons_zero, List.set_cons_succ]
                refine StepsT.cons (fun W hW => ?_) ?_
                · have ci := ((HX.out.trans hW).cell (p := ⟨b, off + i, none⟩) HBW.out).trans HCI.out; have r1 := ((HX.out.trans hW).cell (p := ⟨rb, ro + k, none⟩) HRB.out).trans HR1.out; obtain ⟨k0, k1, k2, kl⟩ := (HB.out.ext hW).c3; first | (refine StepT.off rfl hW ?_; rfl) | (refine StepT.go rfl ?_; go_simp; first | (refine ⟨?_, hW⟩; rfl) | (refine Calls.mono (CL.out _ (HF.out.ext (HX.out.trans hW)) (HSW.out.ext (HX.out.trans hW))) ?_; rintro e w4 ⟨rfl, hb⟩; refine ⟨?_, hW.trans hb⟩; rfl))
                simp only [Act.put, List.setIfInBounds_toArray, List.set_cons_zero, List.set_cons_succ]
                refine StepsT.cons (fun W hW => ?_) ?_
                · have ci := ((HX.out.trans hW).cell (p := ⟨b, off + i, none⟩) HBW.out).trans HCI.out; have r1 := ((HX.out.trans hW).cell (p := ⟨rb, ro + k, none⟩) HRB.out).trans HR1.out; obtain ⟨k0, k1, k2, kl⟩ := (HB.out.ext hW).c3; first | (refine StepT.off rfl hW ?_; rfl) | (refine StepT.go rfl ?_; go_simp; first | (refine ⟨?_, hW⟩; rfl) | (refine Calls.mono (CL.out _ (HF.out.ext (HX.out.trans hW)) (HSW.out.ext (HX.out.trans hW))) ?_; rintro e w4 ⟨rfl, hb⟩; refine ⟨?_, hW.trans hb⟩; rfl))
                simp only [Act.put, List.setIfInBounds_toArray, List.set_cons_zero, List.set_cons_succ]
                trivial
              intro W hW
              simp only [putAll, Act.put, List.setIfInBounds_toArray, List.set_cons_zero, List.set_cons_succ]
              have HX3 := Lib.hid (HX.out.trans hW); have HB3 := Lib.hid (HB.out.ext hW); have HO3 := Lib.hid (HO.out.ext hW)
              clear HX HB HO hW k0 k1 k2 kl ci cbl
              have HX := HX3; have HB := HB3; have HO := HO3
              clear HX3 HB3 HO3
              obtain ⟨k0, k1, k2, kl⟩ := HB.out.c3
              go_upto_region 17 with fail
              refine wp_region_steady (Ext _) [?_, ?_, ?_, ?_, ?_, ?_, ?_, ?_, ?_, ?_] (by kernel_rfl) (by kernel_rfl) rfl (Ext.refl _).drew ?_ ?_
              rotate_left 10
              · refine StepsT.cons (fun W hW => ?_) ?_
                · have ci := ((HX.out.trans hW).cell (p := ⟨b, off + i, none⟩) HBW.out).trans HCI.out; have r1 := ((HX.out.trans hW).cell (p := ⟨rb, ro + k, none⟩) HRB.out).trans HR1.out; obtain ⟨k0, k1, k2, kl⟩ := (HB.out.ext hW).c3; first | (refine StepT.off rfl hW ?_; rfl) | (refine StepT.go rfl ?_; go_simp; first | (refine ⟨?_, hW⟩; rfl) | (refine Calls.mono (CW.out _ (HF.out.ext (HX.out.trans hW)) (HSW.out.ext (HX.out.trans hW))) ?_; rintro e w4 ⟨rfl, hb⟩; refine ⟨?_, hW.trans hb⟩; rfl))
                simp only [Act.put, List.setIfInBounds_toArray, List.set_cons_zero, List.set_cons_succ]
                refine StepsT.cons (fun W hW => ?_) ?_
                · have ci := ((HX.out.trans hW).cell (p := ⟨b, off + i, none⟩) HBW.out).trans HCI.out; have r1 := ((HX.out.trans hW).cell (p := ⟨rb, ro + k, none⟩) HRB.out).trans HR1.out; obtain ⟨k0, k1, k2, kl⟩ := (HB.out.ext hW).c3; first | (refine StepT.off rfl hW ?_; rfl) | (refine StepT.go rfl ?_; go_simp; first | (refine ⟨?_, hW⟩; rfl) | (refine Calls.mono (CW.out _ (HF.out.ext (HX.out.trans hW)) (HSW.out.ext (HX.out.trans hW))) ?_; rintro e w4 ⟨rfl, hb⟩; refine ⟨?_, hW.trans hb⟩; rfl))
                simp only [Act.put, List.setIfInBounds_toArray, List.set_cons_zero, List.set_cons_succ]
                refine StepsT.cons (fun W hW => ?_) ?_
                · have ci := ((HX.out.trans hW).cell (p := ⟨b, off + i, none⟩) HBW.out).trans HCI.out; have r1 := ((HX.out.trans hW).cell (p := ⟨rb, ro + k, none⟩) HRB.out).trans HR1.out; obtain ⟨k0, k1, k2, kl⟩ := (HB.out.ext hW).c3; first | (refine StepT.off rfl hW ?_; rfl) | (refine StepT.go rfl ?_; go_simp; first | (refine ⟨?_, hW⟩; rfl) | (refine Calls.mono (CW.out _ (HF.out.ext (HX.out.trans hW)) (HSW.out.ext (HX.out.trans hW))) ?_; rintro e w4 ⟨rfl, hb⟩; refine ⟨?_, hW.trans hb⟩; rfl))
                simp only [Act.put, List.setIfInBounds_toArray, List.set_cons_zero, List.set_cons_succ]
                refine StepsT.cons (fun W hW => ?_) ?_
                · have ci := ((HX.out.trans hW).cell (p := ⟨b, off + i, none⟩) HBW.out).trans HCI.out; have r1 := ((HX.out.trans hW).cell (p := ⟨rb, ro + k, none⟩) HRB.out).trans HR1.out; obtain ⟨k0, k1, k2, kl⟩ := (HB.out.ext hW).c3; first | (refine StepT.off rfl hW ?_; rfl) | (refine StepT.go rfl ?_; go_simp; first | (refine ⟨?_, hW⟩; rfl) | (refine Calls.mono (CW.out _ (HF.out.ext (HX.out.trans hW)) (HSW.out.ext (HX.out.trans hW))) ?_; rintro e w4 ⟨rfl, hb⟩; refine ⟨?_, hW.trans hb⟩; rfl))
                simp only [Act.put, List.setIfInBounds_toArray, List.set_cons_zero, List.set_cons_succ]
                refine StepsT.cons (fun W hW => ?_) ?_
                · have ci := ((HX.out.trans hW).cell (p := ⟨b, off + i, none⟩) HBW.out).trans HCI.out; have r1 := ((HX.out.trans hW).cell (p := ⟨rb, ro + k, none⟩) HRB.out).trans HR1.out; obtain ⟨k0, k1, k2, kl⟩ := (HB.out.ext hW).c3; first | (refine StepT.off rfl hW ?_; rfl) | (refine StepT.go rfl ?_; go_simp; first | (refine ⟨?_, hW⟩; rfl) | (refine Calls.mono (CW.out _ (HF.out.ext (HX.out.trans hW)) (HSW.out.ext (HX.out.trans hW))) ?_; rintro e w4 ⟨rfl, hb⟩; refine ⟨?_, hW.trans hb⟩; rfl))
                simp only [Act.put, List.setIfInBounds_toArray, List.set_cons_zero, List.set_cons_succ]
                refine StepsT.cons (fun W hW => ?_) ?_
                · have ci := ((HX.out.trans hW).cell (p := ⟨b, off + i, none⟩) HBW.out).trans HCI.out; have r1 := ((HX.out.trans hW).cell (p := ⟨rb, ro + k, none⟩) HRB.out).trans HR1.out; obtain ⟨k0, k1, k2, kl⟩ := (HB.out.ext hW).c3; first | (refine StepT.off rfl hW ?_; rfl) | (refine StepT.go rfl ?_; go_simp; first | (refine ⟨?_, hW⟩; rfl) | (refine Calls.mono (CW.out _ (HF.out.ext (HX.out.trans hW)) (HSW.out.ext (HX.out.trans hW))) ?_; rintro e w4 ⟨rfl, hb⟩; refine ⟨?_, hW.trans hb⟩; rfl))
                simp only [Act.put, List.setIfInBounds_toArray, List.set_cons_zero, List.set_cons_succ]
                refine StepsT.cons (fun W hW => ?_) ?_
                · have ci := ((HX.out.trans hW).cell (p := ⟨b, off + i, none⟩) HBW.out).trans HCI.out; have r1 := ((HX.out.trans hW).cell (p := ⟨rb, ro + k, none⟩) HRB.out).trans HR1.out; obtain ⟨k0, k1, k2, kl⟩ := (HB.out.ext hW).c3; first | (refine StepT.off rfl hW ?_; rfl) | (refine StepT.go rfl ?_; go_simp; first | (refine ⟨?_, hW⟩; rfl) | (refine Calls.mono (CW.out _ (HF.out.ext (HX.out.trans hW)) (HSW.out.ext (HX.out.trans hW))) ?_; rintro e w4 ⟨rfl, hb⟩; refine ⟨?_, hW.trans hb⟩; rfl))
                simp only [Act.put, List.setIfInBounds_toArray, List.set_cons_zero, List.set_cons_succ]
                refine StepsT.cons (fun W hW => ?_) ?_
                · have ci := ((HX.out.trans hW).cell (p := ⟨b, off + i, none⟩) HBW.out).trans HCI.out; have r1 := ((HX.out.trans hW).cell (p := ⟨rb, ro + k, none⟩) HRB.out).trans HR1.out; obtain ⟨k0, k1, k2, kl⟩ := (HB.out.ext hW).c3; first | (refine StepT.off rfl hW ?_; rfl) | (refine StepT.go rfl ?_; go_simp; first | (refine ⟨?_, hW⟩; rfl) | (refine Calls.mono (CW.out _ (HF.out.ext (HX.out.trans hW)) (HSW.out.ext (HX.out.trans hW))) ?_; rintro e w4 ⟨rfl, hb⟩; refine ⟨?_, hW.trans hb⟩; rfl))
                simp only [Act.put, List.setIfInBounds_toArray, List.set_cons_zero, List.set_cons_succ]
                refine StepsT.cons (fun W hW => ?_) ?_
                · have ci := ((HX.out.trans hW).cell (p := ⟨b, off + i, none⟩) HBW.out).trans HCI.out; have r1 := ((HX.out.trans hW).cell (p := ⟨rb, ro + k, none⟩) HRB.out).trans HR1.out; obtain ⟨k0, k1, k2, kl⟩ := (HB.out.ext hW).c3; first | (refine StepT.off rfl hW ?_; rfl) | (refine StepT.go rfl ?_; go_simp; first | (refine ⟨?_, hW⟩; rfl) | (refine Calls.mono (CW.out _ (HF.out.ext (HX.out.trans hW)) (HSW.out.ext (HX.out.trans hW))) ?_; rintro e w4 ⟨rfl, hb⟩; refine ⟨?_, hW.trans hb⟩; rfl))
                simp only [Act.put, List.setIfInBounds_toArray, List.set_cons_zero, List.set_cons_succ]
                refine StepsT.cons (fun W hW => ?_) ?_
                · have ci := ((HX.out.trans hW).cell (p := ⟨b, off + i, none⟩) HBW.out).trans HCI.out; have r1 := ((HX.out.trans hW).cell (p := ⟨rb, ro + k, none⟩) HRB.out).trans HR1.out; obtain ⟨k0, k1, k2, kl⟩ := (HB.out.ext hW).c3; first | (refine StepT.off rfl hW ?_; rfl) | (refine StepT.go rfl ?_; go_simp; first | (refine ⟨?_, hW⟩; rfl) | (refine Calls.mono (CW.out _ (HF.out.ext (HX.out.trans hW)) (HSW.out.ext (HX.out.trans hW))) ?_; rintro e w4 ⟨rfl, hb⟩; refine ⟨?_, hW.trans hb⟩; rfl))
                simp only [Act.put, List.setIfInBounds_toArray, List.set_cons_zero, List.set_cons_succ]
                trivial
              intro W hW
              simp only [putAll, Act.put, List.setIfInBounds_toArray, List.set_cons_zero, List.set_cons_succ]
              have HX3 := Lib.hid (HX.out.trans hW); have HB3 := Lib.hid (HB.out.ext hW); have HO3 := Lib.hid (HO.out.ext hW)
              clear HX HB HO hW k0 k1 k2 kl
              have HX := HX3; have HB := HB3; have HO := HO3
              clear HX3 HB3 HO3
              obtain ⟨k0, k1, k2, kl⟩ := HB.out.c3
              have HUP : Hid (upd ws out0 (k + 1) = (upd ws out0 k).set k (max ((upd ws out0 k).getD k 0) (ws k))) := Lib.hid rfl
              obtain ⟨g, cap, hvg, hgb⟩ := World.ownsRow.form HO.out (by rw [upd_len, HOL.out]; omega)
              have hvl : (upd ws out0 k).length = rn := by rw [upd_len, HOL.out]
              rw [hvl] at hvg
              subst hvg
              have hul : k < (upd ws out0 k).length := by rw [hvl]; exact hkm
              have l1 := (HO.out.at rfl k hul).1
              have l2 := (HO.out.at rfl k hul).2.1
              obtain ⟨y1, y2⟩ := HUB.out k hkm
              have HUN : Hid (∀ y, (upd ws out0 k).getD k 0 = y → ∀ j, j < rn → 0 ≤ ((upd ws out0 k).set k (max y (ws k))).getD j 0 ∧ ((upd ws out0 k).set k (max y (ws k))).getD j 0 ≤ 1000000000) := Lib.hid fun y hy j hj => by
                rw [getD_set hul]
                split
                · rw [← hy]; omega
                · exact HUB.out j hj
              generalize hyy : (upd ws out0 k).getD k 0 = y at *
              have HYY := Lib.hid hyy
              generalize ws k = wk at *
              have HGB : Hid (w.heap.size + 1 ≤ g) := Lib.hid hgb.1
              have hgl := hgb.2
              clear hgb hul hyy HUB hvl
              go_wp2
              go_roundw
              case rel => exact ⟨k + 1, by omega, by go_num, HK2, Lib.hid (by rw [HUP.out]; exact HO.out.set k _), Lib.hid (by rw [HUP.out]; exact HUN.out y rfl), Lib.hid (HB.out.far (p := ⟨g, k, none⟩) (by have := HGB.out; simp only; omega) _), Lib.hid (HX.out.setCell (p := ⟨g, k, none⟩) (by have := HGB.out; simp only; omega) _)⟩
              case measure => simp [intOf] <;> omega
end Go.Proofs.YtpkmapngdkkglaaGreatDoor
