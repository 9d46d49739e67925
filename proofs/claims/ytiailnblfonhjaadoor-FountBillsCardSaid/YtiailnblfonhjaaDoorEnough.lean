/-
  Walks: Enough, the least case for several needs; the copies of lists of lists.
-/
import Derived.Test.YtiailnblfonhjaaDoorOwnL
import Derived.Test.YtiailnblfonhjaaDoorFountOnly
import Derived.Test.YtiailnblfonhjaaDoorCopy
namespace Go.Proofs.YtiailnblfonhjaaDoor
open Go.RowKit

/-- The least case for the first of the needs. -/
def mostTo (n : Nat) (ls : List (List Int)) : Nat → List Int
  | 0 => List.replicate n 0
  | k + 1 => zipK mostI (mostTo n ls k) (ls.getD k [])
/-- The first error of the first of the needs. -/
def errTo (f : FT) (ls : List (List Int)) : Nat → Int
  | 0 => 0
  | k + 1 => if errTo f ls k ≠ 0 then errTo f ls k else countsErr f (ls.getD k [])
def enL (f : FT) (ls : List (List Int)) : List Int × Int := if 100 < ls.length then ([], 8) else if errTo f ls ls.length ≠ 0 then ([], errTo f ls ls.length) else (mostTo f.sorts.length ls ls.length, 0)
def enoughR (f : FT) (ls : List (List Int)) : List Int × Int := if (chk f).2 ≠ 0 then ([], (chk f).2) else enL f ls
theorem mostTo_len (n : Nat) (ls : List (List Int)) : ∀ k, (mostTo n ls k).length = n
  | 0 => by simp [mostTo]
  | k + 1 => by rw [mostTo, zipK_len, mostTo_len n ls k]
theorem errTo_stay {f : FT} {ls : List (List Int)} {k : Nat} : ∀ n, k ≤ n → errTo f ls k ≠ 0 → errTo f ls n = errTo f ls k
  | 0, hk, _ => by obtain rfl : k = 0 := by omega
                   rfl
  | n + 1, hk, h => by
    by_cases e : k = n + 1
    · rw [e]
    · have ih := errTo_stay n (by omega) h
      rw [errTo, if_pos (by rw [ih]; exact h), ih]
theorem enL_large {f : FT} {ls : List (List Int)} (h : 100 < ls.length) : enL f ls = ([], 8) := by unfold enL; rw [if_pos h]
theorem enL_bad {f : FT} {ls : List (List Int)} (h : ls.length ≤ 100) {k : Nat} (hk : k < ls.length) (h0 : errTo f ls k = 0) (hz : countsErr f (ls.getD k []) ≠ 0) : enL f ls = ([], countsErr f (ls.getD k [])) := by
  have h1 : errTo f ls (k + 1) = countsErr f (ls.getD k []) := by rw [errTo, if_neg (by rw [h0]; simp)]
  have h2 := errTo_stay (f := f) (ls := ls) (k := k + 1) ls.length (by omega) (by rw [h1]; exact hz)
  unfold enL
  rw [if_neg (by omega), h2, h1, if_pos hz]
theorem enL_good {f : FT} {ls : List (List Int)} (h : ls.length ≤ 100) (h0 : errTo f ls ls.length = 0) : enL f ls = (mostTo f.sorts.length ls ls.length, 0) := by
  unfold enL; rw [if_neg (by omega), if_neg (by rw [h0]; simp)]
theorem zs_at (rows : List SI) (k : Nat) (hk : k < rows.length) : (rows.map SI.zs).getD k [] = (rows.getD k SI.none_).zs := by
  rw [List.getD_eq_getElem?_getD, List.getD_eq_getElem?_getD, List.getElem?_map, List.getElem?_eq_getElem hk]; rfl
theorem RI.as {w : World} {A : Option Addr} {n : Nat} {zs : List Int} (h : RI w A zs.length zs) (hn : zs.length = n) : RI w A n zs := hn ▸ h

set_option maxRecDepth 100000 in
set_option maxHeartbeats 8000000 in
theorem enough_any (f : FT) (A : Option Addr) (c : Nat) (B : Option Addr) (d : Nat) (rows : List SI) (w : World) (hf : FR w A c f) (h : RL w B rows.length rows) :
    Calls Tryd.prog 36 #[f.val A c, .slice B rows.length d] w (RetSE (enoughR f (rows.map SI.zs)).1 (enoughR f (rows.map SI.zs)).2 w) := by
  have cC := fun W h1 => check_any f A c none 0 0 [] W h1 (RL.none_ W)
  rw [checkErr_none] at cC
  have HF := Lib.hid hf; have HR := Lib.hid h; clear hf h
  have HLS : Hid ((rows.map SI.zs).length = rows.length) := Lib.hid (by simp)
  have HLA : Hid (∀ k, k < rows.length → (rows.map SI.zs).getD k [] = (rows.getD k SI.none_).zs) := Lib.hid (fun k hk => zs_at rows k hk)
  generalize rows.map SI.zs = ls at *
  by_cases hz : (chk f).2 = 0
  case neg =>
    have HE : Hid (enoughR f ls = ([], (chk f).2)) := Lib.hid (by unfold enoughR; rw [if_pos hz])
    generalize enoughR f ls = r at *
    generalize (chk f).2 = z at *
    have e0 : (z != 0) = true := by simpa using hz
    obtain ⟨name, body, ss⟩ := f
    simp only [FT.val] at *
    have CC := Lib.hid cC; clear cC hz
    go_enter Tryd.func36, Tryd.ntmps36
    go_wp2_with (first | (go_at_call 61; refine Calls.mono (CC.out _ ?_) ?_; (exact HF.out.ext (by repeat (first | exact Ext.refl _ | assumption | refine Ext.alloc ?_ _ | refine Ext.drew ?_ | refine Ext.drewN ?_ _ | (refine Ext.setCell ?_ (by simp <;> omega) _) | refine Ext.trans ?_ (by assumption)))); rintro e w1 ⟨rfl, hb⟩))
    go_ret2
    rw [HE.out]
    exact ⟨none, 0, rfl, SL.nil _ _, (by repeat (first | exact Ext.refl _ | assumption | refine Ext.alloc ?_ _ | refine Ext.drew ?_ | refine Ext.drewN ?_ _ | (refine Ext.setCell ?_ (by simp <;> omega) _) | refine Ext.trans ?_ (by assumption)))⟩
  case pos =>
  have HE : Hid (enoughR f ls = enL f ls) := Lib.hid (by unfold enoughR; rw [if_neg (by simpa using hz)])
  generalize enoughR f ls = r at *
  rw [hz] at cC
  have hss := (chk_zero hz).2.2.1
  clear hz
  by_cases hl : rows.length ≤ 100
  case neg =>
    have HE' : Hid (r = ([], 8)) := Lib.hid (by rw [HE.out, enL_large (by rw [HLS.out]; omega)])
    have i1 : (100 : Int) < (rows.length : Int) := by omega
    obtain ⟨name, body, ss⟩ := f
    simp only [FT.val] at *
    have CC := Lib.hid cC; clear cC
    go_enter Tryd.func36, Tryd.ntmps36
    go_wp2_with (first | (go_at_call 61; refine Calls.mono (CC.out _ ?_) ?_; (exact HF.out.ext (by repeat (first | exact Ext.refl _ | assumption | refine Ext.alloc ?_ _ | refine Ext.drew ?_ | refine Ext.drewN ?_ _ | (refine Ext.setCell ?_ (by simp <;> omega) _) | refine Ext.trans ?_ (by assumption)))); rintro e w1 ⟨rfl, hb⟩))
    go_ret2
    rw [HE'.out]
    exact ⟨none, 0, rfl, SL.nil _ _, (by repeat (first | exact Ext.refl _ | assumption | refine Ext.alloc ?_ _ | refine Ext.drew ?_ | refine Ext.drewN ?_ _ | (refine Ext.setCell ?_ (by simp <;> omega) _) | refine Ext.trans ?_ (by assumption)))⟩
  case pos =>
  have i1 : ¬ (100 : Int) < (rows.length : Int) := by omega
  have HBAD : Hid (∀ k, k < rows.length → errTo f ls k = 0 → countsErr f (rows.getD k SI.none_).zs ≠ 0 → r = ([], countsErr f (rows.getD k SI.none_).zs)) := Lib.hid (fun k hk h0 h1 => by
    rw [HE.out, ← HLA.out k hk]; exact enL_bad (by rw [HLS.out]; exact hl) (by rw [HLS.out]; exact hk) h0 (by rw [HLA.out k hk]; exact h1))
  have HGOOD : Hid (errTo f ls rows.length = 0 → r = (mostTo f.sorts.length ls rows.length, 0)) := Lib.hid (fun h0 => by
    have := enL_good (f := f) (ls := ls) (by rw [HLS.out]; exact hl) (by rw [HLS.out]; exact h0)
    rw [HE.out, this, HLS.out])
  have HSTEP : Hid (∀ k, k < rows.length → errTo f ls k = 0 → countsErr f (rows.getD k SI.none_).zs = 0 → errTo f ls (k + 1) = 0) := Lib.hid (fun k hk h0 h1 => by
    rw [errTo, if_neg (by rw [h0]; simp), HLA.out k hk, h1])
  have HLEN : Hid (∀ k, k < rows.length → countsErr f (rows.getD k SI.none_).zs = 0 → (rows.getD k SI.none_).zs.length = f.sorts.length) := Lib.hid (fun k hk h1 => (counts_zero h1).1)
  have HML : Hid (∀ k, (mostTo f.sorts.length ls k).length = f.sorts.length) := Lib.hid (mostTo_len _ _)
  have HMS : Hid (∀ k, k < rows.length → mostTo f.sorts.length ls (k + 1) = zipK mostI (mostTo f.sorts.length ls k) (rows.getD k SI.none_).zs) := Lib.hid (fun k hk => by rw [mostTo, HLA.out k hk])
  have HM0 : Hid (mostTo f.sorts.length ls 0 = List.replicate f.sorts.length 0) := Lib.hid rfl
  have HERR0 : Hid (errTo f ls 0 = 0) := Lib.hid rfl
  have HCK := Lib.hid (fun X dx zs W h => checkCounts_any f A c X dx zs W h)
  clear HE HLA HLS
  generalize hmt : mostTo f.sorts.length ls = mt at *
  generalize het : errTo f ls = et at *
  clear hmt het
  generalize hce : countsErr f = ce at *
  clear hce
  obtain ⟨name, body, ss⟩ := f
  simp only [FT.val] at *
  have CC := Lib.hid cC; clear cC
  go_enter Tryd.func36, Tryd.ntmps36
  go_wp2_with (first | (go_at_call 61; refine Calls.mono (CC.out _ ?_) ?_; (exact HF.out.ext (by repeat (first | exact Ext.refl _ | assumption | refine Ext.alloc ?_ _ | refine Ext.drew ?_ | refine Ext.drewN ?_ _ | (refine Ext.setCell ?_ (by simp <;> omega) _) | refine Ext.trans ?_ (by assumption)))); rintro e w1 ⟨rfl, hb⟩; have HB1 := Lib.hid (Box.start w hb); obtain ⟨k0, k1, k2, kl⟩ := HB1.out.blk.c3; clear hb) | (at_make; refine list_makeI rfl (.tmp 21) (.tmp 21) rfl ss.length rfl rfl (by omega) ?_; intro W2 hS hx hlt; have HS2 := Lib.hid hS; have HB2 := Lib.hid (HB1.out.next (Ext.trans (by repeat (first | exact Ext.refl _ | assumption | refine Ext.alloc ?_ _ | refine Ext.drew ?_ | refine Ext.drewN ?_ _ | (refine Ext.setCell ?_ (by simp <;> omega) _) | refine Ext.trans ?_ (by assumption))) hx)); clear hS hx))
  have hgb : w.heap.size ≤ w1.heap.size := HB1.out.ext.size
  go_loopw [7, 25] (fun v i wr => ∃ (k : Nat) (Z : Option Addr) (cz : Nat), k ≤ rows.length ∧ i = .int .i64 k ∧ v = .slice Z ss.length cz ∧ SL wr w.heap.size Z cz (mt k) ∧ Box w name body A ss.length c wr ∧ Hid (et k = 0)) (fun _ i _ => rows.length - (intOf i).toNat)
  case atStart =>
    refine ⟨0, _, _, Nat.zero_le _, rfl, rfl, ?_, HB2.out, HERR0⟩
    rw [HM0.out]; exact HS2.out.mono hgb
  case round =>
    obtain ⟨k, Z, cz, hk, rfl, rfl, hS, hB, het⟩ := hrel
    have HS := Lib.hid hS; have HB := Lib.hid hB; clear hS
    by_cases hlt : k < rows.length
    case pos =>
      obtain ⟨_, _, hrow, hrs⟩ := HR.out.ext hB.ext
      obtain ⟨b, off, rfl, hbw, hcell⟩ := hrow (by omega)
      have c1 := hcell k hlt
      have HX := Lib.hid (hrs k hlt)
      obtain ⟨b0, b1, b2, bl⟩ := hB.blk.c3
      have hki : (k : Int) < (rows.length : Int) := by omega
      have HBD := Lib.hid (HBAD.out k hlt het.out)
      have HST := Lib.hid (HSTEP.out k hlt het.out)
      have HLN := Lib.hid (HLEN.out k hlt)
      have HMK := Lib.hid (HMS.out k hlt)
      clear hrow hrs hcell hB
      generalize rows.getD k SI.none_ = s at *
      obtain ⟨sA, sc, zs⟩ := s
      simp only [SI.val] at *
      have CK := Lib.hid (fun W h => HCK.out sA sc zs W h)
      by_cases hze : ce zs = 0
      case neg =>
        have HE' := Lib.hid (HBD.out hze)
        generalize ce zs = z at *
        have e0 : (z != 0) = true := by simpa using hze
        clear hze
        go_wp2_with (first | (go_at_call 77; refine Calls.mono (CK.out _ ?_) ?_; (exact HX.out.ext (by repeat (first | exact Ext.refl _ | assumption | refine Ext.alloc ?_ _ | refine Ext.drew ?_ | refine Ext.drewN ?_ _ | (refine Ext.setCell ?_ (by simp <;> omega) _) | refine Ext.trans ?_ (by assumption)))); rintro e w3 ⟨rfl, hb⟩))
        go_ret2
        rw [HE'.out]
        exact ⟨none, 0, rfl, SL.nil _ _, HB.out.ext.trans (Ext.trans (by repeat (first | exact Ext.refl _ | assumption | refine Ext.alloc ?_ _ | refine Ext.drew ?_ | refine Ext.drewN ?_ _ | (refine Ext.setCell ?_ (by simp <;> omega) _) | refine Ext.trans ?_ (by assumption))) hb)⟩
      case pos =>
        have HN := Lib.hid (HST.out hze)
        have hzl := HLN.out hze
        rw [hze] at CK
        clear hze
        have CO := Lib.hid (fun W hx hy => combined_any 79 (fun _ _ => by kernel_rfl) Z sA ss.length cz sc zs.length (mt k) zs (zipK mostI (mt k) zs) W hx hy (by rw [zipK_len, HML.out]) (by omega) (by omega)
          (fun W j hj => by rw [zipK_at _ _ _ _ (by rw [HML.out]; exact hj)]; exact most_any _ _ W))
        have HQ : Hid (zipK mostI (mt k) zs = mt (k + 1)) := Lib.hid HMK.out.symm
        rw [HQ.out] at CO
        have hzn : zs.length ≤ 120 := by omega
        clear hzl
        go_wp2_with (first | (go_at_call 77; refine Calls.mono (CK.out _ ?_) ?_; (exact HX.out.ext (by repeat (first | exact Ext.refl _ | assumption | refine Ext.alloc ?_ _ | refine Ext.drew ?_ | refine Ext.drewN ?_ _ | (refine Ext.setCell ?_ (by simp <;> omega) _) | refine Ext.trans ?_ (by assumption)))); rintro e w3 ⟨rfl, hb⟩; have HW3 := Lib.hid hb; clear hb) | (go_at_call 78; refine Calls.mono (Calls.mono (CO.out _ ?_ ?_) (RetI.s (by rw [HML.out]; omega))) ?_; (exact (HS.out.ri.as (HML.out k)).ext (Ext.trans HW3.out (by repeat (first | exact Ext.refl _ | assumption | refine Ext.alloc ?_ _ | refine Ext.drew ?_ | refine Ext.drewN ?_ _ | (refine Ext.setCell ?_ (by simp <;> omega) _) | refine Ext.trans ?_ (by assumption))))); (exact HX.out.ext (Ext.trans HW3.out (by repeat (first | exact Ext.refl _ | assumption | refine Ext.alloc ?_ _ | refine Ext.drew ?_ | refine Ext.drewN ?_ _ | (refine Ext.setCell ?_ (by simp <;> omega) _) | refine Ext.trans ?_ (by assumption))))); rintro e w4 ⟨Z', cz', rfl, hS4, hb4⟩; have HS4 := Lib.hid hS4; have HW4 := Lib.hid hb4; clear hS4 hb4))
        go_roundw
        case rel => exact ⟨k + 1, Z', cz', by omega, by go_num, by rw [HML.out], HS4.out.mono (Nat.le_trans HB.out.ext.size (by have := HW3.out.size; simp at this ⊢; omega)), HB.out.next (HW3.out.trans (Ext.trans (by repeat (first | exact Ext.refl _ | assumption | refine Ext.alloc ?_ _ | refine Ext.drew ?_ | refine Ext.drewN ?_ _ | (refine Ext.setCell ?_ (by simp <;> omega) _) | refine Ext.trans ?_ (by assumption))) HW4.out)), HN⟩
        case measure => simp [intOf]; omega
    case neg =>
      obtain rfl : k = rows.length := by omega
      clear hB
      go_wp2
      go_ret2
      rw [HGOOD.out het.out]
      exact ⟨Z, cz, by simp only [HML.out]; rfl, HS.out, HB.out.ext⟩
end Go.Proofs.YtiailnblfonhjaaDoor
