/-
  Walk: the reference's Enough, of a right fount.
-/
import Derived.Test.YtiailnblfonhjaaDoorEnough
import Derived.Test.YtiailnblfonhjaaDoorNeed
import Derived.Deep.RegionHeld3
import Derived.StillTailTactics
namespace Go.Proofs.YtiailnblfonhjaaDoor
open Go.RowKit

/-- The first entries are the greater ones. -/
def mix (xs ys : List Int) : Nat → List Int
  | 0 => xs
  | q + 1 => (mix xs ys q).set q (mostI (xs.getD q 0) (ys.getD q 0))
theorem mix_len (xs ys : List Int) : ∀ q, (mix xs ys q).length = xs.length
  | 0 => rfl
  | q + 1 => by rw [mix, List.length_set, mix_len xs ys q]
theorem mix_at (xs ys : List Int) : ∀ q, q ≤ xs.length → ∀ j, j < xs.length → (mix xs ys q).getD j 0 = if j < q then mostI (xs.getD j 0) (ys.getD j 0) else xs.getD j 0
  | 0, _, j, _ => by rw [if_neg (by omega)]; rfl
  | q + 1, hq, j, hj => by
    rw [mix, getD_set (by rw [mix_len]; omega), mix_at xs ys q (by omega) j hj]
    by_cases h : j = q
    · rw [if_pos h, if_pos (by omega), h]
    · rw [if_neg h]
      by_cases h2 : j < q
      · rw [if_pos h2, if_pos (by omega)]
      · rw [if_neg h2, if_neg (by omega)]
theorem mix_done (xs ys : List Int) : mix xs ys xs.length = zipK mostI xs ys :=
  list_ext_getD (by rw [mix_len, zipK_len]) (fun j hj => by
    rw [mix_len] at hj
    rw [mix_at xs ys xs.length (Nat.le_refl _) j hj, if_pos hj, zipK_at _ _ _ _ hj])
theorem Box.set {w a : World} {name : ByteArray} {body : Int} {A : Option Addr} {n c : Nat} (h : Box w name body A n c a) {p : Addr} (hp : w.heap.size < p.block) (u : Value) : Box w name body A n c (a.setCell p u) :=
  ⟨h.ext.setCell (by omega) u, h.blk.far (by omega) u⟩

set_option maxRecDepth 100000 in
set_option maxHeartbeats 8000000 in
theorem rEnough_any (f : FT) (A : Option Addr) (c : Nat) (B : Option Addr) (d : Nat) (rows : List SI) (w : World) (hf : FR w A c f) (h : RL w B rows.length rows) (hz : (chk f).2 = 0) :
    Calls Tryd.prog 38 #[f.val A c, .slice B rows.length d] w (RetSE (enL f (rows.map SI.zs)).1 (enL f (rows.map SI.zs)).2 w) := by
  have HF := Lib.hid hf; have HR := Lib.hid h; clear hf h
  have HLS : Hid ((rows.map SI.zs).length = rows.length) := Lib.hid (by simp)
  have HLA : Hid (∀ k, k < rows.length → (rows.map SI.zs).getD k [] = (rows.getD k SI.none_).zs) := Lib.hid (fun k hk => zs_at rows k hk)
  generalize rows.map SI.zs = ls at *
  have hss := (chk_zero hz).2.2.1
  by_cases hl : rows.length ≤ 100
  case neg =>
    have HE' : Hid (enL f ls = ([], 8)) := Lib.hid (enL_large (by rw [HLS.out]; omega))
    generalize enL f ls = r at *
    have i1 : (100 : Int) < (rows.length : Int) := by omega
    obtain ⟨name, body, ss⟩ := f
    simp only [FT.val] at *
    go_enter Tryd.func38, Tryd.ntmps38
    go_wp2
    go_ret2
    rw [HE'.out]
    exact ⟨none, 0, rfl, SL.nil _ _, (by repeat (first | exact Ext.refl _ | assumption | refine Ext.alloc ?_ _ | refine Ext.drew ?_ | refine Ext.drewN ?_ _ | (refine Ext.setCell ?_ (by simp <;> omega) _) | refine Ext.trans ?_ (by assumption)))⟩
  case pos =>
  have i1 : ¬ (100 : Int) < (rows.length : Int) := by omega
  have HCE : Hid (∀ zs, caseErr f zs = countsErr f zs) := Lib.hid (fun zs => by unfold caseErr; rw [if_neg (by simpa using hz)])
  have HBAD : Hid (∀ k, k < rows.length → errTo f ls k = 0 → countsErr f (rows.getD k SI.none_).zs ≠ 0 → enL f ls = ([], countsErr f (rows.getD k SI.none_).zs)) := Lib.hid (fun k hk h0 h1 => by
    rw [← HLA.out k hk]; exact enL_bad (by rw [HLS.out]; exact hl) (by rw [HLS.out]; exact hk) h0 (by rw [HLA.out k hk]; exact h1))
  have HGOOD : Hid (errTo f ls rows.length = 0 → enL f ls = (mostTo f.sorts.length ls rows.length, 0)) := Lib.hid (fun h0 => by
    have := enL_good (f := f) (ls := ls) (by rw [HLS.out]; exact hl) (by rw [HLS.out]; exact h0)
    rw [this, HLS.out])
  have HSTEP : Hid (∀ k, k < rows.length → errTo f ls k = 0 → countsErr f (rows.getD k SI.none_).zs = 0 → errTo f ls (k + 1) = 0) := Lib.hid (fun k hk h0 h1 => by
    rw [errTo, if_neg (by rw [h0]; simp), HLA.out k hk, h1])
  have HLEN : Hid (∀ k, k < rows.length → countsErr f (rows.getD k SI.none_).zs = 0 → (rows.getD k SI.none_).zs.length = f.sorts.length) := Lib.hid (fun k hk h1 => (counts_zero h1).1)
  have HML : Hid (∀ k, (mostTo f.sorts.length ls k).length = f.sorts.length) := Lib.hid (mostTo_len _ _)
  have HMS : Hid (∀ k, k < rows.length → mostTo f.sorts.length ls (k + 1) = mix (mostTo f.sorts.length ls k) (rows.getD k SI.none_).zs f.sorts.length) := Lib.hid (fun k hk => by
    have := mix_done (mostTo f.sorts.length ls k) (rows.getD k SI.none_).zs
    rw [mostTo_len] at this
    rw [mostTo, HLA.out k hk, this])
  have HM0 : Hid (mostTo f.sorts.length ls 0 = List.replicate f.sorts.length 0) := Lib.hid rfl
  have HERR0 : Hid (errTo f ls 0 = 0) := Lib.hid rfl
  have HCK := Lib.hid (fun X dx zs W h1 h2 => rCheckCase_any f A c X dx zs W h1 h2)
  generalize enL f ls = r at *
  clear HLA HLS hz
  generalize hmt : mostTo f.sorts.length ls = mt at *
  generalize het : errTo f ls = et at *
  generalize hcs : caseErr f = ca at *
  clear hmt het hcs
  generalize hce : countsErr f = ce at *
  clear hce
  obtain ⟨name, body, ss⟩ := f
  simp only [FT.val] at *
  go_enter Tryd.func38, Tryd.ntmps38
  go_wp2_with (at_make; refine list_makeI rfl (.tmp 15) (.tmp 15) rfl ss.length rfl rfl (by omega) ?_; intro W2 hS hx hlt; have HS2 := Lib.hid hS.own; have HB2 := Lib.hid (Box.start w (Ext.trans (by repeat (first | exact Ext.refl _ | assumption | refine Ext.alloc ?_ _ | refine Ext.drew ?_ | refine Ext.drewN ?_ _ | (refine Ext.setCell ?_ (by simp <;> omega) _) | refine Ext.trans ?_ (by assumption))) hx)); clear hS hx)
  rw [World.size_alloc] at hlt
  go_loopw [7] (fun i wr => ∃ k : Nat, k ≤ rows.length ∧ i = .int .i64 k ∧ Own wr (w.heap.size + 1) (.slice (some ⟨w.heap.size + 1, 0, none⟩) ss.length ss.length) (mt k) ∧ Box w name body A ss.length c wr ∧ Hid (et k = 0)) (fun i _ => rows.length - (intOf i).toNat)
  case atStart => exact ⟨0, Nat.zero_le _, rfl, by have := HS2.out; rw [List.length_replicate, World.size_alloc] at this; rw [HM0.out]; exact this, HB2.out, HERR0⟩
  case round =>
    obtain ⟨k, hk, rfl, hO, hB, het⟩ := hrel
    have HO := Lib.hid hO; have HB := Lib.hid hB; clear hO
    by_cases hlt : k < rows.length
    case pos =>
      obtain ⟨_, _, hrow, hrs⟩ := HR.out
      obtain ⟨b, off, rfl, hbw, hcell⟩ := hrow (by omega)
      have HC1 := Lib.hid (hcell k hlt)
      have c1 := (hB.ext.cell (p := ⟨b, off + k, none⟩) hbw).trans (hcell k hlt)
      have HX := Lib.hid (hrs k hlt)
      obtain ⟨b0, b1, b2, bl⟩ := hB.blk.c3
      have hki : (k : Int) < (rows.length : Int) := by omega
      have HBD := Lib.hid (HBAD.out k hlt het.out)
      have HST := Lib.hid (HSTEP.out k hlt het.out)
      have HLN := Lib.hid (HLEN.out k hlt)
      have HMK := Lib.hid (HMS.out k hlt)
      clear hrow hrs hcell hB
      generalize rows.getD k SI.none_ = s at *
      obtain ⟨sA, sc, zs⟩ := s
      simp only [SI.val] at *
      have CK := Lib.hid (fun W h1 h2 => HCK.out sA sc zs W h1 h2)
      rw [HCE.out zs] at CK
      by_cases hze : ce zs = 0
      case neg =>
        have HE' := Lib.hid (HBD.out hze)
        generalize ce zs = z at *
        have e0 : (z != 0) = true := by simpa using hze
        clear hze
        go_wp2
        go_region_held3 (fun W => W.cell? ⟨w.heap.size, 0, none⟩ = some (.string name) ∧ W.cell? ⟨w.heap.size, 1, none⟩ = some (.int .i64 body) ∧ W.cell? ⟨w.heap.size, 2, none⟩ = some (.slice A ss.length c) ∧ W.cell? ⟨b, off + k, none⟩ = some (.slice sA zs.length sc) ∧ w.heap.size < W.heap.size) ((first | exact ⟨x0, x1, x2, xr, xl⟩ | exact ⟨b0, b1, b2, c1, bl⟩ | go_keep))
          (((go_at_call 15; refine Calls.mono (CK.out _ ?_ ?_) ?_; (exact HF.out.ext (HB.out.ext.trans (by repeat (first | exact Ext.refl _ | assumption | refine Ext.alloc ?_ _ | refine Ext.drew ?_ | refine Ext.drewN ?_ _ | (refine Ext.setCell ?_ (by simp <;> omega) _) | refine Ext.trans ?_ (by assumption))))); (exact HX.out.ext (HB.out.ext.trans (by repeat (first | exact Ext.refl _ | assumption | refine Ext.alloc ?_ _ | refine Ext.drew ?_ | refine Ext.drewN ?_ _ | (refine Ext.setCell ?_ (by simp <;> omega) _) | refine Ext.trans ?_ (by assumption))))); rintro e W1 ⟨rfl, hb⟩; have K1 := Lib.hid (HB.out.next (Ext.trans (by repeat (first | exact Ext.refl _ | assumption | refine Ext.alloc ?_ _ | refine Ext.drew ?_ | refine Ext.drewN ?_ _ | (refine Ext.setCell ?_ (by simp <;> omega) _) | refine Ext.trans ?_ (by assumption))) hb)); obtain ⟨x0, x1, x2, xl⟩ := K1.out.blk.c3; have xr := (K1.out.ext.cell (p := ⟨b, off + k, none⟩) hbw).trans HC1.out; clear hb)))
        go_wp2
        go_ret2
        rw [HE'.out]
        exact ⟨none, 0, rfl, SL.nil _ _, K1.out.ext.trans (by repeat (first | exact Ext.refl _ | assumption | refine Ext.alloc ?_ _ | refine Ext.drew ?_ | refine Ext.drewN ?_ _ | (refine Ext.setCell ?_ (by simp <;> omega) _) | refine Ext.trans ?_ (by assumption)))⟩
      case pos =>
        have HN := Lib.hid (HST.out hze)
        have hzl := HLN.out hze
        rw [hze] at CK
        clear hze
        have hzn : zs.length ≤ 120 := by omega
        have hzs : ss.length ≤ zs.length := by omega
        clear hzl
        go_wp2
        go_region_held3 (fun W => W.cell? ⟨w.heap.size, 0, none⟩ = some (.string name) ∧ W.cell? ⟨w.heap.size, 1, none⟩ = some (.int .i64 body) ∧ W.cell? ⟨w.heap.size, 2, none⟩ = some (.slice A ss.length c) ∧ W.cell? ⟨b, off + k, none⟩ = some (.slice sA zs.length sc) ∧ w.heap.size < W.heap.size) ((first | exact ⟨x0, x1, x2, xr, xl⟩ | exact ⟨b0, b1, b2, c1, bl⟩ | go_keep))
          (((go_at_call 15; refine Calls.mono (CK.out _ ?_ ?_) ?_; (exact HF.out.ext (HB.out.ext.trans (by repeat (first | exact Ext.refl _ | assumption | refine Ext.alloc ?_ _ | refine Ext.drew ?_ | refine Ext.drewN ?_ _ | (refine Ext.setCell ?_ (by simp <;> omega) _) | refine Ext.trans ?_ (by assumption))))); (exact HX.out.ext (HB.out.ext.trans (by repeat (first | exact Ext.refl _ | assumption | refine Ext.alloc ?_ _ | refine Ext.drew ?_ | refine Ext.drewN ?_ _ | (refine Ext.setCell ?_ (by simp <;> omega) _) | refine Ext.trans ?_ (by assumption))))); rintro e W1 ⟨rfl, hb⟩; have K1 := Lib.hid (HB.out.next (Ext.trans (by repeat (first | exact Ext.refl _ | assumption | refine Ext.alloc ?_ _ | refine Ext.drew ?_ | refine Ext.drewN ?_ _ | (refine Ext.setCell ?_ (by simp <;> omega) _) | refine Ext.trans ?_ (by assumption))) hb)); have O1 := Lib.hid (HO.out.ext (Ext.trans (by repeat (first | exact Ext.refl _ | assumption | refine Ext.alloc ?_ _ | refine Ext.drew ?_ | refine Ext.drewN ?_ _ | (refine Ext.setCell ?_ (by simp <;> omega) _) | refine Ext.trans ?_ (by assumption))) hb)); obtain ⟨x0, x1, x2, xl⟩ := K1.out.blk.c3; have xr := (K1.out.ext.cell (p := ⟨b, off + k, none⟩) hbw).trans HC1.out; clear hb)))
        go_wp2
        go_loopw [9] (fun j wr => ∃ q : Nat, q ≤ ss.length ∧ j = .int .i64 q ∧ Own wr (w.heap.size + 1) (.slice (some ⟨w.heap.size + 1, 0, none⟩) ss.length ss.length) (mix (mt k) zs q) ∧ Box w name body A ss.length c wr) (fun j _ => ss.length - (intOf j).toNat)
        case atStart => exact ⟨0, Nat.zero_le _, rfl, O1.out.ext (by repeat (first | exact Ext.refl _ | assumption | refine Ext.alloc ?_ _ | refine Ext.drew ?_ | refine Ext.drewN ?_ _ | (refine Ext.setCell ?_ (by simp <;> omega) _) | refine Ext.trans ?_ (by assumption))), K1.out.next (by repeat (first | exact Ext.refl _ | assumption | refine Ext.alloc ?_ _ | refine Ext.drew ?_ | refine Ext.drewN ?_ _ | (refine Ext.setCell ?_ (by simp <;> omega) _) | refine Ext.trans ?_ (by assumption)))⟩
        case round =>
          obtain ⟨q, hq, rfl, hO5, hB5⟩ := hrel
          have HO5 := Lib.hid hO5; have HB5 := Lib.hid hB5
          by_cases hqk : q < ss.length
          case pos =>
            have d1 := (hB5.ext.cell (p := ⟨b, off + k, none⟩) hbw).trans HC1.out
            obtain ⟨b', off', rfl, hbw', hcell'⟩ := (HX.out.ext hB5.ext).2.2 (by omega)
            have d2 := hcell' q (by omega)
            have hlen : q < (mix (mt k) zs q).length := by rw [mix_len, HML.out]; exact hqk
            have HMX : Hid (mix (mt k) zs (q + 1) = (mix (mt k) zs q).set q (mostI ((mt k).getD q 0) (zs.getD q 0))) := Lib.hid rfl
            have HMQ : Hid ((mix (mt k) zs q).getD q 0 = (mt k).getD q 0) := Lib.hid (by rw [mix_at _ _ q (by rw [HML.out]; omega) q (by rw [HML.out]; exact hqk), if_neg (by omega)])
            have d3 := (hO5.at rfl q hlen).1
            have d4 := (hO5.at rfl q hlen).2.1
            rw [HMQ.out] at d3
            have hqi : (q : Int) < (ss.length : Int) := by omega
            have hqz : (q : Int) < (zs.length : Int) := by omega
            have HMI : Hid (mostI ((mt k).getD q 0) (zs.getD q 0) = max ((mt k).getD q 0) (zs.getD q 0)) := Lib.hid rfl
            clear hcell' hlen hO5 hB5
            generalize (mt k).getD q 0 = x at *
            generalize zs.getD q 0 = y at *
            have HOD := Lib.hid (HO5.out.ext ((Ext.refl wr).drew))
            go_wp2
            go_still_tail 15, (by kernel_rfl)
            change wpList _ _ _ _ _ wr.drew
            go_wp2
            go_roundw
            case rel => exact ⟨q + 1, by omega, by go_num, by rw [HMX.out, HMI.out]; exact HOD.out.set q (max x y), (HB5.out.next ((Ext.refl _).drew)).set (by simp) _⟩
            case measure => simp [intOf]; omega
          case neg =>
            obtain rfl : q = ss.length := by omega
            rw [← HMK.out] at HO5
            clear hO5 hB5
            go_wp2
            go_roundw
            case rel => exact ⟨k + 1, by omega, by go_num, HO5.out, HB5.out, HN⟩
            case measure => simp [intOf]; omega
    case neg =>
      obtain rfl : k = rows.length := by omega
      clear hB
      go_wp2
      go_ret2
      rw [HGOOD.out het.out]
      exact ⟨some ⟨w.heap.size + 1, 0, none⟩, ss.length, by simp only [HML.out]; rfl, needSL HO.out (HML.out _) (by omega) (by omega), HB.out.ext⟩
end Go.Proofs.YtiailnblfonhjaaDoor
