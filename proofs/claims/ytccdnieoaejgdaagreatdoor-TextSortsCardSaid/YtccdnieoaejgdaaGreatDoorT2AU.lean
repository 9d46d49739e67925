/-
  Walks: reading lines back: whether there is a sort, and the error of a line.
-/
import Derived.Test.YtccdnieoaejgdaaGreatDoorT2AQ
import Derived.Test.YtccdnieoaejgdaaGreatDoorT2AT
import Derived.Test.YtccdnieoaejgdaaGreatDoorT2AF
set_option linter.unusedVariables false
set_option linter.unusedSimpArgs false
set_option linter.unusedSectionVars false
namespace Go.Proofs.YtccdnieoaejgdaaGreatDoor
open Go.RowKit Go.Lib
attribute [local go_sem] stateAt vu known List.map_cons List.map_nil Option.getD_some

/-- A reader in memory. -/
def rdCells (f : FT) (A : Option Addr) (c : Nat) (v : Value) (cr : List UInt8) : Array Value := #[.string f.name, .int .i64 f.body, .slice A f.sorts.length c, v, .string (strL cr)]
set_option maxRecDepth 100000 in
set_option maxHeartbeats 1000000 in
theorem rdHas_any (f : FT) (A : Option Addr) (c : Nat) (v : Value) (cr : List UInt8) (rb : Nat) (z : Int) (w : World) (hb : Blk w rb 148 (rdCells f A c v cr)) (hn : f.sorts.length ≤ 120) :
    Calls Tryz.prog 123 #[.pointer (some ⟨rb, 0, none⟩), .int .i64 z] w (Same (.bool (hasS f.sorts z)) w) := by
  have y1 : w.cell? ⟨rb, 2, none⟩ = some (.slice A f.sorts.length c) := hb.cell 2 _ rfl
  have yl := hb.lt
  have HH : Hid (hasS f.sorts z = (decide (0 ≤ z) && decide (z ≤ (f.sorts.length : Int) - 1))) := Lib.hid rfl
  have CW := Lib.hid fun W => tWithin_any z 0 ((f.sorts.length : Int) - 1) W
  have u1 : IntKind.i64.wrap ((f.sorts.length : Int) - 1) = (f.sorts.length : Int) - 1 := IntWalk.i64_in _ (by omega)
  clear hb
  generalize hasS f.sorts z = hz at *
  go_enter Tryz.func123, Tryz.ntmps123
  go_wp2_with (first | (go_at_call 80; refine Calls.mono (CW.out _) ?_; rintro e w1 ⟨rfl, rfl⟩))
  go_ret
  exact ⟨by rw [HH.out]; rfl, rfl⟩
/-- The lines' sorts. -/
def lineZs (ls : List LN) : List (List Int) := ls.map fun l => l.s.zs
theorem lineZs_at (ls : List LN) (k : Nat) : (lineZs ls).getD k [] = (ls.getD k LN.zero).s.zs := by
  unfold lineZs
  rw [List.getD_eq_getElem?_getD, List.getElem?_map, List.getD_eq_getElem?_getD]
  cases ls[k]? <;> rfl
theorem hasS_iff {ss : List TS} {z : Int} : hasS ss z = true ↔ 0 ≤ z ∧ z < (ss.length : Int) := by
  unfold hasS; rw [Bool.and_eq_true, decide_eq_true_eq, decide_eq_true_eq]; omega
/-- .. of line i, by the lines at hand. -/
theorem rbErr_at (ss : List TS) (ls : List LN) (i : Nat) (b : Bool) : rbErr ss (lineZs ls) i b =
    (if 300 < (ls.getD i LN.zero).s.zs.length then 8 else if (ls.getD i LN.zero).s.zs.any (fun s => !hasS ss s) = true then 6 else if b = false then 0
      else if (ls.getD i LN.zero).s.zs.length = 0 ∨ (ss.getD ((ls.getD i LN.zero).s.zs.getD ((ls.getD i LN.zero).s.zs.length - 1) 0).toNat TS.zero).text.data.toList ≠ [45] then 3
      else if i + 1 = ls.length ∨ (ls.getD (i + 1) LN.zero).s.zs.length = 0 then 25
      else if hasS ss ((ls.getD (i + 1) LN.zero).s.zs.getD 0 0) = false ∨ (ss.getD ((ls.getD (i + 1) LN.zero).s.zs.getD 0 0).toNat TS.zero).kind = 3 then 25 else 0) := by
  unfold rbErr
  rw [lineZs_at, lineZs_at, show (lineZs ls).length = ls.length by unfold lineZs; simp]
theorem any_upto {zs : List Int} {p : Int → Bool} (h : ∀ k, k < zs.length → p (zs.getD k 0) = false) : zs.any p = false := by
  rw [List.any_eq_false]
  intro z hz
  obtain ⟨k, hk, rfl⟩ := List.mem_iff_getElem.1 hz
  have := h k hk
  rw [List.getD_eq_getElem?_getD, List.getElem?_eq_getElem hk] at this
  simpa using this
theorem any_at {zs : List Int} {p : Int → Bool} {k : Nat} (hk : k < zs.length) (h : p (zs.getD k 0) = true) : zs.any p = true := by
  rw [List.any_eq_true]
  rw [List.getD_eq_getElem?_getD, List.getElem?_eq_getElem hk] at h
  exact ⟨_, List.getElem_mem _, h⟩
set_option maxRecDepth 100000 in
set_option maxHeartbeats 8000000 in
theorem rdCheck_any (f : FT) (A : Option Addr) (c : Nat) (v : Value) (cr : List UInt8) (rb : Nat) (B : Option Addr) (d : Nat) (ls : List LN) (i : Nat) (b : Bool) (w : World) (hf : FR w A c f) (hb : Blk w rb 148 (rdCells f A c v cr)) (hn : f.sorts.length ≤ 120)
    (hl : RLN w B ls.length ls) (hi : i < ls.length) (hll : ls.length ≤ 1000) :
    Calls Tryz.prog 91 #[.pointer (some ⟨rb, 0, none⟩), .slice B ls.length d, .int .i64 (i : Int), .bool b] w (Ret (.int .i64 (rbErr f.sorts (lineZs ls) i b)) w) := by
  have CH := Lib.hid fun W z h => rdHas_any f A c v cr rb z W h hn
  have HRD := Lib.hid hb
  have HF := Lib.hid hf
  have HE := Lib.hid (rbErr_at f.sorts ls i b)
  generalize rbErr f.sorts (lineZs ls) i b = V at *
  obtain ⟨lb, lo, rfl, hlb, hlc⟩ := hl.2.2.1 (by omega)
  obtain ⟨_, c1⟩ := hlc i hi
  have HRI := Lib.hid (hl.2.2.2 i hi)
  have HLC := Lib.hid hlc
  have HR9 := Lib.hid hl.2.2.2
  obtain ⟨⟨X, xc, zs⟩, hx⟩ : ∃ x, (ls.getD i LN.zero).s = x := ⟨_, rfl⟩
  rw [hx] at c1 HRI HE
  simp only [SI.val] at c1 HRI HE
  have ii : (i : Int) < (ls.length : Int) := by omega
  have hzb := HRI.out.big
  clear hl hlc hb hf hx
  by_cases h1 : 300 < zs.length
  · have i1 : (300 : Int) < (zs.length : Int) := by omega
    rw [if_pos h1] at HE
    clear h1
    go_enter Tryz.func91, Tryz.ntmps91
    go_wp2
    go_ret
    exact Ret.mk' (by rw [HE.out]; rfl) (Ext.refl _)
  · have i1 : ¬ (300 : Int) < (zs.length : Int) := by omega
    rw [if_neg h1] at HE
    go_enter Tryz.func91, Tryz.ntmps91
    go_wp2
    go_loopw [23, 11] (fun v23 _ wr => ∃ k : Nat, k ≤ zs.length ∧ v23 = .int .i64 (k : Int) ∧ Hid (∀ j, j < k → (!hasS f.sorts (zs.getD j 0)) = false) ∧ Hid (Ext w wr)) (fun v23 _ _ => zs.length - (intOf v23).toNat)
    case atStart => exact ⟨0, Nat.zero_le _, rfl, Lib.hid (fun j hj => absurd hj (by omega)), Lib.hid (Ext.refl _)⟩
    case round =>
      obtain ⟨k, hk, rfl, HNO, HX⟩ := hrel
      by_cases hlt : k < zs.length
      case pos =>
        -- BEGIN R
        have ik : (k : Int) < (zs.length : Int) := by omega
        obtain ⟨sb, so, hpa, hsl, hsc⟩ := (HRI.out.ext HX.out).2.2 (by omega)
        have c0 := hsc k hlt
        subst hpa
        have HNX : Hid ((!hasS f.sorts (zs.getD k 0)) = false → ∀ j, j < k + 1 → (!hasS f.sorts (zs.getD j 0)) = false) := Lib.hid fun h j hj => by
          by_cases hjk : j < k
          · exact HNO.out j hjk
          · obtain rfl : j = k := by omega
            exact h
        have HNY := Lib.hid (fun h => any_at (p := fun s => !hasS f.sorts s) hlt h)
        have CHK := Lib.hid fun W h => CH.out W (zs.getD k 0) h
        generalize zs.getD k 0 = z at *
        clear hsc
        cases hz : hasS f.sorts z
        case false =>
          rw [hz] at CHK HNY
          rw [if_pos (HNY.out rfl)] at HE
          clear hz HNX HNY
          go_wp2_with (first | (go_at_call 123; refine Calls.mono (CHK.out _ (HRD.out.ext (HX.out.trans (by repeat (first | exact Ext.refl _ | assumption | refine Ext.alloc ?_ _ | refine Ext.drew ?_ | refine Ext.drewN ?_ _ | (refine Ext.setCell ?_ (by simp <;> omega) _) | refine Ext.trans ?_ (by assumption)))))) ?_; rintro e w1 ⟨rfl, rfl⟩))
          go_ret
          exact Ret.mk' (by rw [HE.out]; rfl) HX.out
        case true =>
          rw [hz] at CHK HNX
          have HNZ := Lib.hid (HNX.out rfl)
          clear hz HNX HNY
          go_wp2_with (first | (go_at_call 123; refine Calls.mono (CHK.out _ (HRD.out.ext (HX.out.trans (by repeat (first | exact Ext.refl _ | assumption | refine Ext.alloc ?_ _ | refine Ext.drew ?_ | refine Ext.drewN ?_ _ | (refine Ext.setCell ?_ (by simp <;> omega) _) | refine Ext.trans ?_ (by assumption)))))) ?_; rintro e w1 ⟨rfl, rfl⟩))
          go_roundw
          case rel => exact ⟨k + 1, by omega, by go_num, HNZ, HX⟩
          case measure => simp [intOf]; omega
        -- END R
      case neg =>
        obtain rfl : k = zs.length := by omega
        have ik : ¬ (zs.length : Int) < (zs.length : Int) := by omega
        have HAN := Lib.hid (any_upto (p := fun s => !hasS f.sorts s) HNO.out)
        rw [if_neg (by rw [HAN.out]; decide)] at HE
        clear hlt
        cases b
        case false =>
          -- BEGIN F
          rw [if_pos rfl] at HE
          go_wp2
          go_ret
          exact Ret.mk' (by rw [HE.out]; rfl) HX.out
          -- END F
        case true =>
          rw [if_neg (by decide)] at HE
          by_cases h0 : zs.length = 0
          case pos =>
            -- BEGIN G
            rw [if_pos (.inl h0)] at HE
            have e0 : ((zs.length : Int) == 0) = true := by rw [beq_iff_eq]; omega
            clear h0 hk
            go_upto_region 12 with fail
            refine wp_region_steady (Ext _) [?_, ?_, ?_, ?_, ?_, ?_, ?_, ?_, ?_, ?_, ?_, ?_, ?_, ?_, ?_, ?_, ?_, ?_, ?_, ?_, ?_, ?_] (by kernel_rfl) (by kernel_rfl) rfl (Ext.refl _).drew ?_ ?_
            rotate_left 22
            · iterate 22
                refine StepsT.cons (fun W hW => ?_) ?_
                · skip; first | (refine StepT.off rfl hW ?_; rfl) | (refine StepT.go rfl ?_; go_simp; first | (refine ⟨?_, hW⟩; rfl))
                simp only [Act.put, List.setIfInBounds_toArray, List.set_cons_zero, List.set_cons_succ]
              trivial
            intro W hW
            simp only [putAll, Act.put, List.setIfInBounds_toArray, List.set_cons_zero, List.set_cons_succ]
            have HX2 := Lib.hid (HX.out.trans hW)
            clear hW
            go_wp2
            go_ret
            exact Ret.mk' (by rw [HE.out]; rfl) HX2.out
            -- END G
          case neg =>
            have e0 : ((zs.length : Int) == 0) = false := by rw [beq_eq_false_iff_ne]; omega
            obtain ⟨m, hm⟩ : ∃ m, m + 1 = zs.length := ⟨zs.length - 1, by omega⟩
            have e1 : (zs.length : Int) - 1 = (m : Int) := by omega
            have u1 : IntKind.i64.wrap ((zs.length : Int) - 1) = (m : Int) := by rw [IntWalk.i64_in _ (by omega)]; exact e1
            have im : (m : Int) < (zs.length : Int) := by omega
            obtain ⟨sb, so, hpa, hsl, hsc⟩ := (HRI.out.ext HX.out).2.2 (by omega)
            have c0 := hsc m (by omega)
            subst hpa
            have hz := HNO.out m (by omega)
            rw [show zs.length - 1 = m by omega] at HE
            obtain ⟨z, hzd⟩ : ∃ z, zs.getD m 0 = z := ⟨_, rfl⟩
            rw [hzd] at c0 hz HE
            have hz2 : hasS f.sorts z = true := by simpa using hz
            obtain ⟨hz3, hz4⟩ := hasS_iff.1 hz2
            obtain ⟨p, rfl⟩ := Int.eq_ofNat_of_zero_le hz3
            have ip : p < f.sorts.length := by omega
            obtain ⟨tb, tq, hta, htl, htc⟩ := (HF.out.rt.ext HX.out).2.2 (by omega)
            obtain ⟨_, d1, _, _⟩ := htc p ip
            have HTC := Lib.hid htc
            subst hta
            rw [Int.toNat_natCast] at HE
            have HC0 := Lib.hid c0; have HD1 := Lib.hid d1
            have HRW := Lib.hid (HRD.out.ext HX.out)
            generalize (f.sorts.getD p TS.zero).text = tx at *
            clear hsc htc hz hz2 hzd hz3 c0 d1 hm e1
            by_cases htx : tx = ⟨#[45]⟩
            case neg =>
              -- BEGIN H
              rw [if_pos (.inr (fun e => htx (bytes_ext e)))] at HE
              have e5 : (tx.toList == [45]) = false := by
                have h := str_eq_false htx
                rwa [show (⟨#[45]⟩ : ByteArray).toList = [45] by rw [Go.ByteArray.toList_eq]] at h
              clear htx
              go_upto_region 12 with fail
              refine wp_region_steady (Ext _) [?_, ?_, ?_, ?_, ?_, ?_, ?_, ?_, ?_, ?_, ?_, ?_, ?_, ?_, ?_, ?_, ?_, ?_, ?_, ?_, ?_, ?_] (by kernel_rfl) (by kernel_rfl) rfl (Ext.refl _).drew ?_ ?_
              rotate_left 22
              · iterate 22
                  refine StepsT.cons (fun W hW => ?_) ?_
                  · have y1 := (HRW.out.ext hW).cell 2 (.slice (some ⟨tb, tq, none⟩) f.sorts.length c) rfl; have yl := (HRW.out.ext hW).lt; have y2 := (hW.cell (p := ⟨sb, so + m, none⟩) hsl).trans HC0.out; have y3 := (hW.cell (p := ⟨tb, tq + p * 4 + 1, none⟩) htl).trans HD1.out; have yl2 := Nat.lt_of_lt_of_le hsl hW.size; have yl3 := Nat.lt_of_lt_of_le htl hW.size; first | (refine StepT.off rfl hW ?_; rfl) | (refine StepT.go rfl ?_; go_simp; first | (refine ⟨?_, hW⟩; rfl))
                  simp only [Act.put, List.setIfInBounds_toArray, List.set_cons_zero, List.set_cons_succ]
                trivial
              intro W hW
              simp only [putAll, Act.put, List.setIfInBounds_toArray, List.set_cons_zero, List.set_cons_succ]
              have HX2 := Lib.hid (HX.out.trans hW)
              clear hW
              go_wp2
              go_ret
              exact Ret.mk' (by rw [HE.out]; rfl) HX2.out
              -- END H
            case pos =>
              subst htx
              rw [if_neg (fun h => h.elim (fun h => h0 h) (fun h => h rfl))] at HE
              clear h0
              obtain ⟨i2, hi2⟩ : ∃ i2, i2 = i + 1 := ⟨_, rfl⟩
              rw [← hi2] at HE
              have u2 : IntKind.i64.wrap ((i : Int) + 1) = (i2 : Int) := by rw [IntWalk.i64_in _ (by omega)]; omega
              by_cases hi1 : i2 = ls.length
              case pos =>
                -- BEGIN I
                rw [if_pos (.inl hi1)] at HE
                have e6 : ((i2 : Int) == (ls.length : Int)) = true := by rw [beq_iff_eq]; omega
                clear hi1 hi2
                go_upto_region 12 with fail
                refine wp_region_steady (Ext _) [?_, ?_, ?_, ?_, ?_, ?_, ?_, ?_, ?_, ?_, ?_, ?_, ?_, ?_, ?_, ?_, ?_, ?_, ?_, ?_, ?_, ?_] (by kernel_rfl) (by kernel_rfl) rfl (Ext.refl _).drew ?_ ?_
                rotate_left 22
                · iterate 22
                    refine StepsT.cons (fun W hW => ?_) ?_
                    · have y1 := (HRW.out.ext hW).cell 2 (.slice (some ⟨tb, tq, none⟩) f.sorts.length c) rfl; have yl := (HRW.out.ext hW).lt; have y2 := (hW.cell (p := ⟨sb, so + m, none⟩) hsl).trans HC0.out; have y3 := (hW.cell (p := ⟨tb, tq + p * 4 + 1, none⟩) htl).trans HD1.out; have yl2 := Nat.lt_of_lt_of_le hsl hW.size; have yl3 := Nat.lt_of_lt_of_le htl hW.size; first | (refine StepT.off rfl hW ?_; rfl) | (refine StepT.go rfl ?_; go_simp; first | (refine ⟨?_, hW⟩; rfl))
                    simp only [Act.put, List.setIfInBounds_toArray, List.set_cons_zero, List.set_cons_succ]
                  trivial
                intro W hW
                simp only [putAll, Act.put, List.setIfInBounds_toArray, List.set_cons_zero, List.set_cons_succ]
                have HX2 := Lib.hid (HX.out.trans hW)
                clear hW
                go_wp2
                go_ret
                exact Ret.mk' (by rw [HE.out]; rfl) HX2.out
                -- END I
              case neg =>
                have e6 : ((i2 : Int) == (ls.length : Int)) = false := by rw [beq_eq_false_iff_ne]; omega
                have i7 : (i2 : Int) < (ls.length : Int) := by omega
                obtain ⟨_, c2⟩ := HLC.out i2 (by omega)
                have HR2 := Lib.hid (HR9.out i2 (by omega))
                obtain ⟨⟨m2, X2, xc2, zs2⟩, hx2⟩ : ∃ x, ls.getD i2 LN.zero = x := by exact ⟨_, rfl⟩
                rw [hx2] at c2 HR2 HE
                simp only [SI.val] at c2 HR2 HE
                have HC2 := Lib.hid c2
                have HE0 := HE.out
                simp only [hi1, false_or] at HE0
                clear HE
                have HE := Lib.hid HE0
                clear HE0
                clear hx2 c2 hi1 hi2
                by_cases h20 : zs2.length = 0
                case pos =>
                  -- BEGIN J
                  rw [if_pos h20] at HE
                  have e7 : ((zs2.length : Int) == 0) = true := by rw [beq_iff_eq]; omega
                  clear h20
                  go_upto_region 12 with fail
                  refine wp_region_steady (Ext _) [?_, ?_, ?_, ?_, ?_, ?_, ?_, ?_, ?_, ?_, ?_, ?_, ?_, ?_, ?_, ?_, ?_, ?_, ?_, ?_, ?_, ?_] (by kernel_rfl) (by kernel_rfl) rfl (Ext.refl _).drew ?_ ?_
                  rotate_left 22
                  · iterate 22
                      refine StepsT.cons (fun W hW => ?_) ?_
                      · have y1 := (HRW.out.ext hW).cell 2 (.slice (some ⟨tb, tq, none⟩) f.sorts.length c) rfl; have yl := (HRW.out.ext hW).lt; have y2 := (hW.cell (p := ⟨sb, so + m, none⟩) hsl).trans HC0.out; have y3 := (hW.cell (p := ⟨tb, tq + p * 4 + 1, none⟩) htl).trans HD1.out; have yl2 := Nat.lt_of_lt_of_le hsl hW.size; have yl3 := Nat.lt_of_lt_of_le htl hW.size; first | (refine StepT.off rfl hW ?_; rfl) | (refine StepT.go rfl ?_; go_simp; first | (refine ⟨?_, hW⟩; rfl))
                      simp only [Act.put, List.setIfInBounds_toArray, List.set_cons_zero, List.set_cons_succ]
                    trivial
                  intro W hW
                  simp only [putAll, Act.put, List.setIfInBounds_toArray, List.set_cons_zero, List.set_cons_succ]
                  have HX2 := Lib.hid (HX.out.trans hW)
                  have y5 := (HX2.out.cell (p := ⟨lb, lo + i2 * 2 + 1, none⟩) hlb).trans HC2.out
                  have yl5 := Nat.lt_of_lt_of_le hlb HX2.out.size
                  clear hW
                  go_wp2
                  go_ret
                  exact Ret.mk' (by rw [HE.out]; rfl) HX2.out
                  -- END J
                case neg =>
                  rw [if_neg h20] at HE
                  have e7 : ((zs2.length : Int) == 0) = false := by rw [beq_eq_false_iff_ne]; omega
                  have i8 : (0 : Int) < (zs2.length : Int) := by omega
                  obtain ⟨sb2, so2, hpa2, hsl2, hsc2⟩ := HR2.out.2.2 (by omega)
                  have d2 := hsc2 0 (by omega)
                  subst hpa2
                  obtain ⟨z2, hz2⟩ : ∃ z, zs2.getD 0 0 = z := ⟨_, rfl⟩
                  rw [hz2] at d2 HE
                  rw [Nat.add_zero] at d2
                  have HD2 := Lib.hid d2
                  have CHZ := Lib.hid fun W h => CH.out W z2 h
                  clear hsc2 hz2 d2 h20
                  cases hh : hasS f.sorts z2
                  case false =>
                    -- BEGIN K
                    rw [hh, if_pos (.inl rfl)] at HE
                    rw [hh] at CHZ
                    clear hh
                    go_upto_region 12 with fail
                    refine wp_region_steady (Ext _) [?_, ?_, ?_, ?_, ?_, ?_, ?_, ?_, ?_, ?_, ?_, ?_, ?_, ?_, ?_, ?_, ?_, ?_, ?_, ?_, ?_, ?_] (by kernel_rfl) (by kernel_rfl) rfl (Ext.refl _).drew ?_ ?_
                    rotate_left 22
                    · iterate 22
                        refine StepsT.cons (fun W hW => ?_) ?_
                        · have y1 := (HRW.out.ext hW).cell 2 (.slice (some ⟨tb, tq, none⟩) f.sorts.length c) rfl; have yl := (HRW.out.ext hW).lt; have y2 := (hW.cell (p := ⟨sb, so + m, none⟩) hsl).trans HC0.out; have y3 := (hW.cell (p := ⟨tb, tq + p * 4 + 1, none⟩) htl).trans HD1.out; have yl2 := Nat.lt_of_lt_of_le hsl hW.size; have yl3 := Nat.lt_of_lt_of_le htl hW.size; first | (refine StepT.off rfl hW ?_; rfl) | (refine StepT.go rfl ?_; go_simp; first | (refine ⟨?_, hW⟩; rfl))
                        simp only [Act.put, List.setIfInBounds_toArray, List.set_cons_zero, List.set_cons_succ]
                      trivial
                    intro W hW
                    simp only [putAll, Act.put, List.setIfInBounds_toArray, List.set_cons_zero, List.set_cons_succ]
                    have HX2 := Lib.hid (HX.out.trans hW)
                    have y5 := (HX2.out.cell (p := ⟨lb, lo + i2 * 2 + 1, none⟩) hlb).trans HC2.out
                    have yl5 := Nat.lt_of_lt_of_le hlb HX2.out.size
                    have y6 := (HX2.out.cell (p := ⟨sb2, so2, none⟩) hsl2).trans HD2.out
                    have yl6 := Nat.lt_of_lt_of_le hsl2 HX2.out.size
                    clear hW
                    go_wp2_with (first | (go_at_call 123; refine Calls.mono (CHZ.out _ (HRD.out.ext (HX2.out.trans (by repeat (first | exact Ext.refl _ | assumption | refine Ext.alloc ?_ _ | refine Ext.drew ?_ | refine Ext.drewN ?_ _ | (refine Ext.setCell ?_ (by simp <;> omega) _) | refine Ext.trans ?_ (by assumption)))))) ?_; rintro e w1 ⟨rfl, rfl⟩))
                    go_ret
                    exact Ret.mk' (by rw [HE.out]; rfl) HX2.out
                    -- END K
                  case true =>
                    obtain ⟨hy3, hy4⟩ := hasS_iff.1 hh
                    obtain ⟨p2, rfl⟩ := Int.eq_ofNat_of_zero_le hy3
                    have ip2 : p2 < f.sorts.length := by omega
                    obtain ⟨_, _, d3, _⟩ := HTC.out p2 ip2
                    rw [hh, Int.toNat_natCast] at HE
                    rw [hh] at CHZ
                    generalize (f.sorts.getD p2 TS.zero).kind = kd at *
                    have HD3 := Lib.hid d3
                    clear hh hy3 d3
                    have ip2' : (p2 : Int) < (f.sorts.length : Int) := by omega
                    by_cases hk3 : kd = 3
                    case pos =>
                      -- BEGIN L
                      rw [if_pos (.inr hk3)] at HE
                      have e8 : (kd == 3) = true := by rw [beq_iff_eq]; exact hk3
                      clear hk3
                      go_upto_region 12 with fail
                      refine wp_region_steady (Ext _) [?_, ?_, ?_, ?_, ?_, ?_, ?_, ?_, ?_, ?_, ?_, ?_, ?_, ?_, ?_, ?_, ?_, ?_, ?_, ?_, ?_, ?_] (by kernel_rfl) (by kernel_rfl) rfl (Ext.refl _).drew ?_ ?_
                      rotate_left 22
                      · iterate 22
                          refine StepsT.cons (fun W hW => ?_) ?_
                          · have y1 := (HRW.out.ext hW).cell 2 (.slice (some ⟨tb, tq, none⟩) f.sorts.length c) rfl; have yl := (HRW.out.ext hW).lt; have y2 := (hW.cell (p := ⟨sb, so + m, none⟩) hsl).trans HC0.out; have y3 := (hW.cell (p := ⟨tb, tq + p * 4 + 1, none⟩) htl).trans HD1.out; have yl2 := Nat.lt_of_lt_of_le hsl hW.size; have yl3 := Nat.lt_of_lt_of_le htl hW.size; first | (refine StepT.off rfl hW ?_; rfl) | (refine StepT.go rfl ?_; go_simp; first | (refine ⟨?_, hW⟩; rfl))
                          simp only [Act.put, List.setIfInBounds_toArray, List.set_cons_zero, List.set_cons_succ]
                        trivial
                      intro W hW
                      simp only [putAll, Act.put, List.setIfInBounds_toArray, List.set_cons_zero, List.set_cons_succ]
                      have HX2 := Lib.hid (HX.out.trans hW)
                      have y5 := (HX2.out.cell (p := ⟨lb, lo + i2 * 2 + 1, none⟩) hlb).trans HC2.out
                      have yl5 := Nat.lt_of_lt_of_le hlb HX2.out.size
                      have y6 := (HX2.out.cell (p := ⟨sb2, so2, none⟩) hsl2).trans HD2.out
                      have yl6 := Nat.lt_of_lt_of_le hsl2 HX2.out.size
                      have y7 := (HRD.out.ext HX2.out).cell 2 (.slice (some ⟨tb, tq, none⟩) f.sorts.length c) rfl
                      have yl7 := (HRD.out.ext HX2.out).lt
                      have y8 := (hW.cell (p := ⟨tb, tq + p2 * 4 + 2, none⟩) htl).trans HD3.out
                      have yl8 := Nat.lt_of_lt_of_le htl hW.size
                      clear hW
                      go_wp2_with (first | (go_at_call 123; refine Calls.mono (CHZ.out _ (HRD.out.ext (HX2.out.trans (by repeat (first | exact Ext.refl _ | assumption | refine Ext.alloc ?_ _ | refine Ext.drew ?_ | refine Ext.drewN ?_ _ | (refine Ext.setCell ?_ (by simp <;> omega) _) | refine Ext.trans ?_ (by assumption)))))) ?_; rintro e w1 ⟨rfl, rfl⟩))
                      go_ret
                      exact Ret.mk' (by rw [HE.out]; rfl) HX2.out
                      -- END L
                    case neg =>
                      -- BEGIN M
                      rw [if_neg (fun h => h.elim (fun h => absurd h (by decide)) (fun h => hk3 h))] at HE
                      have e8 : (kd == 3) = false := by rw [beq_eq_false_iff_ne]; exact hk3
                      clear hk3
                      go_upto_region 12 with fail
                      refine wp_region_steady (Ext _) [?_, ?_, ?_, ?_, ?_, ?_, ?_, ?_, ?_, ?_, ?_, ?_, ?_, ?_, ?_, ?_, ?_, ?_, ?_, ?_, ?_, ?_] (by kernel_rfl) (by kernel_rfl) rfl (Ext.refl _).drew ?_ ?_
                      rotate_left 22
                      · iterate 22
                          refine StepsT.cons (fun W hW => ?_) ?_
                          · have y1 := (HRW.out.ext hW).cell 2 (.slice (some ⟨tb, tq, none⟩) f.sorts.length c) rfl; have yl := (HRW.out.ext hW).lt; have y2 := (hW.cell (p := ⟨sb, so + m, none⟩) hsl).trans HC0.out; have y3 := (hW.cell (p := ⟨tb, tq + p * 4 + 1, none⟩) htl).trans HD1.out; have yl2 := Nat.lt_of_lt_of_le hsl hW.size; have yl3 := Nat.lt_of_lt_of_le htl hW.size; first | (refine StepT.off rfl hW ?_; rfl) | (refine StepT.go rfl ?_; go_simp; first | (refine ⟨?_, hW⟩; rfl))
                          simp only [Act.put, List.setIfInBounds_toArray, List.set_cons_zero, List.set_cons_succ]
                        trivial
                      intro W hW
                      simp only [putAll, Act.put, List.setIfInBounds_toArray, List.set_cons_zero, List.set_cons_succ]
                      have HX2 := Lib.hid (HX.out.trans hW)
                      have y5 := (HX2.out.cell (p := ⟨lb, lo + i2 * 2 + 1, none⟩) hlb).trans HC2.out
                      have yl5 := Nat.lt_of_lt_of_le hlb HX2.out.size
                      have y6 := (HX2.out.cell (p := ⟨sb2, so2, none⟩) hsl2).trans HD2.out
                      have yl6 := Nat.lt_of_lt_of_le hsl2 HX2.out.size
                      have y7 := (HRD.out.ext HX2.out).cell 2 (.slice (some ⟨tb, tq, none⟩) f.sorts.length c) rfl
                      have yl7 := (HRD.out.ext HX2.out).lt
                      have y8 := (hW.cell (p := ⟨tb, tq + p2 * 4 + 2, none⟩) htl).trans HD3.out
                      have yl8 := Nat.lt_of_lt_of_le htl hW.size
                      clear hW
                      go_wp2_with (first | (go_at_call 123; refine Calls.mono (CHZ.out _ (HRD.out.ext (HX2.out.trans (by repeat (first | exact Ext.refl _ | assumption | refine Ext.alloc ?_ _ | refine Ext.drew ?_ | refine Ext.drewN ?_ _ | (refine Ext.setCell ?_ (by simp <;> omega) _) | refine Ext.trans ?_ (by assumption)))))) ?_; rintro e w1 ⟨rfl, rfl⟩))
                      go_ret
                      exact Ret.mk' (by rw [HE.out]; rfl) HX2.out
                      -- END M
end Go.Proofs.YtccdnieoaejgdaaGreatDoor
