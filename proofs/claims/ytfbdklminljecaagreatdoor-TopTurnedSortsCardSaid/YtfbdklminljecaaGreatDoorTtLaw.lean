/-
  Walk: TopTurnedSorts returns true.
-/
import Derived.Test.YtfbdklminljecaaGreatDoorTtMem
import Derived.Test.YtfbdklminljecaaGreatDoorTtFacts
import Derived.Test.YtfbdklminljecaaGreatDoorTopTurnLaw
import Derived.Test.YtfbdklminljecaaGreatDoorMostSt
import Derived.Test.YtfbdklminljecaaGreatDoorLnNeed
import Derived.Test.YtfbdklminljecaaGreatDoorGJ
import Derived.Test.YtfbdklminljecaaGreatDoorPgCol
import Derived.Test.YtfbdklminljecaaGreatDoorGE
import Derived.Test.YtfbdklminljecaaGreatDoorCopy
namespace Go.Proofs.YtfbdklminljecaaGreatDoor.topturned
open Go.RowKit
attribute [local go_sem ↓] Go.wp_at_zero Go.wp_at_succ
attribute [local go_sem] stateAt vu known List.map_cons List.map_nil Option.getD_some

set_option maxRecDepth 100000 in
set_option maxHeartbeats 32000000 in
theorem walk (f : FT) (A : Option Addr) (c : Nat) (X : Option Addr) (cx : Nat) (cs : List Int) (B : Option Addr) (d : Nat) (rows : List SI) (w : World) (hf : FR w A c f) (hx : RI w X cs.length cs) (h : RL w B rows.length rows) (hT : FigT w) :
    Calls Tryz.prog 3 #[f.val A c, .slice X cs.length cx, .slice B rows.length d] w (Ret (.bool true) w) := by
  have hbig := h.2.1
  have hbx := hx.big
  have CM := Lib.hid (fun W h => madeUp_any W h)
  have cFW := fun W h => few_any f A c W h
  have cCC := fun W h1 h2 => rCheckCase_any f A c X cx cs W h1 h2
  have HTF := Lib.hid hT; have HF := Lib.hid hf; have HRX := Lib.hid hx; have HRR := Lib.hid h
  clear hT hf hx h
  by_cases hfw : fewB f = true
  case neg =>
    -- BEGIN A1
    rw [Bool.not_eq_true] at hfw
    rw [hfw] at cFW
    obtain ⟨name, body, ss⟩ := f
    simp only [FT.val] at *
    have CFW := Lib.hid cFW; clear cFW hfw cCC
    go_enter Tryz.func3, Tryz.ntmps3
    have HB := Lib.hid (Blk.new w 24 #[.string name, .int .i64 body, .slice A ss.length c])
    have HX : Hid (Ext w (w.alloc (.cells #[.string name, .int .i64 body, .slice A ss.length c] 24))) := Lib.hid (by repeat first | exact yx0 _ | assumption | refine yxa ?_ _ | refine yxd ?_ | refine yxn ?_ _ | refine yxs ?_ (by simp <;> omega) _ | refine yxt ?_ (by assumption))
    obtain ⟨k0, k1, k2, kl⟩ := HB.out.c3
    go_wp2_with (first | (go_at_call 4; refine Calls.mono (CM.out _ (HTF.out.ext (HX.out.trans (by repeat first | exact yx0 _ | assumption | refine yxa ?_ _ | refine yxd ?_ | refine yxn ?_ _ | refine yxs ?_ (by simp <;> omega) _ | refine yxt ?_ (by assumption))))) ?_; rintro e9 w1 ⟨rfl, hb⟩; have hq := yxx HX.out (by repeat first | exact yx0 _ | assumption | refine yxa ?_ _ | refine yxd ?_ | refine yxn ?_ _ | refine yxs ?_ (by simp <;> omega) _ | refine yxt ?_ (by assumption)) hb; have HB9 := Lib.hid (HB.out.ext hq); have HX9 := Lib.hid (HX.out.trans hq); clear k0 k1 k2 kl HB HX; have HB := HB9; have HX := HX9; clear HB9 HX9; obtain ⟨k0, k1, k2, kl⟩ := HB.out.c3; (try (have q9 := Lib.hid (HW.out.trans hq); clear HW; have HW := q9; clear q9)); clear hq; clear hb) | (go_at_call 5; refine Calls.mono (CFW.out _ (HF.out.ext (HX.out.trans (by repeat first | exact yx0 _ | assumption | refine yxa ?_ _ | refine yxd ?_ | refine yxn ?_ _ | refine yxs ?_ (by simp <;> omega) _ | refine yxt ?_ (by assumption))))) ?_; rintro e9 w1 ⟨rfl, hb⟩; have hq := yxx HX.out (by repeat first | exact yx0 _ | assumption | refine yxa ?_ _ | refine yxd ?_ | refine yxn ?_ _ | refine yxs ?_ (by simp <;> omega) _ | refine yxt ?_ (by assumption)) hb; have HB9 := Lib.hid (HB.out.ext hq); have HX9 := Lib.hid (HX.out.trans hq); clear k0 k1 k2 kl HB HX; have HB := HB9; have HX := HX9; clear HB9 HX9; obtain ⟨k0, k1, k2, kl⟩ := HB.out.c3; (try (have q9 := Lib.hid (HW.out.trans hq); clear HW; have HW := q9; clear q9)); clear hq; clear hb))
    go_ret
    exact Ret.mk' (by first | rfl | simp) (HX.out.trans (by repeat first | exact yx0 _ | assumption | refine yxa ?_ _ | refine yxd ?_ | refine yxn ?_ _ | refine yxs ?_ (by simp <;> omega) _ | refine yxt ?_ (by assumption)))
    -- END A1
  case pos =>
  rw [hfw] at cFW
  by_cases hcc : caseErr f cs = 0
  case neg =>
    -- BEGIN A2
    have e0 : (caseErr f cs != 0) = true := by simpa using hcc
    generalize caseErr f cs = z at *
    obtain ⟨name, body, ss⟩ := f
    simp only [FT.val] at *
    have CFW := Lib.hid cFW; have CCC := Lib.hid cCC; clear cFW hfw cCC hcc
    go_enter Tryz.func3, Tryz.ntmps3
    have HB := Lib.hid (Blk.new w 24 #[.string name, .int .i64 body, .slice A ss.length c])
    have HX : Hid (Ext w (w.alloc (.cells #[.string name, .int .i64 body, .slice A ss.length c] 24))) := Lib.hid (by repeat first | exact yx0 _ | assumption | refine yxa ?_ _ | refine yxd ?_ | refine yxn ?_ _ | refine yxs ?_ (by simp <;> omega) _ | refine yxt ?_ (by assumption))
    obtain ⟨k0, k1, k2, kl⟩ := HB.out.c3
    go_wp2_with (first | (go_at_call 4; refine Calls.mono (CM.out _ (HTF.out.ext (HX.out.trans (by repeat first | exact yx0 _ | assumption | refine yxa ?_ _ | refine yxd ?_ | refine yxn ?_ _ | refine yxs ?_ (by simp <;> omega) _ | refine yxt ?_ (by assumption))))) ?_; rintro e9 w1 ⟨rfl, hb⟩; have hq := yxx HX.out (by repeat first | exact yx0 _ | assumption | refine yxa ?_ _ | refine yxd ?_ | refine yxn ?_ _ | refine yxs ?_ (by simp <;> omega) _ | refine yxt ?_ (by assumption)) hb; have HB9 := Lib.hid (HB.out.ext hq); have HX9 := Lib.hid (HX.out.trans hq); clear k0 k1 k2 kl HB HX; have HB := HB9; have HX := HX9; clear HB9 HX9; obtain ⟨k0, k1, k2, kl⟩ := HB.out.c3; (try (have q9 := Lib.hid (HW.out.trans hq); clear HW; have HW := q9; clear q9)); clear hq; clear hb) | (go_at_call 5; refine Calls.mono (CFW.out _ (HF.out.ext (HX.out.trans (by repeat first | exact yx0 _ | assumption | refine yxa ?_ _ | refine yxd ?_ | refine yxn ?_ _ | refine yxs ?_ (by simp <;> omega) _ | refine yxt ?_ (by assumption))))) ?_; rintro e9 w1 ⟨rfl, hb⟩; have hq := yxx HX.out (by repeat first | exact yx0 _ | assumption | refine yxa ?_ _ | refine yxd ?_ | refine yxn ?_ _ | refine yxs ?_ (by simp <;> omega) _ | refine yxt ?_ (by assumption)) hb; have HB9 := Lib.hid (HB.out.ext hq); have HX9 := Lib.hid (HX.out.trans hq); clear k0 k1 k2 kl HB HX; have HB := HB9; have HX := HX9; clear HB9 HX9; obtain ⟨k0, k1, k2, kl⟩ := HB.out.c3; (try (have q9 := Lib.hid (HW.out.trans hq); clear HW; have HW := q9; clear q9)); clear hq; clear hb) | (go_at_call 6; refine Calls.mono (CCC.out _ (HF.out.ext (HX.out.trans (by repeat first | exact yx0 _ | assumption | refine yxa ?_ _ | refine yxd ?_ | refine yxn ?_ _ | refine yxs ?_ (by simp <;> omega) _ | refine yxt ?_ (by assumption)))) (HRX.out.ext (HX.out.trans (by repeat first | exact yx0 _ | assumption | refine yxa ?_ _ | refine yxd ?_ | refine yxn ?_ _ | refine yxs ?_ (by simp <;> omega) _ | refine yxt ?_ (by assumption))))) ?_; rintro e9 w1 ⟨rfl, hb⟩; have hq := yxx HX.out (by repeat first | exact yx0 _ | assumption | refine yxa ?_ _ | refine yxd ?_ | refine yxn ?_ _ | refine yxs ?_ (by simp <;> omega) _ | refine yxt ?_ (by assumption)) hb; have HB9 := Lib.hid (HB.out.ext hq); have HX9 := Lib.hid (HX.out.trans hq); clear k0 k1 k2 kl HB HX; have HB := HB9; have HX := HX9; clear HB9 HX9; obtain ⟨k0, k1, k2, kl⟩ := HB.out.c3; (try (have q9 := Lib.hid (HW.out.trans hq); clear HW; have HW := q9; clear q9)); clear hq; clear hb))
    go_ret
    exact Ret.mk' (by first | rfl | simp) (HX.out.trans (by repeat first | exact yx0 _ | assumption | refine yxa ?_ _ | refine yxd ?_ | refine yxn ?_ _ | refine yxs ?_ (by simp <;> omega) _ | refine yxt ?_ (by assumption)))
    -- END A2
  case pos =>
  rw [hcc] at cCC
  by_cases hln : 4 < rows.length
  case pos =>
    -- BEGIN A3
    have i1 : (4 : Int) < (rows.length : Int) := by omega
    obtain ⟨name, body, ss⟩ := f
    simp only [FT.val] at *
    have CFW := Lib.hid cFW; have CCC := Lib.hid cCC; clear cFW hfw cCC hcc
    go_enter Tryz.func3, Tryz.ntmps3
    have HB := Lib.hid (Blk.new w 24 #[.string name, .int .i64 body, .slice A ss.length c])
    have HX : Hid (Ext w (w.alloc (.cells #[.string name, .int .i64 body, .slice A ss.length c] 24))) := Lib.hid (by repeat first | exact yx0 _ | assumption | refine yxa ?_ _ | refine yxd ?_ | refine yxn ?_ _ | refine yxs ?_ (by simp <;> omega) _ | refine yxt ?_ (by assumption))
    obtain ⟨k0, k1, k2, kl⟩ := HB.out.c3
    go_wp2_with (first | (go_at_call 4; refine Calls.mono (CM.out _ (HTF.out.ext (HX.out.trans (by repeat first | exact yx0 _ | assumption | refine yxa ?_ _ | refine yxd ?_ | refine yxn ?_ _ | refine yxs ?_ (by simp <;> omega) _ | refine yxt ?_ (by assumption))))) ?_; rintro e9 w1 ⟨rfl, hb⟩; have hq := yxx HX.out (by repeat first | exact yx0 _ | assumption | refine yxa ?_ _ | refine yxd ?_ | refine yxn ?_ _ | refine yxs ?_ (by simp <;> omega) _ | refine yxt ?_ (by assumption)) hb; have HB9 := Lib.hid (HB.out.ext hq); have HX9 := Lib.hid (HX.out.trans hq); clear k0 k1 k2 kl HB HX; have HB := HB9; have HX := HX9; clear HB9 HX9; obtain ⟨k0, k1, k2, kl⟩ := HB.out.c3; (try (have q9 := Lib.hid (HW.out.trans hq); clear HW; have HW := q9; clear q9)); clear hq; clear hb) | (go_at_call 5; refine Calls.mono (CFW.out _ (HF.out.ext (HX.out.trans (by repeat first | exact yx0 _ | assumption | refine yxa ?_ _ | refine yxd ?_ | refine yxn ?_ _ | refine yxs ?_ (by simp <;> omega) _ | refine yxt ?_ (by assumption))))) ?_; rintro e9 w1 ⟨rfl, hb⟩; have hq := yxx HX.out (by repeat first | exact yx0 _ | assumption | refine yxa ?_ _ | refine yxd ?_ | refine yxn ?_ _ | refine yxs ?_ (by simp <;> omega) _ | refine yxt ?_ (by assumption)) hb; have HB9 := Lib.hid (HB.out.ext hq); have HX9 := Lib.hid (HX.out.trans hq); clear k0 k1 k2 kl HB HX; have HB := HB9; have HX := HX9; clear HB9 HX9; obtain ⟨k0, k1, k2, kl⟩ := HB.out.c3; (try (have q9 := Lib.hid (HW.out.trans hq); clear HW; have HW := q9; clear q9)); clear hq; clear hb) | (go_at_call 6; refine Calls.mono (CCC.out _ (HF.out.ext (HX.out.trans (by repeat first | exact yx0 _ | assumption | refine yxa ?_ _ | refine yxd ?_ | refine yxn ?_ _ | refine yxs ?_ (by simp <;> omega) _ | refine yxt ?_ (by assumption)))) (HRX.out.ext (HX.out.trans (by repeat first | exact yx0 _ | assumption | refine yxa ?_ _ | refine yxd ?_ | refine yxn ?_ _ | refine yxs ?_ (by simp <;> omega) _ | refine yxt ?_ (by assumption))))) ?_; rintro e9 w1 ⟨rfl, hb⟩; have hq := yxx HX.out (by repeat first | exact yx0 _ | assumption | refine yxa ?_ _ | refine yxd ?_ | refine yxn ?_ _ | refine yxs ?_ (by simp <;> omega) _ | refine yxt ?_ (by assumption)) hb; have HB9 := Lib.hid (HB.out.ext hq); have HX9 := Lib.hid (HX.out.trans hq); clear k0 k1 k2 kl HB HX; have HB := HB9; have HX := HX9; clear HB9 HX9; obtain ⟨k0, k1, k2, kl⟩ := HB.out.c3; (try (have q9 := Lib.hid (HW.out.trans hq); clear HW; have HW := q9; clear q9)); clear hq; clear hb))
    go_ret
    exact Ret.mk' (by first | rfl | simp) (HX.out.trans (by repeat first | exact yx0 _ | assumption | refine yxa ?_ _ | refine yxd ?_ | refine yxn ?_ _ | refine yxs ?_ (by simp <;> omega) _ | refine yxt ?_ (by assumption)))
    -- END A3
  case neg =>
  have i1 : ¬ (4 : Int) < (rows.length : Int) := by omega
  have hck : (chk f).2 = 0 := by
    unfold caseErr at hcc
    by_cases hh : (chk f).2 = 0
    · exact hh
    · rw [if_pos hh] at hcc; exact absurd hcc hh
  have CLE := Lib.hid (fun E e zs W h1 h2 => rListErr_any f A c E e zs W h1 h2)
  have CNE := Lib.hid (fun E e ls W h1 h2 => pNeedOf_any f A c E e ls W h1 h2)
  obtain ⟨name, body, ss⟩ := f
  simp only [FT.val] at *
  have CFW := Lib.hid cFW; have CCC := Lib.hid cCC; clear cFW cCC
  have HFW := Lib.hid hfw; have HCC := Lib.hid hcc; have HCK := Lib.hid hck
  clear hfw hcc hck
  go_enter Tryz.func3, Tryz.ntmps3
  have HB := Lib.hid (Blk.new w 24 #[.string name, .int .i64 body, .slice A ss.length c])
  have HX : Hid (Ext w (w.alloc (.cells #[.string name, .int .i64 body, .slice A ss.length c] 24))) := Lib.hid (by repeat first | exact yx0 _ | assumption | refine yxa ?_ _ | refine yxd ?_ | refine yxn ?_ _ | refine yxs ?_ (by simp <;> omega) _ | refine yxt ?_ (by assumption))
  obtain ⟨k0, k1, k2, kl⟩ := HB.out.c3
  go_upto_region 5 with (first | (go_at_call 4; refine Calls.mono (CM.out _ (HTF.out.ext (HX.out.trans (by repeat first | exact yx0 _ | assumption | refine yxa ?_ _ | refine yxd ?_ | refine yxn ?_ _ | refine yxs ?_ (by simp <;> omega) _ | refine yxt ?_ (by assumption))))) ?_; rintro e9 w1 ⟨rfl, hb⟩; have hq := yxx HX.out (by repeat first | exact yx0 _ | assumption | refine yxa ?_ _ | refine yxd ?_ | refine yxn ?_ _ | refine yxs ?_ (by simp <;> omega) _ | refine yxt ?_ (by assumption)) hb; have HB9 := Lib.hid (HB.out.ext hq); have HX9 := Lib.hid (HX.out.trans hq); clear k0 k1 k2 kl HB HX; have HB := HB9; have HX := HX9; clear HB9 HX9; obtain ⟨k0, k1, k2, kl⟩ := HB.out.c3; (try (have q9 := Lib.hid (HW.out.trans hq); clear HW; have HW := q9; clear q9)); clear hq; clear hb) | (go_at_call 5; refine Calls.mono (CFW.out _ (HF.out.ext (HX.out.trans (by repeat first | exact yx0 _ | assumption | refine yxa ?_ _ | refine yxd ?_ | refine yxn ?_ _ | refine yxs ?_ (by simp <;> omega) _ | refine yxt ?_ (by assumption))))) ?_; rintro e9 w1 ⟨rfl, hb⟩; have hq := yxx HX.out (by repeat first | exact yx0 _ | assumption | refine yxa ?_ _ | refine yxd ?_ | refine yxn ?_ _ | refine yxs ?_ (by simp <;> omega) _ | refine yxt ?_ (by assumption)) hb; have HB9 := Lib.hid (HB.out.ext hq); have HX9 := Lib.hid (HX.out.trans hq); clear k0 k1 k2 kl HB HX; have HB := HB9; have HX := HX9; clear HB9 HX9; obtain ⟨k0, k1, k2, kl⟩ := HB.out.c3; (try (have q9 := Lib.hid (HW.out.trans hq); clear HW; have HW := q9; clear q9)); clear hq; clear hb) | (go_at_call 6; refine Calls.mono (CCC.out _ (HF.out.ext (HX.out.trans (by repeat first | exact yx0 _ | assumption | refine yxa ?_ _ | refine yxd ?_ | refine yxn ?_ _ | refine yxs ?_ (by simp <;> omega) _ | refine yxt ?_ (by assumption)))) (HRX.out.ext (HX.out.trans (by repeat first | exact yx0 _ | assumption | refine yxa ?_ _ | refine yxd ?_ | refine yxn ?_ _ | refine yxs ?_ (by simp <;> omega) _ | refine yxt ?_ (by assumption))))) ?_; rintro e9 w1 ⟨rfl, hb⟩; have hq := yxx HX.out (by repeat first | exact yx0 _ | assumption | refine yxa ?_ _ | refine yxd ?_ | refine yxn ?_ _ | refine yxs ?_ (by simp <;> omega) _ | refine yxt ?_ (by assumption)) hb; have HB9 := Lib.hid (HB.out.ext hq); have HX9 := Lib.hid (HX.out.trans hq); clear k0 k1 k2 kl HB HX; have HB := HB9; have HX := HX9; clear HB9 HX9; obtain ⟨k0, k1, k2, kl⟩ := HB.out.c3; (try (have q9 := Lib.hid (HW.out.trans hq); clear HW; have HW := q9; clear q9)); clear hq; clear hb))
  go_upto_block 8 with fail
  obtain ⟨wq, hwq⟩ : ∃ wq, w1.alloc (.cells #[.slice X cs.length cx, .slice none 0 0] 32) = wq := ⟨_, rfl⟩
  have hqx : Ext w1 wq := by rw [← hwq]; exact (by repeat first | exact yx0 _ | assumption | refine yxa ?_ _ | refine yxd ?_ | refine yxn ?_ _ | refine yxs ?_ (by simp <;> omega) _ | refine yxt ?_ (by assumption))
  have HL0 : Hid (LpT w #[.string name, .int .i64 body, .slice A ss.length c] w1.heap.size (.slice X cs.length cx) ss.length rows 0 (.slice none 0 0) (.slice none 0 0) [] wq) := Lib.hid
    ⟨HX.out.trans hqx, HB.out.ext hqx, by rw [← hwq]; exact Blk.new _ _ _, OwnLN.nil _ _, OwnL.nil _ _, fun r hr => (by cases hr), rfl, fun i hi => absurd hi (by omega), fun i hi => absurd hi (by omega)⟩
  rw [hwq]
  have HX1 := HX
  clear hwq hqx k0 k1 k2 kl HB HX
  have HSB : Hid (w.heap.size ≤ w1.heap.size) := Lib.hid HX1.out.size
  generalize w1.heap.size = sb at *
  go_loopw [7, 9, 10, 11, 12] (fun vL v9 _ _ _ wr => ∃ (k : Nat) (vN : Value) (tk : List SI), k ≤ rows.length ∧ v9 = .int .i64 (k : Int) ∧ Hid (LpT w #[.string name, .int .i64 body, .slice A ss.length c] sb (.slice X cs.length cx) ss.length rows k vL vN tk wr)) (fun _ v9 _ _ _ _ => rows.length - (intOf v9).toNat)
  case atStart => exact ⟨0, _, _, Nat.zero_le _, rfl, HL0⟩
  case round =>
    obtain ⟨k, vN, tk, hk, rfl, HL⟩ := hrel
    clear HL0
    have HB := Lib.hid HL.out.fr; have HX := Lib.hid HL.out.ext
    obtain ⟨k0, k1, k2, kl⟩ := HB.out.c3
    by_cases hlt : k < rows.length
    case neg =>
      -- BEGIN E0
      obtain rfl : k = rows.length := by omega
      have hN4 : rows.length ≤ 4 := by omega
      have hg := HL.out.good
      have hck := HCK.out; have hcc := HCC.out

      obtain ⟨hcl, hc0⟩ := counts_zero (case_zero hcc).2
      obtain ⟨LA, lc, hvL, hRL⟩ := HL.out.lines HRR.out (by omega)
      obtain ⟨NA, nc, hvN, hRN⟩ := HL.out.needs (by omega)
      have hln := HL.out.ln
      have hnd := HL.out.nd
      have hst := HL.out.st
      subst hvL hvN
      have f1 := tt_needE (f := ⟨name, body, ss⟩) hck hN4 hg
      have f2 := tt_needL (f := ⟨name, body, ss⟩) hck hN4 hg
      have f3 := tt_lack (f := ⟨name, body, ss⟩) hcc hN4 hg
      have f4 := tt_turn (f := ⟨name, body, ss⟩) hck hcc hN4 hg
      have cNE := fun W h1 h2 => CNE.out LA lc (lnK rows rows.length) W h1 h2
      rw [f1, f2] at cNE
      have hlen := lnK_len (rows := rows) (Nat.le_refl _)
      simp only [hlen] at cNE
      have hndl := needTo_len ss.length (allZ (lnK rows rows.length) rows.length) (allZ (lnK rows rows.length) rows.length).length
      have hsum := turned_sum (fun j hj => (hc0 j hj).1) (fun i hi k hk => by have h9 := tt_ix (f := ⟨name, body, ss⟩) hg i hi k hk; rw [hcl]; exact h9)
      rw [hlen, hcl] at hsum
      simp only at f3 f4 hsum hcl
      have hbd := lack_bd (f := ⟨name, body, ss⟩) (cs := cs) (zs := allZ (lnK rows rows.length) rows.length) (by have := tt_all (f := ⟨name, body, ss⟩) hN4 hg; omega) (fun j hj => (hc0 j hj).1) hcl
      have hstd := tt_stand (f := ⟨name, body, ss⟩) (s := ⟨X, cx, cs, NA, nc, tk⟩) hck hcc hN4 hg rfl (fun j hj => (hc0 j hj).1) hcl hln hnd
      have cMS := fun W h1 h2 => pMost_any ⟨name, body, ss⟩ A c ⟨X, cx, cs, NA, nc, tk⟩ W h1 h2
      rw [hstd.1] at cMS
      have hstd := hstd.2
      generalize mostV ⟨name, body, ss⟩ ⟨X, cx, cs, NA, nc, tk⟩ = set at *
      have CMS := Lib.hid cMS
      clear cMS
      have hrich := fun J hj => tt_rich (f := ⟨name, body, ss⟩) (J := J) hck hN4 hg (fun j hj => (hc0 j hj).1) hcl hj
      generalize hT : (trTo (lnK rows rows.length) cs rows.length).2 = T at *
      generalize hND : needTo ss.length (allZ (lnK rows rows.length) rows.length) (allZ (lnK rows rows.length) rows.length).length = nd at *
      generalize hLK : zipK lacksI cs nd = lack at *
      have cLK := fun Y cy W h1 h2 h3 => lacking_any ⟨name, body, ss⟩ A c X cx Y cy cs nd W h1 h2 h3
      rw [f3] at cLK
      have cTU := fun W h1 h2 h3 => turned_any ⟨name, body, ss⟩ A c X cx cs LA lc (lnK rows rows.length) W h1 h2 h3
      rw [f4.1, f4.2] at cTU
      have cJO := fun Y cy W h1 h2 h3 => joined_any ⟨name, body, ss⟩ A c X cx Y cy cs lack W h1 h2 h3
      have HRI9 := Lib.hid hrich
      have HSTD := Lib.hid hstd
      clear hstd
      clear hrich
      simp only [hlen, FT.val] at cTU cLK cJO
      rw [hlen] at hRL
      have CNL := Lib.hid cNE; have CLK := Lib.hid cLK; have CTU := Lib.hid cTU
      have HLS := Lib.hid hRL; have HNS := Lib.hid hRN; have HST := Lib.hid hst; have HW : Hid (Ext wr wr) := Lib.hid (Ext.refl wr)
      have HSUM := Lib.hid hsum; have HG := Lib.hid hg; have HC0 := Lib.hid hc0; have HT := Lib.hid hT; have HND0 := Lib.hid hND; have HLK0 := Lib.hid hLK; have HLEN := Lib.hid hlen; have HNL := Lib.hid hndl; have HCL := Lib.hid hcl; have HLN := Lib.hid hln; have HNN := Lib.hid hnd
      have hlk : lack.length = ss.length := by rw [← hLK, zipK_len, hcl]
      have CJO := Lib.hid cJO; clear cJO
      have HBD := Lib.hid (sum_bd (g := fun j => lack.getD j 0) (n := ss.length) (M := 1000000) hbd)
      have HB1 := Lib.hid hbd
      have hss : ss.length ≤ 1000 := few_123 HFW.out
      clear hbd f1 f2 f3 f4 cNE cLK cTU hRL hRN hst hsum hg hck hcc hc0 hT hND hLK hlen hndl hcl hln hnd HL
      go_upto_region 18 with (go_at_call 8; refine Calls.mono (CNL.out _ (HF.out.ext (HX.out.trans (by repeat first | exact yx0 _ | assumption | refine yxa ?_ _ | refine yxd ?_ | refine yxn ?_ _ | refine yxs ?_ (by simp <;> omega) _ | refine yxt ?_ (by assumption)))) (HLS.out.ext (HW.out.trans (by repeat first | exact yx0 _ | assumption | refine yxa ?_ _ | refine yxd ?_ | refine yxn ?_ _ | refine yxs ?_ (by simp <;> omega) _ | refine yxt ?_ (by assumption))))) ?_; rintro e9 w1 ⟨DA, dc, rfl, hsl, hb⟩; have hq := yxx HX.out (by repeat first | exact yx0 _ | assumption | refine yxa ?_ _ | refine yxd ?_ | refine yxn ?_ _ | refine yxs ?_ (by simp <;> omega) _ | refine yxt ?_ (by assumption)) hb; have HB9 := Lib.hid (HB.out.ext hq); have HX9 := Lib.hid (HX.out.trans hq); clear k0 k1 k2 kl HB HX; have HB := HB9; have HX := HX9; clear HB9 HX9; obtain ⟨k0, k1, k2, kl⟩ := HB.out.c3; (try (have q9 := Lib.hid (HW.out.trans hq); clear HW; have HW := q9; clear q9)); clear hq; have HND := Lib.hid hsl.ri; have HWD := Lib.hid (Ext.refl w1); clear hsl hb)
      go_upto_region 19 with (go_at_call 9; refine Calls.mono (CLK.out _ _ _ (HF.out.ext (HX.out.trans (by repeat first | exact yx0 _ | assumption | refine yxa ?_ _ | refine yxd ?_ | refine yxn ?_ _ | refine yxs ?_ (by simp <;> omega) _ | refine yxt ?_ (by assumption)))) (HRX.out.ext (HX.out.trans (by repeat first | exact yx0 _ | assumption | refine yxa ?_ _ | refine yxd ?_ | refine yxn ?_ _ | refine yxs ?_ (by simp <;> omega) _ | refine yxt ?_ (by assumption)))) (HND.out.ext (by repeat first | exact yx0 _ | assumption | refine yxa ?_ _ | refine yxd ?_ | refine yxn ?_ _ | refine yxs ?_ (by simp <;> omega) _ | refine yxt ?_ (by assumption)))) ?_; rintro e9 w1 ⟨KA, kc, rfl, hsl, hb⟩; have hq := yxx HX.out (by repeat first | exact yx0 _ | assumption | refine yxa ?_ _ | refine yxd ?_ | refine yxn ?_ _ | refine yxs ?_ (by simp <;> omega) _ | refine yxt ?_ (by assumption)) hb; have HB9 := Lib.hid (HB.out.ext hq); have HX9 := Lib.hid (HX.out.trans hq); clear k0 k1 k2 kl HB HX; have HB := HB9; have HX := HX9; clear HB9 HX9; obtain ⟨k0, k1, k2, kl⟩ := HB.out.c3; (try (have q9 := Lib.hid (HW.out.trans hq); clear HW; have HW := q9; clear q9)); clear hq; have HLK := Lib.hid hsl.ri; clear hsl hb HND HWD)
      go_upto_region 22 with (go_at_call 10; refine Calls.mono (CTU.out _ (HF.out.ext (HX.out.trans (by repeat first | exact yx0 _ | assumption | refine yxa ?_ _ | refine yxd ?_ | refine yxn ?_ _ | refine yxs ?_ (by simp <;> omega) _ | refine yxt ?_ (by assumption)))) (HRX.out.ext (HX.out.trans (by repeat first | exact yx0 _ | assumption | refine yxa ?_ _ | refine yxd ?_ | refine yxn ?_ _ | refine yxs ?_ (by simp <;> omega) _ | refine yxt ?_ (by assumption)))) (HLS.out.ext (HW.out.trans (by repeat first | exact yx0 _ | assumption | refine yxa ?_ _ | refine yxd ?_ | refine yxn ?_ _ | refine yxs ?_ (by simp <;> omega) _ | refine yxt ?_ (by assumption))))) ?_; rintro e9 w1 ⟨PA, pc, rfl, _, hb⟩; have HK9 := Lib.hid (HLK.out.ext (Ext.trans (by repeat first | exact yx0 _ | assumption | refine yxa ?_ _ | refine yxd ?_ | refine yxn ?_ _ | refine yxs ?_ (by simp <;> omega) _ | refine yxt ?_ (by assumption)) hb)); clear HLK; have HLK := HK9; clear HK9; have hq := yxx HX.out (by repeat first | exact yx0 _ | assumption | refine yxa ?_ _ | refine yxd ?_ | refine yxn ?_ _ | refine yxs ?_ (by simp <;> omega) _ | refine yxt ?_ (by assumption)) hb; have HB9 := Lib.hid (HB.out.ext hq); have HX9 := Lib.hid (HX.out.trans hq); clear k0 k1 k2 kl HB HX; have HB := HB9; have HX := HX9; clear HB9 HX9; obtain ⟨k0, k1, k2, kl⟩ := HB.out.c3; (try (have q9 := Lib.hid (HW.out.trans hq); clear HW; have HW := q9; clear q9)); clear hq; clear hb)
      go_upto_block 24 with fail
      go_loop [19, 20] (fun v19 v20 => ∃ i : Nat, i ≤ ss.length ∧ v20 = .int .i64 (i : Int) ∧ v19 = .int .i64 (sumTo (fun j => lack.getD j 0) i)) (fun _ v20 => ss.length - (intOf v20).toNat)
      case atStart => exact ⟨0, Nat.zero_le _, rfl, rfl⟩
      case round =>
        obtain ⟨i, hi, rfl, rfl⟩ := hrel
        by_cases hlt : i < ss.length
        case pos =>
          -- BEGIN S1
          obtain ⟨kb, ko, rfl, hkw, hkc⟩ := HLK.out.2.2 (by omega)
          have c9 := hkc i (by omega)
          have b1 := HBD.out i (by omega)
          have b2 := HB1.out i hlt
          have b3 : sumTo (fun j => lack.getD j 0) (i + 1) = sumTo (fun j => lack.getD j 0) i + lack.getD i 0 := by rw [sumTo]
          have HB3 := Lib.hid b3
          have ii : (i : Int) < (ss.length : Int) := by omega
          clear hkc b3
          generalize sumTo (fun j => lack.getD j 0) i = S at *
          generalize lack.getD i 0 = y at *
          have w9 := IntWalk.i64_in (S + y) (by omega)
          go_wp2
          go_round
          case rel => exact ⟨i + 1, by omega, by go_num, by rw [HB3.out]⟩
          case measure => simp [intOf]; omega
          -- END S1
        case neg =>
        obtain rfl : i = ss.length := by omega
        rw [HSUM.out]
        go_upto_region 29 with fail
        obtain ⟨J, jz, hJ⟩ : ∃ J jz, joinR ⟨name, body, ss⟩ cs lack = (J, jz) := ⟨_, _, rfl⟩
        have cJN := CJO.out
        rw [hJ] at cJN
        simp only [hlk] at cJN
        have HLK9 := HLK.out
        rw [hlk] at HLK9
        clear HLK
        have HLK := Lib.hid HLK9
        clear HLK9
        have CJN := Lib.hid cJN
        have HJ := Lib.hid hJ
        clear cJN CJO hJ
        go_upto_region 30 with (go_at_call 11; refine Calls.mono (CJN.out _ _ _ (HF.out.ext (HX.out.trans (by repeat first | exact yx0 _ | assumption | refine yxa ?_ _ | refine yxd ?_ | refine yxn ?_ _ | refine yxs ?_ (by simp <;> omega) _ | refine yxt ?_ (by assumption)))) (HRX.out.ext (HX.out.trans (by repeat first | exact yx0 _ | assumption | refine yxa ?_ _ | refine yxd ?_ | refine yxn ?_ _ | refine yxs ?_ (by simp <;> omega) _ | refine yxt ?_ (by assumption)))) (HLK.out.ext (by repeat first | exact yx0 _ | assumption | refine yxa ?_ _ | refine yxd ?_ | refine yxn ?_ _ | refine yxs ?_ (by simp <;> omega) _ | refine yxt ?_ (by assumption)))) ?_; rintro e9 w1 ⟨JA, jc, rfl, hsl, hb⟩; have hq := yxx HX.out (by repeat first | exact yx0 _ | assumption | refine yxa ?_ _ | refine yxd ?_ | refine yxn ?_ _ | refine yxs ?_ (by simp <;> omega) _ | refine yxt ?_ (by assumption)) hb; have HB9 := Lib.hid (HB.out.ext hq); have HX9 := Lib.hid (HX.out.trans hq); clear k0 k1 k2 kl HB HX; have HB := HB9; have HX := HX9; clear HB9 HX9; obtain ⟨k0, k1, k2, kl⟩ := HB.out.c3; (try (have q9 := Lib.hid (HW.out.trans hq); clear HW; have HW := q9; clear q9)); clear hq; have HJR := Lib.hid hsl.ri; clear hsl hb HLK)
        by_cases hjz : jz = 0
        case pos =>
          subst hjz
          obtain ⟨r1, r2⟩ := HRI9.out J HJ.out
          have cTR := fun W h1 h2 h3 => turned_any ⟨name, body, ss⟩ A c JA jc J LA lc (lnK rows rows.length) W h1 h2 h3
          rw [r1, r2] at cTR
          simp only [HLEN.out, FT.val] at cTR
          have CTR := Lib.hid cTR
          clear cTR r1 r2
          go_upto_region 34 with (go_at_call 10; refine Calls.mono (CTR.out _ (HF.out.ext (HX.out.trans (by repeat first | exact yx0 _ | assumption | refine yxa ?_ _ | refine yxd ?_ | refine yxn ?_ _ | refine yxs ?_ (by simp <;> omega) _ | refine yxt ?_ (by assumption)))) (HJR.out.ext (by repeat first | exact yx0 _ | assumption | refine yxa ?_ _ | refine yxd ?_ | refine yxn ?_ _ | refine yxs ?_ (by simp <;> omega) _ | refine yxt ?_ (by assumption))) (HLS.out.ext (HW.out.trans (by repeat first | exact yx0 _ | assumption | refine yxa ?_ _ | refine yxd ?_ | refine yxn ?_ _ | refine yxs ?_ (by simp <;> omega) _ | refine yxt ?_ (by assumption))))) ?_; rintro e9 w1 ⟨QA, qc, rfl, _, hb⟩; have hq := yxx HX.out (by repeat first | exact yx0 _ | assumption | refine yxa ?_ _ | refine yxd ?_ | refine yxn ?_ _ | refine yxs ?_ (by simp <;> omega) _ | refine yxt ?_ (by assumption)) hb; have HB9 := Lib.hid (HB.out.ext hq); have HX9 := Lib.hid (HX.out.trans hq); clear k0 k1 k2 kl HB HX; have HB := HB9; have HX := HX9; clear HB9 HX9; obtain ⟨k0, k1, k2, kl⟩ := HB.out.c3; (try (have q9 := Lib.hid (HW.out.trans hq); clear HW; have HW := q9; clear q9)); clear hq; clear hb HJR)
          obtain ⟨y0, y1, _, _, yl⟩ := (HST.out.ext HW.out).c2
          go_upto_region 35 with (go_at_call 12; refine Calls.mono (CMS.out _ (HF.out.ext (HX.out.trans (by repeat first | exact yx0 _ | assumption | refine yxa ?_ _ | refine yxd ?_ | refine yxn ?_ _ | refine yxs ?_ (by simp <;> omega) _ | refine yxt ?_ (by assumption)))) ⟨HRX.out.ext (HX.out.trans (by repeat first | exact yx0 _ | assumption | refine yxa ?_ _ | refine yxd ?_ | refine yxn ?_ _ | refine yxs ?_ (by simp <;> omega) _ | refine yxt ?_ (by assumption))), HNS.out.ext (HW.out.trans (by repeat first | exact yx0 _ | assumption | refine yxa ?_ _ | refine yxd ?_ | refine yxn ?_ _ | refine yxs ?_ (by simp <;> omega) _ | refine yxt ?_ (by assumption)))⟩) ?_; rintro e9 w1 ⟨SA, sc, rfl, hset, hb⟩; have hq := yxx HX.out (by repeat first | exact yx0 _ | assumption | refine yxa ?_ _ | refine yxd ?_ | refine yxn ?_ _ | refine yxs ?_ (by simp <;> omega) _ | refine yxt ?_ (by assumption)) hb; have HB9 := Lib.hid (HB.out.ext hq); have HX9 := Lib.hid (HX.out.trans hq); clear k0 k1 k2 kl HB HX; have HB := HB9; have HX := HX9; clear HB9 HX9; obtain ⟨k0, k1, k2, kl⟩ := HB.out.c3; (try (have q9 := Lib.hid (HW.out.trans hq); clear HW; have HW := q9; clear q9)); clear hq; have HSE := Lib.hid hset; clear hb hset)
          clear y0 y1 yl
          have hsl := HSTD.out.2.1
          have i9 : ¬ (rows.length : Int) < (set.length : Int) := by omega
          go_upto_block 39 with fail
          have HX1 := HX; have HW1 := HW; have HB1 := HB
          clear k0 k1 k2 kl HB HX HW
          go_loopw [27, 28] (fun v27 v28 wx => ∃ j : Nat, j ≤ set.length ∧ v28 = .int .i64 (j : Int) ∧ Hid (OwnLN wx w1.heap.size v27 (pickLn (lnK rows rows.length) (set.take j))) ∧ Hid (Ext w1 wx)) (fun _ v28 _ => set.length - (intOf v28).toNat)
          case atStart => exact ⟨0, Nat.zero_le _, rfl, Lib.hid (by rw [List.take_zero]; exact OwnLN.nil _ _), Lib.hid (Ext.refl _)⟩
          case round =>
            obtain ⟨j, hj, rfl, HO, HE⟩ := hrel
            by_cases hlt : j < set.length
            case pos =>
              -- BEGIN P1
              have ji : (j : Int) < (set.length : Int) := by omega
              obtain ⟨qb, qo, rfl, hqw, hqc⟩ := (HSE.out.ext HE.out).2.2 (by omega)
              have c1 := hqc j hlt
              have hz := HSTD.out.1.2 _ (getD_mem2 (l := set) (k := j) hlt)
              have HPN := Lib.hid (pick_next (lnK rows rows.length) hlt)
              have HPL : Hid ((pickLn (lnK rows rows.length) (set.take j)).length ≤ 1000000) := Lib.hid (by rw [pick_len, List.length_take]; omega)
              clear hqc
              generalize set.getD j 0 = z at *
              obtain ⟨zn, rfl⟩ : ∃ zn : Nat, z = (zn : Int) := ⟨z.toNat, by omega⟩
              rw [Int.toNat_natCast] at HPN
              have hzr : zn < rows.length := by omega
              obtain ⟨nb, no, hLA, hnw, hnc⟩ := (HLS.out.ext (HW1.out.trans HE.out)).2.2.1 (by omega)
              subst hLA
              obtain ⟨c2, c3⟩ := hnc zn hzr
              clear hnc hz
              generalize (lnK rows rows.length).getD zn LN.zero = y at *
              obtain ⟨ym, yA, yc, yz⟩ := y
              simp only [SI.val] at c3
              have zi : (zn : Int) < (rows.length : Int) := by omega
              go_upto_region 43 with (first | (go_at_call 13; refine Calls.mono (bWithin_yes _ _ _ _ ?_) ?_; (omega); rintro e w1 ⟨rfl, rfl⟩) | (go_at_call 13; refine Calls.mono (bWithin_no _ _ _ _ ?_) ?_; (omega); rintro e w1 ⟨rfl, rfl⟩))
              have HB1s : Hid (w1.heap.size ≤ wr.heap.size) := Lib.hid HE.out.size
              generalize (pickLn (lnK rows rows.length) (set.take j)) = P at *
              go_wp2_with (first | (at_builtin; refine list_pushLN rfl (.tmp 193) (.tmp 201) rfl w1.heap.size _ P rfl (HO.out.ext (by repeat first | exact yx0 _ | assumption | refine yxa ?_ _ | refine yxd ?_ | refine yxn ?_ _ | refine yxs ?_ (by simp <;> omega) _ | refine yxt ?_ (by assumption))) wr.heap.size ⟨ym, ⟨yA, yc, yz⟩⟩ rfl (Blk.cell (Blk.new _ _ _) 0 _ rfl) (Blk.cell (Blk.new _ _ _) 1 _ rfl) HPL.out (by have := HB1s.out; simp; omega) ?_; intro v' w' ho hg; have HO2 := Lib.hid ho; have HE2 := Lib.hid ((HE.out.trans (by repeat first | exact yx0 _ | assumption | refine yxa ?_ _ | refine yxd ?_ | refine yxn ?_ _ | refine yxs ?_ (by simp <;> omega) _ | refine yxt ?_ (by assumption))).grown hg fun k hk => (World.ownsRow.lt (HO.out.ext (by repeat first | exact yx0 _ | assumption | refine yxa ?_ _ | refine yxd ?_ | refine yxn ?_ _ | refine yxs ?_ (by simp <;> omega) _ | refine yxt ?_ (by assumption))) k hk).1); clear ho hg))
              go_roundw
              case rel => exact ⟨j + 1, by omega, by go_num, by rw [HPN.out]; exact HO2, HE2⟩
              case measure => simp [intOf]; omega
              -- END P1
            case neg =>
              -- BEGIN P2
              obtain rfl : j = set.length := by omega
              rw [List.take_length] at HO
              have hpk := pick_len (lnK rows rows.length) set
              obtain ⟨ZA, zc, rfl, hZ⟩ := HO.out.form (by omega) (fun k hk => by
                rw [hpk] at hk
                rw [pick_at hk]
                have hz := HSTD.out.1.2 _ (getD_mem2 (l := set) (k := k) hk)
                exact (HLS.out.ext (HW1.out.trans HE.out)).2.2.2 _ (by omega))
              have HZ := Lib.hid hZ
              clear hZ
              have cT4 := fun W h1 h2 h3 => turned_any ⟨name, body, ss⟩ A c X cx cs ZA zc (pickLn (lnK rows rows.length) set) W h1 h2 h3
              rw [HSTD.out.2.2.1, HSTD.out.2.2.2.1] at cT4
              have CT4 := Lib.hid cT4
              clear cT4
              have HIF := Lib.hid HSTD.out.2.2.2.2
              generalize (pickLn (lnK rows rows.length) set) = P at *
              obtain ⟨k0, k1, k2, kl⟩ := (HB1.out.ext HE.out).c3
              have i10 : ¬ (set.length : Int) < (set.length : Int) := by omega
              have hpl : P.length ≤ 9223372036854775807 := by omega
              have HPK := Lib.hid hpk
              clear hpk hlt
              have HXE := Lib.hid (HX1.out.trans HE.out)
              go_upto_region 45 with (first | (go_at_call 10; refine Calls.mono (CT4.out _ (HF.out.ext (HXE.out.trans (by repeat first | exact yx0 _ | assumption | refine yxa ?_ _ | refine yxd ?_ | refine yxn ?_ _ | refine yxs ?_ (by simp <;> omega) _ | refine yxt ?_ (by assumption)))) (HRX.out.ext (HXE.out.trans (by repeat first | exact yx0 _ | assumption | refine yxa ?_ _ | refine yxd ?_ | refine yxn ?_ _ | refine yxs ?_ (by simp <;> omega) _ | refine yxt ?_ (by assumption)))) (HZ.out.ext (by repeat first | exact yx0 _ | assumption | refine yxa ?_ _ | refine yxd ?_ | refine yxn ?_ _ | refine yxs ?_ (by simp <;> omega) _ | refine yxt ?_ (by assumption)))) ?_; rintro e9 w9 ⟨QA, qc, rfl, _, hb⟩; have HX9 := Lib.hid (HXE.out.trans (Ext.trans (by repeat first | exact yx0 _ | assumption | refine yxa ?_ _ | refine yxd ?_ | refine yxn ?_ _ | refine yxs ?_ (by simp <;> omega) _ | refine yxt ?_ (by assumption)) hb)); clear hb))
              have HX := HX9
              clear HX9
              have hTl : T.length ≤ 9223372036854775807 := by
                have h1 := HBD.out ss.length (Nat.le_refl _)
                have h2 := HSUM.out
                omega
              have hsl2 : set.length ≤ 9223372036854775807 := by omega
              by_cases hq : set.length = rows.length
              · have hT0 := HIF.out.1 hq
                have e1 : ((set.length : Int) == (rows.length : Int)) = true := by simp [hq]
                have e2 : ((T.length : Int) == 0) = true := by rw [hT0]; rfl
                clear hT0 hq
                go_wp2
                go_ret
                exact Ret.mk' (by first | rfl | simp) (HX.out.trans (by repeat first | exact yx0 _ | assumption | refine yxa ?_ _ | refine yxd ?_ | refine yxn ?_ _ | refine yxs ?_ (by simp <;> omega) _ | refine yxt ?_ (by assumption)))
              · have hT0 := mt HIF.out.2 hq
                have hT1 : 0 < T.length := List.length_pos_iff.2 hT0
                have e1 : ((set.length : Int) == (rows.length : Int)) = false := by simp; omega
                have e2 : ((T.length : Int) == 0) = false := by simp; omega
                clear hT0 hT1 hq
                go_wp2
                go_ret
                exact Ret.mk' (by first | rfl | simp) (HX.out.trans (by repeat first | exact yx0 _ | assumption | refine yxa ?_ _ | refine yxd ?_ | refine yxn ?_ _ | refine yxs ?_ (by simp <;> omega) _ | refine yxt ?_ (by assumption)))
              -- END P2
        case neg =>
          have e9 : (jz == 0) = false := by simpa using hjz
          clear hjz
          go_upto_region 34 with fail
          -- BEGIN N1
          obtain ⟨y0, y1, _, _, yl⟩ := (HST.out.ext HW.out).c2
          go_upto_region 35 with (go_at_call 12; refine Calls.mono (CMS.out _ (HF.out.ext (HX.out.trans (by repeat first | exact yx0 _ | assumption | refine yxa ?_ _ | refine yxd ?_ | refine yxn ?_ _ | refine yxs ?_ (by simp <;> omega) _ | refine yxt ?_ (by assumption)))) ⟨HRX.out.ext (HX.out.trans (by repeat first | exact yx0 _ | assumption | refine yxa ?_ _ | refine yxd ?_ | refine yxn ?_ _ | refine yxs ?_ (by simp <;> omega) _ | refine yxt ?_ (by assumption))), HNS.out.ext (HW.out.trans (by repeat first | exact yx0 _ | assumption | refine yxa ?_ _ | refine yxd ?_ | refine yxn ?_ _ | refine yxs ?_ (by simp <;> omega) _ | refine yxt ?_ (by assumption)))⟩) ?_; rintro e9 w1 ⟨SA, sc, rfl, hset, hb⟩; have hq := yxx HX.out (by repeat first | exact yx0 _ | assumption | refine yxa ?_ _ | refine yxd ?_ | refine yxn ?_ _ | refine yxs ?_ (by simp <;> omega) _ | refine yxt ?_ (by assumption)) hb; have HB9 := Lib.hid (HB.out.ext hq); have HX9 := Lib.hid (HX.out.trans hq); clear k0 k1 k2 kl HB HX; have HB := HB9; have HX := HX9; clear HB9 HX9; obtain ⟨k0, k1, k2, kl⟩ := HB.out.c3; (try (have q9 := Lib.hid (HW.out.trans hq); clear HW; have HW := q9; clear q9)); clear hq; have HSE := Lib.hid hset; clear hb hset)
          clear y0 y1 yl
          have hsl := HSTD.out.2.1
          have i9 : ¬ (rows.length : Int) < (set.length : Int) := by omega
          go_upto_block 39 with fail
          have HX1 := HX; have HW1 := HW; have HB1 := HB
          clear k0 k1 k2 kl HB HX HW
          go_loopw [27, 28] (fun v27 v28 wx => ∃ j : Nat, j ≤ set.length ∧ v28 = .int .i64 (j : Int) ∧ Hid (OwnLN wx w1.heap.size v27 (pickLn (lnK rows rows.length) (set.take j))) ∧ Hid (Ext w1 wx)) (fun _ v28 _ => set.length - (intOf v28).toNat)
          case atStart => exact ⟨0, Nat.zero_le _, rfl, Lib.hid (by rw [List.take_zero]; exact OwnLN.nil _ _), Lib.hid (Ext.refl _)⟩
          case round =>
            obtain ⟨j, hj, rfl, HO, HE⟩ := hrel
            by_cases hlt : j < set.length
            case pos =>
              -- BEGIN P1
              have ji : (j : Int) < (set.length : Int) := by omega
              obtain ⟨qb, qo, rfl, hqw, hqc⟩ := (HSE.out.ext HE.out).2.2 (by omega)
              have c1 := hqc j hlt
              have hz := HSTD.out.1.2 _ (getD_mem2 (l := set) (k := j) hlt)
              have HPN := Lib.hid (pick_next (lnK rows rows.length) hlt)
              have HPL : Hid ((pickLn (lnK rows rows.length) (set.take j)).length ≤ 1000000) := Lib.hid (by rw [pick_len, List.length_take]; omega)
              clear hqc
              generalize set.getD j 0 = z at *
              obtain ⟨zn, rfl⟩ : ∃ zn : Nat, z = (zn : Int) := ⟨z.toNat, by omega⟩
              rw [Int.toNat_natCast] at HPN
              have hzr : zn < rows.length := by omega
              obtain ⟨nb, no, hLA, hnw, hnc⟩ := (HLS.out.ext (HW1.out.trans HE.out)).2.2.1 (by omega)
              subst hLA
              obtain ⟨c2, c3⟩ := hnc zn hzr
              clear hnc hz
              generalize (lnK rows rows.length).getD zn LN.zero = y at *
              obtain ⟨ym, yA, yc, yz⟩ := y
              simp only [SI.val] at c3
              have zi : (zn : Int) < (rows.length : Int) := by omega
              go_upto_region 43 with (first | (go_at_call 13; refine Calls.mono (bWithin_yes _ _ _ _ ?_) ?_; (omega); rintro e w1 ⟨rfl, rfl⟩) | (go_at_call 13; refine Calls.mono (bWithin_no _ _ _ _ ?_) ?_; (omega); rintro e w1 ⟨rfl, rfl⟩))
              have HB1s : Hid (w1.heap.size ≤ wr.heap.size) := Lib.hid HE.out.size
              generalize (pickLn (lnK rows rows.length) (set.take j)) = P at *
              go_wp2_with (first | (at_builtin; refine list_pushLN rfl (.tmp 193) (.tmp 201) rfl w1.heap.size _ P rfl (HO.out.ext (by repeat first | exact yx0 _ | assumption | refine yxa ?_ _ | refine yxd ?_ | refine yxn ?_ _ | refine yxs ?_ (by simp <;> omega) _ | refine yxt ?_ (by assumption))) wr.heap.size ⟨ym, ⟨yA, yc, yz⟩⟩ rfl (Blk.cell (Blk.new _ _ _) 0 _ rfl) (Blk.cell (Blk.new _ _ _) 1 _ rfl) HPL.out (by have := HB1s.out; simp; omega) ?_; intro v' w' ho hg; have HO2 := Lib.hid ho; have HE2 := Lib.hid ((HE.out.trans (by repeat first | exact yx0 _ | assumption | refine yxa ?_ _ | refine yxd ?_ | refine yxn ?_ _ | refine yxs ?_ (by simp <;> omega) _ | refine yxt ?_ (by assumption))).grown hg fun k hk => (World.ownsRow.lt (HO.out.ext (by repeat first | exact yx0 _ | assumption | refine yxa ?_ _ | refine yxd ?_ | refine yxn ?_ _ | refine yxs ?_ (by simp <;> omega) _ | refine yxt ?_ (by assumption))) k hk).1); clear ho hg))
              go_roundw
              case rel => exact ⟨j + 1, by omega, by go_num, by rw [HPN.out]; exact HO2, HE2⟩
              case measure => simp [intOf]; omega
              -- END P1
            case neg =>
              -- BEGIN P2
              obtain rfl : j = set.length := by omega
              rw [List.take_length] at HO
              have hpk := pick_len (lnK rows rows.length) set
              obtain ⟨ZA, zc, rfl, hZ⟩ := HO.out.form (by omega) (fun k hk => by
                rw [hpk] at hk
                rw [pick_at hk]
                have hz := HSTD.out.1.2 _ (getD_mem2 (l := set) (k := k) hk)
                exact (HLS.out.ext (HW1.out.trans HE.out)).2.2.2 _ (by omega))
              have HZ := Lib.hid hZ
              clear hZ
              have cT4 := fun W h1 h2 h3 => turned_any ⟨name, body, ss⟩ A c X cx cs ZA zc (pickLn (lnK rows rows.length) set) W h1 h2 h3
              rw [HSTD.out.2.2.1, HSTD.out.2.2.2.1] at cT4
              have CT4 := Lib.hid cT4
              clear cT4
              have HIF := Lib.hid HSTD.out.2.2.2.2
              generalize (pickLn (lnK rows rows.length) set) = P at *
              obtain ⟨k0, k1, k2, kl⟩ := (HB1.out.ext HE.out).c3
              have i10 : ¬ (set.length : Int) < (set.length : Int) := by omega
              have hpl : P.length ≤ 9223372036854775807 := by omega
              have HPK := Lib.hid hpk
              clear hpk hlt
              have HXE := Lib.hid (HX1.out.trans HE.out)
              go_upto_region 45 with (first | (go_at_call 10; refine Calls.mono (CT4.out _ (HF.out.ext (HXE.out.trans (by repeat first | exact yx0 _ | assumption | refine yxa ?_ _ | refine yxd ?_ | refine yxn ?_ _ | refine yxs ?_ (by simp <;> omega) _ | refine yxt ?_ (by assumption)))) (HRX.out.ext (HXE.out.trans (by repeat first | exact yx0 _ | assumption | refine yxa ?_ _ | refine yxd ?_ | refine yxn ?_ _ | refine yxs ?_ (by simp <;> omega) _ | refine yxt ?_ (by assumption)))) (HZ.out.ext (by repeat first | exact yx0 _ | assumption | refine yxa ?_ _ | refine yxd ?_ | refine yxn ?_ _ | refine yxs ?_ (by simp <;> omega) _ | refine yxt ?_ (by assumption)))) ?_; rintro e9 w9 ⟨QA, qc, rfl, _, hb⟩; have HX9 := Lib.hid (HXE.out.trans (Ext.trans (by repeat first | exact yx0 _ | assumption | refine yxa ?_ _ | refine yxd ?_ | refine yxn ?_ _ | refine yxs ?_ (by simp <;> omega) _ | refine yxt ?_ (by assumption)) hb)); clear hb))
              have HX := HX9
              clear HX9
              have hTl : T.length ≤ 9223372036854775807 := by
                have h1 := HBD.out ss.length (Nat.le_refl _)
                have h2 := HSUM.out
                omega
              have hsl2 : set.length ≤ 9223372036854775807 := by omega
              by_cases hq : set.length = rows.length
              · have hT0 := HIF.out.1 hq
                have e1 : ((set.length : Int) == (rows.length : Int)) = true := by simp [hq]
                have e2 : ((T.length : Int) == 0) = true := by rw [hT0]; rfl
                clear hT0 hq
                go_wp2
                go_ret
                exact Ret.mk' (by first | rfl | simp) (HX.out.trans (by repeat first | exact yx0 _ | assumption | refine yxa ?_ _ | refine yxd ?_ | refine yxn ?_ _ | refine yxs ?_ (by simp <;> omega) _ | refine yxt ?_ (by assumption)))
              · have hT0 := mt HIF.out.2 hq
                have hT1 : 0 < T.length := List.length_pos_iff.2 hT0
                have e1 : ((set.length : Int) == (rows.length : Int)) = false := by simp; omega
                have e2 : ((T.length : Int) == 0) = false := by simp; omega
                clear hT0 hT1 hq
                go_wp2
                go_ret
                exact Ret.mk' (by first | rfl | simp) (HX.out.trans (by repeat first | exact yx0 _ | assumption | refine yxa ?_ _ | refine yxd ?_ | refine yxn ?_ _ | refine yxs ?_ (by simp <;> omega) _ | refine yxt ?_ (by assumption)))
              -- END P2
          -- END N1
      -- END E0
    case pos =>
    have hki : (k : Int) < (rows.length : Int) := by omega
    obtain ⟨b, off, rfl, hbw, hcell⟩ := (HRR.out.ext HX.out).2.2.1 (by omega)
    have c1 := hcell k hlt
    have HRI := Lib.hid ((HRR.out).2.2.2 k hlt)
    have HPUX := Lib.hid (fun W' u3 u8 s h1 h2 h3 h4 h5 h6 h7 h8 => LpT.push (W' := W') (u3 := u3) (u8 := u8) (s := s) HL.out hlt h1 h2 h3 h4 h5 h6 h7 h8)
    clear hcell
    generalize rows.getD k SI.none_ = r at *
    obtain ⟨rA, rc, rz⟩ := r
    simp only [SI.val] at c1
    by_cases h15 : 15 < rz.length
    case pos =>
      -- BEGIN B1
      have i2 : (15 : Int) < (rz.length : Int) := by omega
      clear HPUX
      go_upto_region 10 with fail
      go_quiet (fail)
      go_wp2
      go_ret
      exact Ret.mk' (by first | rfl | simp) (HX.out.trans (by repeat first | exact yx0 _ | assumption | refine yxa ?_ _ | refine yxd ?_ | refine yxn ?_ _ | refine yxs ?_ (by simp <;> omega) _ | refine yxt ?_ (by assumption)))
      -- END B1
    case neg =>
    have i2 : ¬ (15 : Int) < (rz.length : Int) := by omega
    obtain ⟨z, hz⟩ : ∃ z, listErr ss.length rz = z := ⟨_, rfl⟩
    have CLR : Hid (∀ W, FR W A c ⟨name, body, ss⟩ → RI W rA rz.length rz → Calls Tryz.prog 7 #[.agg #[.string name, .int .i64 body, .slice A ss.length c], .slice rA rz.length rc] W (Ret (.int .i64 z) W)) := Lib.hid fun W h1 h2 => by
      have := CLE.out rA rc rz W h1 h2
      rwa [hz] at this
    by_cases hz0 : z = 0
    case neg =>
      have ez : (z != 0) = true := by simpa using hz0
      clear HPUX hz0 hz
      -- BEGIN B2
      go_upto_region 10 with fail
      refine wp_region_rel [some (.slice (some ⟨b, off, none⟩) rows.length d), some (.int .i64 (k : Int)), some (.pointer (some ⟨b, off + k, none⟩)), some (.slice rA rz.length rc), some (.int .i64 (rz.length : Int)), some (.bool false), some (.bool false), some (.agg #[.string name, .int .i64 body, .slice A ss.length c]), some (.slice (some ⟨b, off, none⟩) rows.length d), some (.int .i64 (k : Int)), some (.pointer (some ⟨b, off + k, none⟩)), some (.slice rA rz.length rc), some (.int .i64 z), some (.bool true), some (.bool true)] (fun k v W => True) wr (by kernel_rfl) (by kernel_rfl) rfl (fun k v W W' h hx => trivial) (Ext.refl _) ⟨?_, ?_, ?_, ?_, ?_, ?_, ?_, ?_, ?_, ?_, ?_, ?_, ?_, ?_, ?_, trivial⟩ ?_
      · intro U W hx hR
        clear hR
        refine StepZ.go rfl ?_
        go_simp
        exact ⟨(by repeat first | exact yx0 _ | assumption | refine yxa ?_ _ | refine yxd ?_ | refine yxn ?_ _ | refine yxs ?_ (by simp <;> omega) _ | refine yxt ?_ (by assumption)), gives_k (by kernel_rfl)⟩
      · intro U W hx hR
        clear hR
        refine StepZ.go rfl ?_
        go_simp
        exact ⟨(by repeat first | exact yx0 _ | assumption | refine yxa ?_ _ | refine yxd ?_ | refine yxn ?_ _ | refine yxs ?_ (by simp <;> omega) _ | refine yxt ?_ (by assumption)), gives_k (by kernel_rfl)⟩
      · intro U W hx hR
        clear hR
        refine StepZ.go rfl ?_
        go_simp
        exact ⟨(by repeat first | exact yx0 _ | assumption | refine yxa ?_ _ | refine yxd ?_ | refine yxn ?_ _ | refine yxs ?_ (by simp <;> omega) _ | refine yxt ?_ (by assumption)), gives_k (by kernel_rfl)⟩
      · intro U W hx hR
        clear hR
        have c9 := (hx.cell (p := ⟨b, off + k, none⟩) hbw).trans c1
        refine StepZ.go rfl ?_
        go_simp
        exact ⟨(by repeat first | exact yx0 _ | assumption | refine yxa ?_ _ | refine yxd ?_ | refine yxn ?_ _ | refine yxs ?_ (by simp <;> omega) _ | refine yxt ?_ (by assumption)), gives_k (by kernel_rfl)⟩
      · intro U W hx hR
        clear hR
        refine StepZ.go rfl ?_
        go_simp
        exact ⟨(by repeat first | exact yx0 _ | assumption | refine yxa ?_ _ | refine yxd ?_ | refine yxn ?_ _ | refine yxs ?_ (by simp <;> omega) _ | refine yxt ?_ (by assumption)), gives_k (by kernel_rfl)⟩
      · intro U W hx hR
        clear hR
        refine StepZ.go rfl ?_
        go_simp
        exact ⟨(by repeat first | exact yx0 _ | assumption | refine yxa ?_ _ | refine yxd ?_ | refine yxn ?_ _ | refine yxs ?_ (by simp <;> omega) _ | refine yxt ?_ (by assumption)), gives_k (by kernel_rfl)⟩
      · intro U W hx hR
        clear hR
        refine StepZ.go rfl ?_
        go_simp
        exact ⟨(by repeat first | exact yx0 _ | assumption | refine yxa ?_ _ | refine yxd ?_ | refine yxn ?_ _ | refine yxs ?_ (by simp <;> omega) _ | refine yxt ?_ (by assumption)), gives_k (by kernel_rfl)⟩
      · intro U W hx hR
        clear hR
        obtain ⟨k0, k1, k2, kl⟩ := (HB.out.ext hx).c3
        refine StepZ.go (by kernel_rfl) ?_
        go_simp
        exact ⟨(by repeat first | exact yx0 _ | assumption | refine yxa ?_ _ | refine yxd ?_ | refine yxn ?_ _ | refine yxs ?_ (by simp <;> omega) _ | refine yxt ?_ (by assumption)), gives_k (by kernel_rfl)⟩
      · intro U W hx hR
        clear hR
        refine StepZ.go (by kernel_rfl) ?_
        go_simp
        exact ⟨(by repeat first | exact yx0 _ | assumption | refine yxa ?_ _ | refine yxd ?_ | refine yxn ?_ _ | refine yxs ?_ (by simp <;> omega) _ | refine yxt ?_ (by assumption)), gives_k (by kernel_rfl)⟩
      · intro U W hx hR
        clear hR
        refine StepZ.go (by kernel_rfl) ?_
        go_simp
        exact ⟨(by repeat first | exact yx0 _ | assumption | refine yxa ?_ _ | refine yxd ?_ | refine yxn ?_ _ | refine yxs ?_ (by simp <;> omega) _ | refine yxt ?_ (by assumption)), gives_k (by kernel_rfl)⟩
      · intro U W hx hR
        clear hR
        refine StepZ.go (by kernel_rfl) ?_
        go_simp
        exact ⟨(by repeat first | exact yx0 _ | assumption | refine yxa ?_ _ | refine yxd ?_ | refine yxn ?_ _ | refine yxs ?_ (by simp <;> omega) _ | refine yxt ?_ (by assumption)), gives_k (by kernel_rfl)⟩
      · intro U W hx hR
        clear hR
        have c9 := (hx.cell (p := ⟨b, off + k, none⟩) hbw).trans c1
        refine StepZ.go (by kernel_rfl) ?_
        go_simp
        exact ⟨(by repeat first | exact yx0 _ | assumption | refine yxa ?_ _ | refine yxd ?_ | refine yxn ?_ _ | refine yxs ?_ (by simp <;> omega) _ | refine yxt ?_ (by assumption)), gives_k (by kernel_rfl)⟩
      · intro U W hx hR
        clear hR
        refine StepZ.go (by kernel_rfl) ?_
        go_simp
        refine Calls.mono (CLR.out _ (HF.out.ext (HX.out.trans hx)) (HRI.out.ext (HX.out.trans hx))) ?_; rintro e w1 ⟨rfl, hb⟩; exact ⟨_, rfl, hb, gives_k (by kernel_rfl)⟩
      · intro U W hx hR
        clear hR
        refine StepZ.go (by kernel_rfl) ?_
        go_simp
        exact ⟨(by repeat first | exact yx0 _ | assumption | refine yxa ?_ _ | refine yxd ?_ | refine yxn ?_ _ | refine yxs ?_ (by simp <;> omega) _ | refine yxt ?_ (by assumption)), gives_k (by kernel_rfl)⟩
      · intro U W hx hR
        clear hR
        refine StepZ.go rfl ?_
        go_simp
        exact ⟨(by repeat first | exact yx0 _ | assumption | refine yxa ?_ _ | refine yxd ?_ | refine yxn ?_ _ | refine yxs ?_ (by simp <;> omega) _ | refine yxt ?_ (by assumption)), gives_k (by kernel_rfl)⟩
      · intro U W hx hR
        clear hR
        simp only [putAll, vu, Act.put, List.setIfInBounds_toArray, List.set_cons_zero, List.set_cons_succ]
        have HX2 := Lib.hid (HX.out.trans hx)
        clear HB HX
        have HX := HX2
        go_wp2
        go_ret
        exact Ret.mk' (by first | rfl | simp) (HX.out.trans (by repeat first | exact yx0 _ | assumption | refine yxa ?_ _ | refine yxd ?_ | refine yxn ?_ _ | refine yxs ?_ (by simp <;> omega) _ | refine yxt ?_ (by assumption)))
      -- END B2
    case pos =>
    subst hz0
    go_upto_region 10 with fail
    -- BEGIN B3
    refine wp_region_rel [some (.slice (some ⟨b, off, none⟩) rows.length d), some (.int .i64 (k : Int)), some (.pointer (some ⟨b, off + k, none⟩)), some (.slice rA rz.length rc), some (.int .i64 (rz.length : Int)), some (.bool false), some (.bool false), some (.agg #[.string name, .int .i64 body, .slice A ss.length c]), some (.slice (some ⟨b, off, none⟩) rows.length d), some (.int .i64 (k : Int)), some (.pointer (some ⟨b, off + k, none⟩)), some (.slice rA rz.length rc), some (.int .i64 0), some (.bool false), some (.bool false)] (fun k v W => True) wr (by kernel_rfl) (by kernel_rfl) rfl (fun k v W W' h hx => trivial) (Ext.refl _) ⟨?_, ?_, ?_, ?_, ?_, ?_, ?_, ?_, ?_, ?_, ?_, ?_, ?_, ?_, ?_, trivial⟩ ?_
    · intro U W hx hR
      clear hR
      refine StepZ.go rfl ?_
      go_simp
      exact ⟨(by repeat first | exact yx0 _ | assumption | refine yxa ?_ _ | refine yxd ?_ | refine yxn ?_ _ | refine yxs ?_ (by simp <;> omega) _ | refine yxt ?_ (by assumption)), gives_k (by kernel_rfl)⟩
    · intro U W hx hR
      clear hR
      refine StepZ.go rfl ?_
      go_simp
      exact ⟨(by repeat first | exact yx0 _ | assumption | refine yxa ?_ _ | refine yxd ?_ | refine yxn ?_ _ | refine yxs ?_ (by simp <;> omega) _ | refine yxt ?_ (by assumption)), gives_k (by kernel_rfl)⟩
    · intro U W hx hR
      clear hR
      refine StepZ.go rfl ?_
      go_simp
      exact ⟨(by repeat first | exact yx0 _ | assumption | refine yxa ?_ _ | refine yxd ?_ | refine yxn ?_ _ | refine yxs ?_ (by simp <;> omega) _ | refine yxt ?_ (by assumption)), gives_k (by kernel_rfl)⟩
    · intro U W hx hR
      clear hR
      have c9 := (hx.cell (p := ⟨b, off + k, none⟩) hbw).trans c1
      refine StepZ.go rfl ?_
      go_simp
      exact ⟨(by repeat first | exact yx0 _ | assumption | refine yxa ?_ _ | refine yxd ?_ | refine yxn ?_ _ | refine yxs ?_ (by simp <;> omega) _ | refine yxt ?_ (by assumption)), gives_k (by kernel_rfl)⟩
    · intro U W hx hR
      clear hR
      refine StepZ.go rfl ?_
      go_simp
      exact ⟨(by repeat first | exact yx0 _ | assumption | refine yxa ?_ _ | refine yxd ?_ | refine yxn ?_ _ | refine yxs ?_ (by simp <;> omega) _ | refine yxt ?_ (by assumption)), gives_k (by kernel_rfl)⟩
    · intro U W hx hR
      clear hR
      refine StepZ.go rfl ?_
      go_simp
      exact ⟨(by repeat first | exact yx0 _ | assumption | refine yxa ?_ _ | refine yxd ?_ | refine yxn ?_ _ | refine yxs ?_ (by simp <;> omega) _ | refine yxt ?_ (by assumption)), gives_k (by kernel_rfl)⟩
    · intro U W hx hR
      clear hR
      refine StepZ.go rfl ?_
      go_simp
      exact ⟨(by repeat first | exact yx0 _ | assumption | refine yxa ?_ _ | refine yxd ?_ | refine yxn ?_ _ | refine yxs ?_ (by simp <;> omega) _ | refine yxt ?_ (by assumption)), gives_k (by kernel_rfl)⟩
    · intro U W hx hR
      clear hR
      obtain ⟨k0, k1, k2, kl⟩ := (HB.out.ext hx).c3
      refine StepZ.go (by kernel_rfl) ?_
      go_simp
      exact ⟨(by repeat first | exact yx0 _ | assumption | refine yxa ?_ _ | refine yxd ?_ | refine yxn ?_ _ | refine yxs ?_ (by simp <;> omega) _ | refine yxt ?_ (by assumption)), gives_k (by kernel_rfl)⟩
    · intro U W hx hR
      clear hR
      refine StepZ.go (by kernel_rfl) ?_
      go_simp
      exact ⟨(by repeat first | exact yx0 _ | assumption | refine yxa ?_ _ | refine yxd ?_ | refine yxn ?_ _ | refine yxs ?_ (by simp <;> omega) _ | refine yxt ?_ (by assumption)), gives_k (by kernel_rfl)⟩
    · intro U W hx hR
      clear hR
      refine StepZ.go (by kernel_rfl) ?_
      go_simp
      exact ⟨(by repeat first | exact yx0 _ | assumption | refine yxa ?_ _ | refine yxd ?_ | refine yxn ?_ _ | refine yxs ?_ (by simp <;> omega) _ | refine yxt ?_ (by assumption)), gives_k (by kernel_rfl)⟩
    · intro U W hx hR
      clear hR
      refine StepZ.go (by kernel_rfl) ?_
      go_simp
      exact ⟨(by repeat first | exact yx0 _ | assumption | refine yxa ?_ _ | refine yxd ?_ | refine yxn ?_ _ | refine yxs ?_ (by simp <;> omega) _ | refine yxt ?_ (by assumption)), gives_k (by kernel_rfl)⟩
    · intro U W hx hR
      clear hR
      have c9 := (hx.cell (p := ⟨b, off + k, none⟩) hbw).trans c1
      refine StepZ.go (by kernel_rfl) ?_
      go_simp
      exact ⟨(by repeat first | exact yx0 _ | assumption | refine yxa ?_ _ | refine yxd ?_ | refine yxn ?_ _ | refine yxs ?_ (by simp <;> omega) _ | refine yxt ?_ (by assumption)), gives_k (by kernel_rfl)⟩
    · intro U W hx hR
      clear hR
      refine StepZ.go (by kernel_rfl) ?_
      go_simp
      refine Calls.mono (CLR.out _ (HF.out.ext (HX.out.trans hx)) (HRI.out.ext (HX.out.trans hx))) ?_; rintro e w1 ⟨rfl, hb⟩; exact ⟨_, rfl, hb, gives_k (by kernel_rfl)⟩
    · intro U W hx hR
      clear hR
      refine StepZ.go (by kernel_rfl) ?_
      go_simp
      exact ⟨(by repeat first | exact yx0 _ | assumption | refine yxa ?_ _ | refine yxd ?_ | refine yxn ?_ _ | refine yxs ?_ (by simp <;> omega) _ | refine yxt ?_ (by assumption)), gives_k (by kernel_rfl)⟩
    · intro U W hx hR
      clear hR
      refine StepZ.go rfl ?_
      go_simp
      exact ⟨(by repeat first | exact yx0 _ | assumption | refine yxa ?_ _ | refine yxd ?_ | refine yxn ?_ _ | refine yxs ?_ (by simp <;> omega) _ | refine yxt ?_ (by assumption)), gives_k (by kernel_rfl)⟩
    · intro U W hx hR
      clear hR
      simp only [putAll, vu, Act.put, List.setIfInBounds_toArray, List.set_cons_zero, List.set_cons_succ]
      have HL2 := Lib.hid (HL.out.next' hx)
      have c1' := (hx.cell (p := ⟨b, off + k, none⟩) hbw).trans c1
      have hbw2 := Nat.lt_of_lt_of_le hbw hx.size
      have HB2 := Lib.hid (HB.out.ext hx); have HX2 := Lib.hid (HX.out.trans hx)
      have HPU := Lib.hid (fun W' u3 u8 s h1 h2 h3 h4 h5 h6 h7 => HPUX.out W' u3 u8 s h1 h2 h3 h4 h5 h6 h7 ⟨by show rz.length ≤ 15; omega, hz⟩)
      clear k0 k1 k2 kl HB HX HL hx c1 hbw HPUX
      have HB := HB2; have HX := HX2; have HL := HL2; have c1 := c1'; have hbw := hbw2
      clear HB2 HX2 HL2 c1' hbw2
      obtain ⟨k0, k1, k2, kl⟩ := HB.out.c3
      have CN1 : Hid (∀ g W, FR W A c ⟨name, body, ss⟩ → Blk W g 34 #[.int .i64 1000, .slice rA rz.length rc] → RI W rA rz.length rz → Calls Tryz.prog 8 #[.agg #[.string name, .int .i64 body, .slice A ss.length c], .slice (some ⟨g, 0, none⟩) 1 1] W (RetSE (needTo ss.length rz rz.length) 0 W)) := Lib.hid fun g W h1 h2 h3 => by
        have := CNE.out (some ⟨g, 0, none⟩) 1 [⟨1000, ⟨rA, rc, rz⟩⟩] W h1 ⟨rfl, by show 1 ≤ 9223372036854775807; omega, fun _ => ⟨g, 0, rfl, h2.lt, fun k hk => by
          obtain rfl : k = 0 := by have : k < 1 := hk; omega
          exact ⟨h2.cell 0 _ rfl, h2.cell 1 _ rfl⟩⟩, fun k hk => by
          obtain rfl : k = 0 := by have : k < 1 := hk; omega
          exact h3⟩
        have e1 : linesE ⟨name, body, ss⟩ [⟨1000, ⟨rA, rc, rz⟩⟩] = 0 := by
          unfold linesE
          rw [if_neg (by show ¬ 100 < 1; omega)]
          refine firstE_none fun k hk => ?_
          obtain rfl : k = 0 := by have : k < 1 := hk; omega
          show listChk ⟨name, body, ss⟩ rz = 0
          unfold listChk; rw [if_neg (by simpa using HCK.out)]; exact hz
        have e2 : pNeedE ⟨name, body, ss⟩ [⟨1000, ⟨rA, rc, rz⟩⟩] = 0 := by unfold pNeedE; rw [if_neg (by simpa using HCK.out)]; exact e1
        have e3 : pNeedL ⟨name, body, ss⟩ [⟨1000, ⟨rA, rc, rz⟩⟩] = needTo ss.length rz rz.length := by
          unfold pNeedL; rw [if_neg (by simpa using e2)]; rfl
        rwa [e2, e3] at this
      clear hz
      go_upto_region 13 with fail
      obtain ⟨wl, hwl⟩ : ∃ wl, W.alloc (.cells #[.int .i64 1000, .slice rA rz.length rc] 34) = wl := ⟨_, rfl⟩
      have hx : Ext W wl := by rw [← hwl]; exact (by repeat first | exact yx0 _ | assumption | refine yxa ?_ _ | refine yxd ?_ | refine yxn ?_ _ | refine yxs ?_ (by simp <;> omega) _ | refine yxt ?_ (by assumption))
      have HLB : Hid (Blk wl W.heap.size 34 #[.int .i64 1000, .slice rA rz.length rc]) := Lib.hid (by rw [← hwl]; exact Blk.new W _ _)
      have HL2 := Lib.hid (HL.out.next' hx)
      have HB2 := Lib.hid (HB.out.ext hx); have HX2 := Lib.hid (HX.out.trans hx)
      rw [hwl]
      clear k0 k1 k2 kl HB HX HL hx c1 hbw hwl
      have HB := HB2; have HX := HX2; have HL := HL2
      clear HB2 HX2 HL2
      obtain ⟨k0, k1, k2, kl⟩ := HB.out.c3
      obtain ⟨l0, l1, _, _, ll⟩ := HLB.out.c2
      have HSZ : Hid (w.heap.size ≤ wl.heap.size) := Lib.hid HX.out.size
      generalize W.heap.size = lb at *
      go_upto_region 16 with (go_at_call 8; refine Calls.mono (CN1.out _ _ (HF.out.ext (HX.out.trans (by repeat first | exact yx0 _ | assumption | refine yxa ?_ _ | refine yxd ?_ | refine yxn ?_ _ | refine yxs ?_ (by simp <;> omega) _ | refine yxt ?_ (by assumption)))) (Blk.new _ _ _) (HRI.out.ext (HX.out.trans (by repeat first | exact yx0 _ | assumption | refine yxa ?_ _ | refine yxd ?_ | refine yxn ?_ _ | refine yxs ?_ (by simp <;> omega) _ | refine yxt ?_ (by assumption))))) ?_; rintro e9 w1 ⟨NA, nc, rfl, hsl, hb⟩; have hq : Ext wl w1 := Ext.trans (by repeat first | exact yx0 _ | assumption | refine yxa ?_ _ | refine yxd ?_ | refine yxn ?_ _ | refine yxs ?_ (by simp <;> omega) _ | refine yxt ?_ (by assumption)) hb; have HSL := Lib.hid hsl; have HL2 := Lib.hid (HL.out.next' hq); have HLB2 := Lib.hid (HLB.out.ext hq); clear HL HLB hsl l0 l1 ll; have HL := HL2; have HLB := HLB2; clear HL2 HLB2; obtain ⟨l0, l1, _, _, ll⟩ := HLB.out.c2; have hq := yxx HX.out (by repeat first | exact yx0 _ | assumption | refine yxa ?_ _ | refine yxd ?_ | refine yxn ?_ _ | refine yxs ?_ (by simp <;> omega) _ | refine yxt ?_ (by assumption)) hb; have HB9 := Lib.hid (HB.out.ext hq); have HX9 := Lib.hid (HX.out.trans hq); clear k0 k1 k2 kl HB HX; have HB := HB9; have HX := HX9; clear HB9 HX9; obtain ⟨k0, k1, k2, kl⟩ := HB.out.c3; (try (have q9 := Lib.hid (HW.out.trans hq); clear HW; have HW := q9; clear q9)); clear hq; clear hb hq)
      have hns : (needTo ss.length rz rz.length).length ≤ 1000 := by rw [needTo_len]; exact few_123 HFW.out
      generalize needTo ss.length rz rz.length = nd at *
      have hsb : w.heap.size ≤ sb := HSB.out
      have hkl : k ≤ 4 := by omega
      have HQ0 : Hid (QX w #[.string name, .int .i64 body, .slice A ss.length c] sb (.slice X cs.length cx) vN u7 lb ⟨1000, ⟨rA, rc, rz⟩⟩ (lnK rows k) tk ⟨NA, nc, nd⟩ none none none none none none none none none none none none w1.drew) := Lib.hid (by
        have h := HL.out.next' ((Ext.refl w1).drew)
        refine ⟨h.ext, h.fr, fun r hr => ?_, fun _ => h.st, fun _ => HLB.out.drew, fun _ => h.oL, fun _ => h.oN, fun _ e => (by cases e), fun _ e => (by cases e), fun _ e => (by cases e), fun _ e => (by cases e), fun _ e => (by cases e), fun _ e => (by cases e), fun _ e => (by cases e), fun _ e => (by cases e), fun _ e => (by cases e), fun _ e => (by cases e), fun _ e => (by cases e), fun _ e => (by cases e), fun _ e => (by cases e)⟩
        rcases List.mem_append.1 hr with h1 | h1
        · exact h.rw r h1
        · obtain rfl := List.mem_singleton.1 h1
          exact ⟨SL.ext (SL.mono HSL.out (by have := HSZ.out; simp; omega)) ((Ext.refl w1).drew), hns⟩)
      have hlk : (lnK rows k).length ≤ 1000000 := by rw [lnK_len (by omega)]; omega
      have htk : tk.length ≤ 1000000 := by rw [HL.out.ln]; omega
      refine wp_region_q (QXl w #[.string name, .int .i64 body, .slice A ss.length c] sb (.slice X cs.length cx) vN u7 lb ⟨1000, ⟨rA, rc, rz⟩⟩ (lnK rows k) tk ⟨NA, nc, nd⟩) (by kernel_rfl) (by kernel_rfl) HQ0.out ⟨?_, ?_, ?_, ?_, ?_, ?_, ?_, ?_, ?_, ?_, ?_, ?_, trivial⟩ ?_
      · intro V W hl hn hd hX hC
        have hq : V.length = 12 := hl
        obtain ⟨v0, v1, v2, v3, v4, v5, v6, v7, v8, v9, v10, v11, hV⟩ := qlen12 hq
        subst hV
        obtain rfl : v0 = none := hn
        replace hX := QXl_out hX
        skip
        clear hl hd hC hq
        refine StepZ.go rfl ?_
        go_simp
        exact hX.e0
      · intro V W hl hn hd hX hC
        have hq : V.length = 12 := hl
        obtain ⟨v0, v1, v2, v3, v4, v5, v6, v7, v8, v9, v10, v11, hV⟩ := qlen12 hq
        subst hV
        obtain rfl : v1 = none := hn
        replace hX := QXl_out hX
        obtain ⟨l0, l1, _, _, ll⟩ := (hX.lk rfl).c2
        clear hl hd hC hq
        refine StepZ.go rfl ?_
        go_simp
        exact hX.e1
      · intro V W hl hn hd hX hC
        have hq : V.length = 12 := hl
        obtain ⟨v0, v1, v2, v3, v4, v5, v6, v7, v8, v9, v10, v11, hV⟩ := qlen12 hq
        subst hV
        obtain rfl : v2 = none := hn
        replace hX := QXl_out hX
        have g1 : v1.isSome = true := hd 1 (by decide); obtain ⟨u1, rfl⟩ := Option.isSome_iff_exists.1 g1; clear g1; obtain rfl := hX.p1 _ rfl
        clear hl hd hC hq
        refine StepZ.go rfl ?_
        go_simp
        exact (hX.next ((Ext.refl W).alloc _)).e2 (Blk.new _ _ _)
      · intro V W hl hn hd hX hC; have hq : V.length = 12 := hl; obtain ⟨v0, v1, v2, v3, v4, v5, v6, v7, v8, v9, v10, v11, hV⟩ := qlen12 hq; subst hV; obtain rfl : v3 = none := hn; replace hX := QXl_out hX
        have g0 : v0.isSome = true := hd 0 (by decide); obtain ⟨u0, rfl⟩ := Option.isSome_iff_exists.1 g0; clear g0
        have g2 : v2.isSome = true := hd 2 (by decide)
        have g1 : v1.isSome = true := hC 2 _ rfl g2 1 (by decide)
        obtain ⟨u1, rfl⟩ := Option.isSome_iff_exists.1 g1
        obtain ⟨u2, rfl⟩ := Option.isSome_iff_exists.1 g2
        obtain rfl := hX.p0 _ rfl
        obtain ⟨g, rfl, hg⟩ := hX.p2 _ rfl rfl
        have g9 : v9 = none := by
          cases v9 with
          | none => rfl
          | some q => have := hX.p9 q rfl; cases this
        subst g9
        exact StepZ.pushLN rfl (.tmp 84) (.tmp 86) rfl w.heap.size _ (lnK rows k) rfl (hX.o3 rfl) g ⟨1000, ⟨rA, rc, rz⟩⟩ rfl (hg.cell 0 _ rfl) (hg.cell 1 _ rfl) hlk hX.ext.size fun v' w' ho hg' => hX.e3 ho hg'
      · intro V W hl hn hd hX hC
        have hq : V.length = 12 := hl
        obtain ⟨v0, v1, v2, v3, v4, v5, v6, v7, v8, v9, v10, v11, hV⟩ := qlen12 hq
        subst hV
        obtain rfl : v4 = none := hn
        replace hX := QXl_out hX
        skip
        clear hl hd hC hq
        refine StepZ.go rfl ?_
        go_simp
        exact hX.e4
      · intro V W hl hn hd hX hC
        have hq : V.length = 12 := hl
        obtain ⟨v0, v1, v2, v3, v4, v5, v6, v7, v8, v9, v10, v11, hV⟩ := qlen12 hq
        subst hV
        obtain rfl : v5 = none := hn
        replace hX := QXl_out hX
        have g4 : v4.isSome = true := hd 4 (by decide); obtain ⟨u4, rfl⟩ := Option.isSome_iff_exists.1 g4; clear g4; obtain rfl := hX.p4 _ rfl; obtain rfl := hX.none11; obtain ⟨t0, t1, _, _, tl⟩ := (hX.st rfl).c2
        clear hl hd hC hq
        refine StepZ.go rfl ?_
        go_simp
        exact hX.e5
      · intro V W hl hn hd hX hC
        have hq : V.length = 12 := hl
        obtain ⟨v0, v1, v2, v3, v4, v5, v6, v7, v8, v9, v10, v11, hV⟩ := qlen12 hq
        subst hV
        obtain rfl : v6 = none := hn
        replace hX := QXl_out hX
        skip
        clear hl hd hC hq
        refine StepZ.go rfl ?_
        go_simp
        exact hX.e6
      · intro V W hl hn hd hX hC
        have hq : V.length = 12 := hl
        obtain ⟨v0, v1, v2, v3, v4, v5, v6, v7, v8, v9, v10, v11, hV⟩ := qlen12 hq
        subst hV
        obtain rfl : v7 = none := hn
        replace hX := QXl_out hX
        have g6 : v6.isSome = true := hd 6 (by decide); obtain ⟨u6, rfl⟩ := Option.isSome_iff_exists.1 g6; clear g6; obtain rfl := hX.p6 _ rfl
        clear hl hd hC hq
        refine StepZ.go rfl ?_
        go_simp
        exact (hX.next ((Ext.refl W).alloc _)).e7 (Blk.new _ _ _)
      · intro V W hl hn hd hX hC; have hq : V.length = 12 := hl; obtain ⟨v0, v1, v2, v3, v4, v5, v6, v7, v8, v9, v10, v11, hV⟩ := qlen12 hq; subst hV; obtain rfl : v8 = none := hn; replace hX := QXl_out hX
        obtain rfl := hX.none11'
        have g5 : v5.isSome = true := hd 5 (by decide); obtain ⟨u5, rfl⟩ := Option.isSome_iff_exists.1 g5; clear g5
        have g7 : v7.isSome = true := hd 7 (by decide); obtain ⟨u7, rfl⟩ := Option.isSome_iff_exists.1 g7; clear g7
        obtain rfl := hX.p5 _ rfl
        obtain ⟨g, rfl, hg⟩ := hX.p7 _ rfl rfl
        clear hl hd hC hq
        refine StepZ.pushL rfl (.tmp 89) (.tmp 91) rfl w.heap.size _ tk ?_ (hX.o8 rfl) g ⟨NA, nc, nd⟩ ?_ (hg.cell 0 _ rfl) htk hX.ext.size fun v' w' ho hg' => hX.e8 ho hg'
        · go_simp
        · go_simp
      · intro V W hl hn hd hX hC
        have hq : V.length = 12 := hl
        obtain ⟨v0, v1, v2, v3, v4, v5, v6, v7, v8, v9, v10, v11, hV⟩ := qlen12 hq
        subst hV
        obtain rfl : v9 = none := hn
        replace hX := QXl_out hX
        have g3 : v3.isSome = true := hd 3 (by decide); obtain ⟨u3, rfl⟩ := Option.isSome_iff_exists.1 g3; clear g3
        clear hl hd hC hq
        refine StepZ.go rfl ?_
        go_simp
        exact hX.e9
      · intro V W hl hn hd hX hC
        have hq : V.length = 12 := hl
        obtain ⟨v0, v1, v2, v3, v4, v5, v6, v7, v8, v9, v10, v11, hV⟩ := qlen12 hq
        subst hV
        obtain rfl : v10 = none := hn
        replace hX := QXl_out hX
        skip
        clear hl hd hC hq
        refine StepZ.go rfl ?_
        go_simp
        exact hX.e10
      · intro V W hl hn hd hX hC
        have hq : V.length = 12 := hl
        obtain ⟨v0, v1, v2, v3, v4, v5, v6, v7, v8, v9, v10, v11, hV⟩ := qlen12 hq
        subst hV
        obtain rfl : v11 = none := hn
        replace hX := QXl_out hX
        have g8 : v8.isSome = true := hd 8 (by decide); obtain ⟨u8, rfl⟩ := Option.isSome_iff_exists.1 g8; clear g8; have g10 : v10.isSome = true := hd 10 (by decide); obtain ⟨u10, rfl⟩ := Option.isSome_iff_exists.1 g10; clear g10; obtain rfl := hX.p10 _ rfl; obtain ⟨A8, n8, c8, rfl⟩ := ownL_slice (hX.p8 _ rfl); obtain ⟨t0, t1, f0, f1, tl⟩ := (hX.st rfl).c2
        clear hl hd hC hq
        refine StepZ.go rfl ?_
        go_simp
        exact ⟨rfl, hX.e11 hsb⟩
      · intro V W hl hV hX
        have hq : V.length = 12 := hl
        obtain ⟨v0, v1, v2, v3, v4, v5, v6, v7, v8, v9, v10, v11, hW⟩ := qlen12 hq
        subst hW
        replace hX := QXl_out hX
        have g9 : v9.isSome = true := hV 9 (by decide)
        have g11 : v11.isSome = true := hV 11 (by decide)
        obtain ⟨u9, rfl⟩ := Option.isSome_iff_exists.1 g9
        obtain ⟨u11, rfl⟩ := Option.isSome_iff_exists.1 g11
        obtain rfl := hX.p9 _ rfl
        obtain ⟨u8, rfl, hst⟩ := hX.d _ rfl
        have HNX := Lib.hid (HPU.out W u9 u8 ⟨NA, nc, nd⟩ hX.ext hX.fr hst (hX.p3 _ rfl) (hX.p8 _ rfl) hX.rw)
        clear hl hV hq g9 g11
        simp only [putAll, known, List.map_cons, List.map_nil, Act.put, List.setIfInBounds_toArray, List.set_cons_zero, List.set_cons_succ, Option.getD_some]
        clear hX hst
        go_wp2
        go_roundw
        case rel => exact ⟨k + 1, u8, _, by omega, by go_num, Lib.hid (HNX.out rfl)⟩
        case measure => simp [intOf]; omega
    -- END B3
end Go.Proofs.YtfbdklminljecaaGreatDoor.topturned
