/-
  Walk: chapter 5: the document's examples hold (awake).
-/
import Derived.Test.YtffafbllgdonlaaGreatDoorGJ
import Derived.Test.YtffafbllgdonlaaGreatDoorParse
import Derived.Test.YtffafbllgdonlaaGreatDoorPgCol
import Derived.Test.YtffafbllgdonlaaGreatDoorGI
namespace Go.Proofs.YtffafbllgdonlaaGreatDoor
open Go.RowKit

theorem col_used : usedByR colG colQ 0 5 = (56, 0) := by
  unfold usedByR
  rw [if_neg (by rw [col_book]; decide)]
  decide +kernel
theorem xiv_par : parR [120, 105, 118] = (14, true, 0) := by decide +kernel
theorem roman_turn (a b c : Option Addr) : turnL roman [3, 2, 0, 0, 0] [⟨0, ⟨a, 2, [0, 1]⟩⟩, ⟨0, ⟨b, 3, [0, 0, 1]⟩⟩, ⟨0, ⟨c, 1, [0]⟩⟩] = [(2, 0)] ∧ turnE roman [3, 2, 0, 0, 0] [⟨0, ⟨a, 2, [0, 1]⟩⟩, ⟨0, ⟨b, 3, [0, 0, 1]⟩⟩, ⟨0, ⟨c, 1, [0]⟩⟩] = 0 := by
  constructor <;> kernel_rfl
theorem ri_blk {w : World} {g : Nat} {zs : List Int} (h : Blk w g 3 (zs.map (Value.int .i64)).toArray) (hl : zs.length ≤ 1000000) : RI w (some ⟨g, 0, none⟩) zs.length zs :=
  ⟨rfl, by omega, fun _ => ⟨g, 0, rfl, h.lt, fun k hk => by
    rw [Nat.zero_add]
    refine h.cell k _ ?_
    simp [List.getD_eq_getElem?_getD, hk]⟩⟩
theorem turn_lit (w : World) : RI (((((w.alloc (.cells #[.int .i64 3, .int .i64 2, .int .i64 0, .int .i64 0, .int .i64 0] 3)).alloc (.cells #[.int .i64 0, .int .i64 1] 3)).alloc (.cells #[.int .i64 0, .int .i64 0, .int .i64 1] 3)).alloc (.cells #[.int .i64 0] 3)).alloc (.cells #[.int .i64 0, .slice (some ⟨w.heap.size + 1, 0, none⟩) 2 2, .int .i64 0, .slice (some ⟨w.heap.size + 1 + 1, 0, none⟩) 3 3, .int .i64 0, .slice (some ⟨w.heap.size + 1 + 1 + 1, 0, none⟩) 1 1] 29)) (some ⟨w.heap.size, 0, none⟩) 5 [3, 2, 0, 0, 0] ∧
    RLN (((((w.alloc (.cells #[.int .i64 3, .int .i64 2, .int .i64 0, .int .i64 0, .int .i64 0] 3)).alloc (.cells #[.int .i64 0, .int .i64 1] 3)).alloc (.cells #[.int .i64 0, .int .i64 0, .int .i64 1] 3)).alloc (.cells #[.int .i64 0] 3)).alloc (.cells #[.int .i64 0, .slice (some ⟨w.heap.size + 1, 0, none⟩) 2 2, .int .i64 0, .slice (some ⟨w.heap.size + 1 + 1, 0, none⟩) 3 3, .int .i64 0, .slice (some ⟨w.heap.size + 1 + 1 + 1, 0, none⟩) 1 1] 29)) (some ⟨w.heap.size + 1 + 1 + 1 + 1, 0, none⟩) 3
      [⟨0, ⟨some ⟨w.heap.size + 1, 0, none⟩, 2, [0, 1]⟩⟩, ⟨0, ⟨some ⟨w.heap.size + 1 + 1, 0, none⟩, 3, [0, 0, 1]⟩⟩, ⟨0, ⟨some ⟨w.heap.size + 1 + 1 + 1, 0, none⟩, 1, [0]⟩⟩] := by
  have h0 := Blk.new w 3 #[.int .i64 3, .int .i64 2, .int .i64 0, .int .i64 0, .int .i64 0]
  generalize hW0 : w.alloc (.cells #[.int .i64 3, .int .i64 2, .int .i64 0, .int .i64 0, .int .i64 0] 3) = w0 at *
  have s0 : w0.heap.size = w.heap.size + 1 := by rw [← hW0]; simp
  have h1 := Blk.new w0 3 #[.int .i64 0, .int .i64 1]
  rw [s0] at h1
  generalize hW1 : w0.alloc (.cells #[.int .i64 0, .int .i64 1] 3) = w1 at *
  have s1 : w1.heap.size = w.heap.size + 1 + 1 := by rw [← hW1, World.size_alloc, s0]
  have h2 := Blk.new w1 3 #[.int .i64 0, .int .i64 0, .int .i64 1]
  rw [s1] at h2
  generalize hW2 : w1.alloc (.cells #[.int .i64 0, .int .i64 0, .int .i64 1] 3) = w2 at *
  have s2 : w2.heap.size = w.heap.size + 1 + 1 + 1 := by rw [← hW2, World.size_alloc, s1]
  have h3 := Blk.new w2 3 #[.int .i64 0]
  rw [s2] at h3
  generalize hW3 : w2.alloc (.cells #[.int .i64 0] 3) = w3 at *
  have s3 : w3.heap.size = w.heap.size + 1 + 1 + 1 + 1 := by rw [← hW3, World.size_alloc, s2]
  have h4 := Blk.new w3 29 #[.int .i64 0, .slice (some ⟨w.heap.size + 1, 0, none⟩) 2 2, .int .i64 0, .slice (some ⟨w.heap.size + 1 + 1, 0, none⟩) 3 3, .int .i64 0, .slice (some ⟨w.heap.size + 1 + 1 + 1, 0, none⟩) 1 1]
  rw [s3] at h4
  generalize hW4 : w3.alloc (.cells #[.int .i64 0, .slice (some ⟨w.heap.size + 1, 0, none⟩) 2 2, .int .i64 0, .slice (some ⟨w.heap.size + 1 + 1, 0, none⟩) 3 3, .int .i64 0, .slice (some ⟨w.heap.size + 1 + 1 + 1, 0, none⟩) 1 1] 29) = w4 at *
  have e1 : Ext w0 w1 := by rw [← hW1]; exact (Ext.refl _).alloc _
  have e2 : Ext w1 w2 := by rw [← hW2]; exact (Ext.refl _).alloc _
  have e3 : Ext w2 w3 := by rw [← hW3]; exact (Ext.refl _).alloc _
  have e4 : Ext w3 w4 := by rw [← hW4]; exact (Ext.refl _).alloc _
  have r1 := ri_blk (zs := [0, 1]) (h1.ext (e2.trans (e3.trans e4))) (by decide)
  have r2 := ri_blk (zs := [0, 0, 1]) (h2.ext (e3.trans e4)) (by decide)
  have r3 := ri_blk (zs := [0]) (h3.ext e4) (by decide)
  refine ⟨ri_blk (zs := [3, 2, 0, 0, 0]) (h0.ext (e1.trans (e2.trans (e3.trans e4)))) (by decide), rfl, by decide, fun _ => ⟨_, 0, rfl, h4.lt, fun k hk => ?_⟩, fun k hk => ?_⟩
  · rcases (show k = 0 ∨ k = 1 ∨ k = 2 by omega) with rfl | rfl | rfl <;> exact ⟨h4.cell _ _ rfl, h4.cell _ _ rfl⟩
  · rcases (show k = 0 ∨ k = 1 ∨ k = 2 by omega) with rfl | rfl | rfl
    · exact r1
    · exact r2
    · exact r3
set_option maxRecDepth 100000 in
set_option maxHeartbeats 8000000 in
theorem awake5_any (w : World) (hT : Tab5 w) : Calls Tryz.prog 8 #[] w (Ret (.bool true) w) := by
  have CB : Hid (∀ W a, GR W a colG → Calls Tryz.prog 44 #[colG.val a, colQ.val] W (RetB (bestB colG colQ) (bestL colG colQ) 16 0 W)) := Lib.hid fun W a h => by
    have := best_any colG a colQ W h
    rwa [col_best.1, col_best.2] at this
  have CU : Hid (∀ W a, GR W a colG → Calls Tryz.prog 41 #[colG.val a, colQ.val, .agg #[.int .i64 0, .int .i64 5]] W (Ret (.tuple #[.int .i64 56, .int .i64 0]) W)) := Lib.hid fun W a h => by
    have := usedBy_any colG a colQ 0 5 W h
    rwa [col_used] at this
  have CF : Hid (∀ W, FigT W → Calls Tryz.prog 46 #[.int .i64 1994, .bool true] W (Ret (.tuple #[.string ⟨#[109, 99, 109, 120, 99, 105, 118]⟩, .int .i64 0]) W)) := Lib.hid fun W h => by
    have := folio_any 1994 true W (by unfold I64; omega) h
    unfold folV at this
    rwa [fol_1994] at this
  have CP : Hid (∀ W, Tab5 W → Calls Tryz.prog 47 #[.string ⟨#[120, 105, 118]⟩] W (Ret (.tuple #[.int .i64 14, .bool true, .int .i64 0]) W)) := Lib.hid fun W h => by
    have := parseFolioL [120, 105, 118] W (by decide) h
    unfold parV at this
    rwa [xiv_par] at this
  have CT : Hid (∀ W A c, FR W A c roman → Calls Tryz.prog 37 #[roman.val A c, .slice (some ⟨W.heap.size, 0, none⟩) 5 5, .slice (some ⟨W.heap.size + 1 + 1 + 1 + 1, 0, none⟩) 3 3] (((((W.alloc (.cells #[.int .i64 3, .int .i64 2, .int .i64 0, .int .i64 0, .int .i64 0] 3)).alloc (.cells #[.int .i64 0, .int .i64 1] 3)).alloc (.cells #[.int .i64 0, .int .i64 0, .int .i64 1] 3)).alloc (.cells #[.int .i64 0] 3)).alloc (.cells #[.int .i64 0, .slice (some ⟨W.heap.size + 1, 0, none⟩) 2 2, .int .i64 0, .slice (some ⟨W.heap.size + 1 + 1, 0, none⟩) 3 3, .int .i64 0, .slice (some ⟨W.heap.size + 1 + 1 + 1, 0, none⟩) 1 1] 29))
      (fun e w' => ∃ P c, e = .returned (.tuple #[.slice P 1 c, .int .i64 0]) ∧ RPR w' P [(2, 0)] ∧ Ext W w')) := Lib.hid fun W A c h => by
    obtain ⟨h1, h2⟩ := turn_lit W
    have := turned_any roman A c _ 5 [3, 2, 0, 0, 0] _ 3 _ _ (h.ext (by repeat (first | exact Ext.refl _ | assumption | refine Ext.alloc ?_ _ | refine Ext.drew ?_ | refine Ext.drewN ?_ _ | (refine Ext.setCell ?_ (by simp <;> omega) _) | refine Ext.trans ?_ (by assumption)))) h1 h2
    rw [(roman_turn _ _ _).1, (roman_turn _ _ _).2] at this
    exact this.mono fun e w' ⟨P, c, q1, q2, q3⟩ => ⟨P, c, q1, q2, Ext.trans (by repeat (first | exact Ext.refl _ | assumption | refine Ext.alloc ?_ _ | refine Ext.drew ?_ | refine Ext.drewN ?_ _ | (refine Ext.setCell ?_ (by simp <;> omega) _) | refine Ext.trans ?_ (by assumption))) q3⟩
  have CR := Lib.hid (fun W => roman_any W)
  have CC : Hid (∀ W, Calls Tryz.prog 42 #[] W (RetG colG W)) := Lib.hid column_any
  have CQ : Hid (∀ W, Calls Tryz.prog 43 #[] W (Ret colQ.val W)) := Lib.hid colRules_any
  have HT := Lib.hid hT; have HTF := Lib.hid hT.fig; clear hT
  generalize bestB colG colQ = bs at *
  generalize bestL colG colQ = ls at *
  generalize colQ.val = qv at *
  generalize colG = cg at *
  generalize roman = rf at *
  go_enter Tryz.func8, Tryz.ntmps8
  go_upto_region 3 with (first | (go_at_call 42; refine Calls.mono (CC.out _) ?_; rintro e w1 ⟨a, rfl, hga, hb1⟩; have HGA := Lib.hid hga; clear hga) | (go_at_call 43; refine Calls.mono (CQ.out _) ?_; rintro e w2 ⟨rfl, hb2⟩) | (go_at_call 41; refine Calls.mono (CU.out _ _ ?_) ?_; (exact HGA.out.ext (by repeat (first | exact Ext.refl _ | assumption | refine Ext.alloc ?_ _ | refine Ext.drew ?_ | refine Ext.drewN ?_ _ | (refine Ext.setCell ?_ (by simp <;> omega) _) | refine Ext.trans ?_ (by assumption)))); rintro e w3 ⟨rfl, hb3⟩) | (go_at_call 44; refine Calls.mono (CB.out _ _ ?_) ?_; (exact HGA.out.ext (by repeat (first | exact Ext.refl _ | assumption | refine Ext.alloc ?_ _ | refine Ext.drew ?_ | refine Ext.drewN ?_ _ | (refine Ext.setCell ?_ (by simp <;> omega) _) | refine Ext.trans ?_ (by assumption)))); rintro e w3 ⟨A, cA, B, cB, rfl, _, _, _, _, hb3⟩))
  clear HGA
  have HX3 : Hid (Ext w w3) := Lib.hid (by repeat (first | exact Ext.refl _ | assumption | refine Ext.alloc ?_ _ | refine Ext.drew ?_ | refine Ext.drewN ?_ _ | (refine Ext.setCell ?_ (by simp <;> omega) _) | refine Ext.trans ?_ (by assumption)))
  have heq := eq_pair 2 0 2 0
  simp only [beq_self_eq_true, Bool.and_self] at heq
  go_wp2_with (first | (go_at_call 45; refine Calls.mono (CR.out _) ?_; rintro e w4 ⟨RA, rc, rfl, hfr, hb4⟩; have HFR := Lib.hid hfr; clear hfr) | (go_at_call 37; refine Calls.mono (CT.out _ _ _ HFR.out) ?_; rintro e w5 ⟨P, cP, rfl, hpr, hb5⟩; obtain ⟨pb, rfl, hpl, hpc⟩ := hpr (by decide); have HPC := Lib.hid (hpc 0 (by decide)); have HPL := Lib.hid hpl; clear hpc hpr hpl) | (go_at_call 46; refine Calls.mono (CF.out _ (HTF.out.ext (HX3.out.trans (hb4.trans hb5)))) ?_; rintro e w6 ⟨rfl, hb6⟩) | (go_at_call 47; refine Calls.mono (CP.out _ (HT.out.ext (HX3.out.trans (hb4.trans (hb5.trans hb6))))) ?_; rintro e w7 ⟨rfl, hb7⟩; have p0 := ((hb6.trans hb7).cell (p := ⟨pb, 0, none⟩) HPL.out).trans HPC.out.1; have p1 := ((hb6.trans hb7).cell (p := ⟨pb, 1, none⟩) HPL.out).trans HPC.out.2; have pl : pb < w7.heap.size := Nat.lt_of_lt_of_le HPL.out (hb6.trans hb7).size))
  go_ret
  exact Ret.mk' rfl (HX3.out.trans (hb4.trans (hb5.trans (hb6.trans hb7))))
end Go.Proofs.YtffafbllgdonlaaGreatDoor
