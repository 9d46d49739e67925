/-
  What the row's condition on package variables gives the walk of TopAllItemsOnPages, and that the start of the program meets it.
-/
import Derived.Test.YtfbdklminljecaaGreatDoorLaidF
namespace Go.Proofs.YtfbdklminljecaaGreatDoor
open Go.ChangeShapes Go.WideShapes Go.ChangeAt Go.RowKit Go.Joins Go.Deep

def seatLaid : List (String × DataW Unit) := [("math/bits.deBruijn32tab", Rows.laid_math_bits_deBruijn32tab), ("math/bits.deBruijn64tab", Rows.laid_math_bits_deBruijn64tab), ("internal/strconv.uint64pow10", Rows.laid_internal_strconv_uint64pow10), ("tympan/page.figures", Rows.laid_tympan_page_figures)]
theorem figT_of_laid {W : World} (h : laidMetH Tryz.prog seatLaid W) : FigT W := by
  rw [MakeChecks.laidMetH_plain _ _ _ (by kernel_rfl)] at h
  obtain ⟨ps, ⟨g0, t0, cs0, f0, p0, q0, hg0, ht0, hv0, hd0, ⟨g1, t1, cs1, f1, p1, q1, hg1, ht1, hv1, hd1, ⟨g2, t2, cs2, f2, p2, q2, hg2, ht2, hv2, hd2, ⟨g3, t3, cs3, f3, p3, q3, hg3, ht3, hv3, hd3, _, _⟩, _⟩, _⟩, _⟩, _, _⟩ := h
  obtain rfl := Option.some.inj (powNamed2.symm.trans hg2)
  obtain rfl := Option.some.inj (figsNamed.symm.trans hg3)
  obtain rfl := Option.some.inj (powType.symm.trans ht2)
  obtain rfl := Option.some.inj (figsType.symm.trans ht3)
  have hpow : Lib.TabIs Tryz.prog W "internal/strconv.uint64pow10" .u64 Lib.pow10Tab := by
    unfold Lib.TabIs
    rw [powData] at hd2
    rw [hv2, ← Lib.cells_of_tab Tryz.underlying161 Tryz.underlying133 (by kernel_rfl) (by kernel_rfl) hd2]
  obtain ⟨hf1, hf2⟩ := figs_of_trod hv3 hd3
  exact ⟨hpow, hf1, hf2⟩
theorem door_met (os : Os) (args : Array Value) : laidMetH Tryz.prog seatLaid ((World.doorLaid Tryz.prog 400 os).forCall (fun _ _ => 0) ⟨#[], args, []⟩).memory :=
  laidMetH_of_parts3 (fuel := 8) (laidMet_of_run' 8 (by kernel_rfl) (by kernel_rfl)) (by kernel_rfl) (by kernel_rfl)
end Go.Proofs.YtfbdklminljecaaGreatDoor
