/-
  What the rows' condition on package variables gives the walks of chapter 5, and that the start of the program meets it.
-/
import Derived.Test.YtffafbllgdonlaaGreatDoorLaidF
import Derived.Test.YtffafbllgdonlaaGreatDoorParse
namespace Go.Proofs.YtffafbllgdonlaaGreatDoor
open Go.ChangeShapes Go.WideShapes Go.ChangeAt Go.RowKit Go.Joins Go.Deep

def seatLaid : List (String × DataW Unit) := [("math/bits.deBruijn32tab", Rows.laid_math_bits_deBruijn32tab), ("math/bits.deBruijn64tab", Rows.laid_math_bits_deBruijn64tab), ("internal/strconv.uint64pow10", Rows.laid_internal_strconv_uint64pow10), ("strconv.ErrRange", Rows.laid_strconv_ErrRange), ("strconv.ErrSyntax", Rows.laid_strconv_ErrSyntax), ("tympan/page.figures", Rows.laid_tympan_page_figures)]
theorem errRangeNamed : Tryz.prog.globalNamed "strconv.ErrRange" = some 3 := by kernel_rfl
theorem errSyntaxNamed : Tryz.prog.globalNamed "strconv.ErrSyntax" = some 2 := by kernel_rfl
theorem errRangeType : (Tryz.prog.globals[3]?).map (·.type) = some 125 := by kernel_rfl
theorem errSyntaxType : (Tryz.prog.globals[2]?).map (·.type) = some 125 := by kernel_rfl
theorem tab5_of_laid {W : World} (h : laidMetH Tryz.prog seatLaid W) : Tab5 W := by
  rw [MakeChecks.laidMetH_plain _ _ _ (by kernel_rfl)] at h
  obtain ⟨ps, ⟨g0, t0, cs0, f0, p0, q0, hg0, ht0, hv0, hd0, ⟨g1, t1, cs1, f1, p1, q1, hg1, ht1, hv1, hd1, ⟨g2, t2, cs2, f2, p2, q2, hg2, ht2, hv2, hd2, ⟨g3, t3, cs3, f3, p3, q3, hg3, ht3, hv3, hd3, ⟨g4, t4, cs4, f4, p4, q4, hg4, ht4, hv4, hd4, ⟨g5, t5, cs5, f5, p5, q5, hg5, ht5, hv5, hd5, _, _⟩, _⟩, _⟩, _⟩, _⟩, _⟩, _, _⟩ := h
  obtain rfl := Option.some.inj (powNamed2.symm.trans hg2)
  obtain rfl := Option.some.inj (errRangeNamed.symm.trans hg3)
  obtain rfl := Option.some.inj (errSyntaxNamed.symm.trans hg4)
  obtain rfl := Option.some.inj (figsNamed.symm.trans hg5)
  obtain rfl := Option.some.inj (powType.symm.trans ht2)
  obtain rfl := Option.some.inj (errRangeType.symm.trans ht3)
  obtain rfl := Option.some.inj (errSyntaxType.symm.trans ht4)
  obtain rfl := Option.some.inj (figsType.symm.trans ht5)
  have hpow : Lib.TabIs Tryz.prog W "internal/strconv.uint64pow10" .u64 Lib.pow10Tab := by
    unfold Lib.TabIs
    rw [powData] at hd2
    rw [hv2, ← Lib.cells_of_tab Tryz.underlying264 Tryz.underlying219 (by kernel_rfl) (by kernel_rfl) hd2]
  obtain ⟨_, u3, v3, e3, _, _⟩ := iface_of_trod Tryz.underlying125 hd3
  obtain ⟨_, u4, v4, e4, _, _⟩ := iface_of_trod Tryz.underlying125 hd4
  obtain ⟨hf1, hf2⟩ := figs_of_trod hv5 hd5
  have c3 : W.cell? ⟨3, 0, none⟩ = some (.iface u3 v3) := by rw [World.var?_cell errRangeNamed hv3 0, ← Array.getElem?_toList, e3]; rfl
  have c4 : W.cell? ⟨2, 0, none⟩ = some (.iface u4 v4) := by rw [World.var?_cell errSyntaxNamed hv4 0, ← Array.getElem?_toList, e4]; rfl
  exact ⟨⟨hpow, hf1, hf2⟩, ⟨_, _, c4⟩, ⟨_, _, c3⟩, cell_lt c4, cell_lt c3⟩
theorem door_met (os : Os) (args : Array Value) : laidMetH Tryz.prog seatLaid ((World.doorLaid Tryz.prog 400 os).forCall (fun _ _ => 0) ⟨#[], args, []⟩).memory :=
  laidMetH_of_parts3 (fuel := 8) (laidMet_of_run' 8 (by kernel_rfl) (by kernel_rfl)) (by kernel_rfl) (by kernel_rfl)
end Go.Proofs.YtffafbllgdonlaaGreatDoor
