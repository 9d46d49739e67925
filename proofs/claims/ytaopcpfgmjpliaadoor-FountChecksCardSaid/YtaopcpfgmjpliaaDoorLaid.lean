/-
  What the row's condition on package variables gives the walks, and that the start of the program meets it.
-/
import Derived.Test.YtaopcpfgmjpliaaDoorTie
import Derived.Test.YtaopcpfgmjpliaaDoorAwake
import Derived.Test.YtaopcpfgmjpliaaDoorOpen
import Derived.LaidMore
import Derived.LaidHandle
import Derived.MakeChecks
import Derived.Stop.Joined
import Derived.Lib.LaidTab
namespace Go.Proofs.YtaopcpfgmjpliaaDoor
open Go.ChangeShapes Go.WideShapes Go.ChangeAt Go.RowKit Go.Joins Go.Deep

def seatLaid : List (String × DataW Unit) := [("math/bits.deBruijn32tab", Rows.laid_math_bits_deBruijn32tab), ("math/bits.deBruijn64tab", Rows.laid_math_bits_deBruijn64tab), ("internal/strconv.uint64pow10", Rows.laid_internal_strconv_uint64pow10), ("tympan/fount.kinds", Rows.laid_tympan_fount_kinds)]
theorem kindsNamed : Tryd.prog.globalNamed "tympan/fount.kinds" = some 0 := by kernel_rfl
theorem kindsType : (Tryd.prog.globals[0]?).map (·.type) = some 79 := by kernel_rfl
theorem powType : (Tryd.prog.globals[2]?).map (·.type) = some 113 := by kernel_rfl
theorem powData : (Rows.laid_internal_strconv_uint64pow10 : DataW Unit) = Lib.tabData .u64 Lib.pow10Tab := by kernel_rfl
theorem kind_at {w : World} {fuel : Nat} {cs : List Value} {xs : List (DataW Unit × List MemPlace)} {k : Nat} {l : List UInt8} (h : DataW.trod (fun _ => ()) Tryd.prog w 0 (fun _ => true) false fuel 9 ((cs.drop (k * 1)).take 1) = xs[k]?)
    (hx : (xs.map (·.1))[k]? = some (.lit (.string l))) : cs[k]? = some (.string ⟨l.toArray⟩) := by
  cases hxk : xs[k]? with
  | none => rw [List.getElem?_map, hxk] at hx; cases hx
  | some y =>
    rw [hxk] at h
    obtain ⟨s, e0, e1, _⟩ := DataW.trod_string Tryd.underlying9 h
    rw [List.getElem?_map, hxk] at hx
    subst e1
    simp only [Option.map_some, Option.some.injEq, DataW.lit.injEq, Lit.string.injEq] at hx
    have h1 : cs[k]? = some (.string s) := by
      have := congrArg (·[0]?) e0
      simpa [List.getElem?_take, List.getElem?_drop] using this
    rw [h1, ← hx]
theorem tabs_of_laid {W : World} (h : laidMetH Tryd.prog seatLaid W) : Tabs W := by
  rw [MakeChecks.laidMetH_plain _ _ _ (by kernel_rfl)] at h
  obtain ⟨ps, ⟨g0, t0, cs0, f0, p0, q0, hg0, ht0, hv0, hd0, ⟨g1, t1, cs1, f1, p1, q1, hg1, ht1, hv1, hd1, ⟨g2, t2, cs2, f2, p2, q2, hg2, ht2, hv2, hd2, ⟨g3, t3, cs3, f3, p3, q3, hg3, ht3, hv3, hd3, _, _⟩, _⟩, _⟩, _⟩, _, _⟩ := h
  obtain rfl := Option.some.inj (powNamed.symm.trans hg2)
  obtain rfl := Option.some.inj (kindsNamed.symm.trans hg3)
  obtain rfl := Option.some.inj (powType.symm.trans ht2)
  obtain rfl := Option.some.inj (kindsType.symm.trans ht3)
  have hpow : Lib.TabIs Tryd.prog W "internal/strconv.uint64pow10" .u64 Lib.pow10Tab := by
    unfold Lib.TabIs
    rw [powData] at hd2
    rw [hv2, ← Lib.cells_of_tab Tryd.underlying113 Tryd.underlying102 (by kernel_rfl) (by kernel_rfl) hd2]
  obtain ⟨xs, m, _, hx, hcl, hn, hat⟩ := DataW.trod_array Tryd.underlying79 hd3
  have hc1 : Tryd.prog.cellsOf 9 = 1 := by kernel_rfl
  simp only [hc1] at hat
  have hdat := (Prod.mk.inj hx).1
  unfold Rows.laid_tympan_fount_kinds at hdat
  simp only [DataW.agg.injEq] at hdat
  have c : ∀ k, W.cell? ⟨0, k, none⟩ = cs3.toList[k]? := fun k => by rw [World.var?_cell kindsNamed hv3 k, Array.getElem?_toList]
  have k1 := kind_at (l := [108, 101, 116, 116, 101, 114]) (hat 1 (by omega)) (by rw [← hdat]; rfl)
  have k2 := kind_at (l := [108, 105, 103, 97, 116, 117, 114, 101]) (hat 2 (by omega)) (by rw [← hdat]; rfl)
  have k3 := kind_at (l := [115, 112, 97, 99, 101]) (hat 3 (by omega)) (by rw [← hdat]; rfl)
  refine ⟨hpow, (c 1).trans k1, (c 2).trans k2, (c 3).trans k3, ?_⟩
  exact cell_lt ((c 1).trans k1)
theorem door_met (os : Os) (args : Array Value) : laidMetH Tryd.prog seatLaid ((World.doorLaid Tryd.prog 400 os).forCall (fun _ _ => 0) ⟨#[], args, []⟩).memory :=
  laidMetH_of_parts3 (fuel := 8) (laidMet_of_run' 8 (by kernel_rfl) (by kernel_rfl)) (by kernel_rfl) (by kernel_rfl)
theorem own : ownKnob Tryd.prog.godebug = none := by kernel_rfl
theorem laidOut : laidOutB Tryd.prog = true := by kernel_rfl
end Go.Proofs.YtaopcpfgmjpliaaDoor
