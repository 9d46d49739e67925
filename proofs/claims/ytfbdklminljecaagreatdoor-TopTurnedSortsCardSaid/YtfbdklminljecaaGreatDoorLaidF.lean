/-
  The roman figures as a laid variable: its cells.
-/
import Derived.Test.YtfbdklminljecaaGreatDoorTie
import Derived.Test.YtfbdklminljecaaGreatDoorGD
import Derived.Test.YtfbdklminljecaaGreatDoorGE
import Derived.LaidMore
import Derived.LaidHandle
import Derived.LaidLaws
import Derived.MakeChecks
import Derived.Stop.Joined
import Derived.Lib.LaidTab
namespace Go.Proofs.YtfbdklminljecaaGreatDoor
open Go.ChangeShapes Go.WideShapes Go.ChangeAt Go.RowKit Go.Joins Go.Deep

theorem figsNamed : Tryz.prog.globalNamed "tympan/page.figures" = some 0 := by kernel_rfl
theorem figsType : (Tryz.prog.globals[0]?).map (·.type) = some 94 := by kernel_rfl
theorem powType : (Tryz.prog.globals[1]?).map (·.type) = some 161 := by kernel_rfl
theorem powData : (Rows.laid_internal_strconv_uint64pow10 : DataW Unit) = Lib.tabData .u64 Lib.pow10Tab := by kernel_rfl
theorem figsData : (Rows.laid_tympan_page_figures : DataW Unit) = .agg (figs.map fun p => .agg [.lit (.int .i64 (p.1 : Int)), .lit (.string p.2)]) := by kernel_rfl
theorem two_of {α : Type} {l : List α} (h : l.length = 2) : ∃ a b, l = [a, b] := by
  match l, h with
  | [a, b], _ => exact ⟨a, b, rfl⟩
theorem roman_trod {w : World} {fuel : Nat} {cs : List Value} {x : DataW Unit × List MemPlace} {v : Int} {l : List UInt8} (h : DataW.trod (fun _ => ()) Tryz.prog w 0 (fun _ => true) false fuel 93 cs = some x)
    (hx : x.1 = .agg [.lit (.int .i64 v), .lit (.string l)]) : cs[0]? = some (.int .i64 v) ∧ cs[1]? = some (.string ⟨l.toArray⟩) := by
  obtain ⟨xs, n, rfl, rfl, hl, hn, hat⟩ := DataW.trod_struct Tryz.underlying93 h
  simp only [DataW.agg.injEq] at hx
  have hc1 : Tryz.prog.cellsOf 3 = 1 := by kernel_rfl
  have hc2 : Tryz.prog.cellsOf 9 = 1 := by kernel_rfl
  have h0 : DataW.trod (fun _ => ()) Tryz.prog w 0 (fun _ => true) false n 3 ((cs.drop 0).take (Tryz.prog.cellsOf 3)) = xs[0]? := hat 0 _ rfl
  have h1 : DataW.trod (fun _ => ()) Tryz.prog w 0 (fun _ => true) false n 9 ((cs.drop 1).take (Tryz.prog.cellsOf 9)) = xs[1]? := hat 1 _ rfl
  rw [hc1] at h0
  rw [hc2] at h1
  have hl2 : xs.length = 2 := by have := congrArg List.length hx; simpa using this
  obtain ⟨y0, y1, rfl⟩ := two_of hl2
  · skip
    simp only [List.map_cons, List.map_nil, List.cons.injEq, and_true] at hx
    obtain ⟨z, e0, e1, _⟩ := DataW.trod_int Tryz.underlying3 h0
    obtain ⟨s, d0, d1, _⟩ := DataW.trod_string Tryz.underlying9 h1
    subst e1 d1
    simp only [DataW.lit.injEq, Lit.int.injEq, Lit.string.injEq, true_and] at hx
    obtain ⟨rfl, rfl⟩ := hx
    have c0 := congrArg (·[0]?) e0
    have c1 := congrArg (·[0]?) d0
    simp only [List.getElem?_take, List.getElem?_drop, List.getElem?_cons_zero] at c0 c1
    refine ⟨by simpa using c0, ?_⟩
    have e9 : (⟨s.data.toList.toArray⟩ : ByteArray) = s := by obtain ⟨⟨a⟩⟩ := s; rfl
    rw [e9]
    simpa using c1
theorem figsArr_at (i : Nat) (hi : i < 13) : figsArr[i * 2]? = some (.int .i64 ((figs.getD i (0, [])).1 : Int)) ∧ figsArr[i * 2 + 1]? = some (.string ⟨(figs.getD i (0, [])).2.toArray⟩) := by
  match i, hi with
  | 0, _ | 1, _ | 2, _ | 3, _ | 4, _ | 5, _ | 6, _ | 7, _ | 8, _ | 9, _ | 10, _ | 11, _ | 12, _ => exact ⟨rfl, rfl⟩
theorem figs_of_trod {w : World} {fuel : Nat} {cs : Array Value} {p : List MemPlace} (hv : w.var? Tryz.prog "tympan/page.figures" = some cs) (h : DataW.trod (fun _ => ()) Tryz.prog w 0 (fun _ => true) false fuel 94 cs.toList = some (Rows.laid_tympan_page_figures, p)) :
    w.rangeAt 0 0 figsArr.toList ∧ 0 < w.heap.size := by
  obtain ⟨xs, m, _, hx, hcl, hn, hat⟩ := DataW.trod_array Tryz.underlying94 h
  have hc1 : Tryz.prog.cellsOf 93 = 2 := by kernel_rfl
  simp only [hc1] at hat
  have hdat := (Prod.mk.inj hx).1
  rw [figsData] at hdat
  simp only [DataW.agg.injEq] at hdat
  have c : ∀ k, w.cell? ⟨0, k, none⟩ = cs.toList[k]? := fun k => by rw [World.var?_cell figsNamed hv k, Array.getElem?_toList]
  have key : ∀ i, i < 13 → cs.toList[i * 2]? = some (.int .i64 ((figs.getD i (0, [])).1 : Int)) ∧ cs.toList[i * 2 + 1]? = some (.string ⟨(figs.getD i (0, [])).2.toArray⟩) := fun i hi => by
    have h1 := hat i hi
    cases hxi : xs[i]? with
    | none =>
      rw [List.getElem?_eq_none_iff] at hxi
      omega
    | some y =>
      rw [hxi] at h1
      have hy : y.1 = .agg [.lit (.int .i64 ((figs.getD i (0, [])).1 : Int)), .lit (.string (figs.getD i (0, [])).2)] := by
        have h2 := congrArg (·[i]?) hdat
        simp only [List.getElem?_map, hxi, Option.map_some] at h2
        rw [List.getElem?_eq_getElem (show i < figs.length from hi)] at h2
        simp only [Option.map_some, Option.some.injEq] at h2
        rw [← h2, List.getD_eq_getElem?_getD, List.getElem?_eq_getElem (show i < figs.length from hi)]
        rfl
      obtain ⟨q0, q1⟩ := roman_trod h1 hy
      simp only [List.getElem?_take, List.getElem?_drop] at q0 q1
      exact ⟨by simpa using q0, by simpa using q1⟩
  refine ⟨fun j v hj => ?_, ?_⟩
  · have hjl : j < 26 := by
      rcases Nat.lt_or_ge j 26 with h9 | h9
      · exact h9
      · rw [List.getElem?_eq_none (show figsArr.toList.length ≤ j from h9)] at hj; cases hj
    rw [Nat.zero_add, c]
    rw [Array.getElem?_toList] at hj
    obtain ⟨k0, k1⟩ := key (j / 2) (by omega)
    obtain ⟨a0, a1⟩ := figsArr_at (j / 2) (by omega)
    rcases (show j = j / 2 * 2 ∨ j = j / 2 * 2 + 1 by omega) with e | e
    · rw [e] at hj ⊢; rw [k0, ← a0, hj]
    · rw [e] at hj ⊢; rw [k1, ← a1, hj]
  · have := c 0
    rw [(key 0 (by decide)).1] at this
    exact cell_lt this
theorem own : ownKnob Tryz.prog.godebug = none := by kernel_rfl
theorem laidOut : laidOutB Tryz.prog = true := by kernel_rfl
end Go.Proofs.YtfbdklminljecaaGreatDoor
