/-
  Walks: chapter 5: the document's first example, and that it is made up.
-/
import Derived.Test.YtfbdklminljecaaGreatDoorPgFind
import Derived.Test.YtfbdklminljecaaGreatDoorGD
namespace Go.Proofs.YtfbdklminljecaaGreatDoor
open Go.RowKit

def colG : GT := ⟨[⟨1, 12, -1, 1, 3⟩, ⟨1, 12, -1, 2, 3⟩, ⟨1, 12, -1, 3, 3⟩, ⟨4, 6, -1, 0, 0⟩, ⟨2, 14, -1, 0, 0⟩, ⟨1, 12, -1, 1, 2⟩, ⟨1, 12, -1, 2, 2⟩], []⟩
def colQ : QT := ⟨40, 4, 100, 100⟩
set_option maxRecDepth 100000 in
theorem col_book : bookErr colG colQ = 0 := by decide +kernel
set_option maxRecDepth 100000 in
theorem col_least : (allB (costR colG colQ) 7 7).lab.getD 7 0 = 16 := by decide +kernel
theorem col_best : bestE colG colQ = 0 ∧ bestC colG colQ = 16 := by
  have h : bestE colG colQ = 0 := by
    unfold bestE
    rw [if_neg (by rw [col_book]; decide), if_neg (by decide)]
    show (if (allB (costR colG colQ) 7 7).lab.getD 7 0 = farC then (12 : Int) else 0) = 0
    rw [col_least, if_neg (by decide)]
  refine ⟨h, ?_⟩
  unfold bestC
  rw [if_pos h]
  exact col_least
theorem fol_1994 : folL 1994 true = ([109, 99, 109, 120, 99, 105, 118], 0) := by decide +kernel
theorem colText_any (a b : Int) (w : World) : Calls Tryz.prog 36 #[.int .i64 a, .int .i64 b] w (Ret (.agg #[.int .i64 1, .int .i64 12, .int .i64 (-1), .int .i64 a, .int .i64 b]) w) := by
  go_enter Tryz.func36, Tryz.ntmps36
  go_wp2
  refine bodyPost_ret (v := .agg #[.int .i64 1, .int .i64 12, .int .i64 (-1), .int .i64 a, .int .i64 b]) (by simp [results, Tryz.results36, go_sem]) rfl (Ret.mk' rfl (by repeat (first | exact Ext.refl _ | assumption | refine Ext.alloc ?_ _ | refine Ext.drew ?_ | refine Ext.drewN ?_ _ | (refine Ext.setCell ?_ (by simp <;> omega) _) | refine Ext.trans ?_ (by assumption))))
theorem colRules_any (w : World) : Calls Tryz.prog 16 #[] w (Ret colQ.val w) := by
  go_enter Tryz.func16, Tryz.ntmps16
  go_wp2
  refine bodyPost_ret (v := colQ.val) (by simp [results, Tryz.results16, go_sem, colQ, QT.val]) rfl (Ret.mk' rfl (by repeat (first | exact Ext.refl _ | assumption | refine Ext.alloc ?_ _ | refine Ext.drew ?_ | refine Ext.drewN ?_ _ | (refine Ext.setCell ?_ (by simp <;> omega) _) | refine Ext.trans ?_ (by assumption))))
/-- A galley in memory is returned. -/
def RetG (g : GT) (w : World) (e : Ending) (w' : World) : Prop := ∃ a, e = .returned (g.val a) ∧ GR w' a g ∧ Ext w w'
def colCells : Array Value := #[.int .i64 1, .int .i64 12, .int .i64 (-1), .int .i64 1, .int .i64 3, .int .i64 1, .int .i64 12, .int .i64 (-1), .int .i64 2, .int .i64 3, .int .i64 1, .int .i64 12, .int .i64 (-1), .int .i64 3, .int .i64 3, .int .i64 4, .int .i64 6, .int .i64 (-1), .int .i64 0, .int .i64 0, .int .i64 2, .int .i64 14, .int .i64 (-1), .int .i64 0, .int .i64 0, .int .i64 1, .int .i64 12, .int .i64 (-1), .int .i64 1, .int .i64 2, .int .i64 1, .int .i64 12, .int .i64 (-1), .int .i64 2, .int .i64 2]
theorem col_gr {w : World} {b : Nat} (h : Blk w b 85 colCells) : GR w ⟨some ⟨b, 0, none⟩, 7, none, 0⟩ colG := by
  have hk : ∀ k, k < 7 → ((colCells[k * 5]? = some (.int .i64 (colG.items.getD k IT.zero).kind) ∧ colCells[k * 5 + 1]? = some (.int .i64 (colG.items.getD k IT.zero).height) ∧ colCells[k * 5 + 2]? = some (.int .i64 (colG.items.getD k IT.zero).note) ∧ colCells[k * 5 + 3]? = some (.int .i64 (colG.items.getD k IT.zero).line) ∧
      colCells[k * 5 + 4]? = some (.int .i64 (colG.items.getD k IT.zero).many)) ∧ (colG.items.getD k IT.zero).ok) := fun k hk => by
    match k, hk with
    | 0, _ | 1, _ | 2, _ | 3, _ | 4, _ | 5, _ | 6, _ => exact ⟨⟨rfl, rfl, rfl, rfl, rfl⟩, by unfold IT.ok I64; decide⟩
  refine ⟨⟨rfl, by decide, fun _ => ⟨b, 0, rfl, h.lt, fun k hk' => ?_⟩⟩, RI.nil, fun k hk' => (hk k hk').2, fun z hz => (by cases hz), ⟨Nat.le_refl _, (by show 7 ≤ maxLen; unfold maxLen; omega)⟩, Nat.le_refl _, (by show 0 ≤ maxLen; omega)⟩
  obtain ⟨⟨h0, h1, h2, h3, h4⟩, _⟩ := hk k hk'
  simp only [Nat.zero_add]
  exact ⟨h.cell _ _ h0, h.cell _ _ h1, h.cell _ _ h2, h.cell _ _ h3, h.cell _ _ h4⟩
set_option maxRecDepth 100000 in
theorem column_any (w : World) : Calls Tryz.prog 15 #[] w (RetG colG w) := by
  go_enter Tryz.func15, Tryz.ntmps15
  go_wp2_with (first | (go_at_call 36; refine Calls.mono (colText_any _ _ _) ?_; rintro e w1 ⟨rfl, hb⟩; (first | (have FB9 := Lib.hid (FB.out.ext hb); clear e0 e1 ef el FB) | have FB9 := Lib.hid ((Blk.new w 49 #[.slice none 0 0, .slice none 0 0]).ext hb)); (first | (have HX9 := Lib.hid (HX.out.trans hb); clear HX) | have HX9 : Hid (Ext w w1) := Lib.hid (Ext.of_alloc hb)); have FB := FB9; have HX := HX9; clear FB9 HX9 hb; obtain ⟨e0, e1, ef, _, el⟩ := FB.out.c2))
  have hx := HX.out
  have hsz : ((w1.setCell ⟨w.heap.size, 0, none⟩ (.slice (some ⟨w1.heap.size, 0, none⟩) 7 7)).setCell ⟨w.heap.size, 1, none⟩ (.slice none 0 0)).heap.size = w1.heap.size := by simp
  have hb := Blk.new ((w1.setCell ⟨w.heap.size, 0, none⟩ (.slice (some ⟨w1.heap.size, 0, none⟩) 7 7)).setCell ⟨w.heap.size, 1, none⟩ (.slice none 0 0)) 85 colCells
  rw [hsz] at hb
  have hf := ((FB.out.set_ 0 (.slice (some ⟨w1.heap.size, 0, none⟩) 7 7)).set_ 1 (.slice none 0 0)).alloc (.cells colCells 85)
  unfold colCells at hf
  have f0 := hf.cell 0 _ rfl
  have f1 := hf.cell 1 _ rfl
  exact bodyPost_ret (v := .agg #[.slice (some ⟨w1.heap.size, 0, none⟩) 7 7, .slice none 0 0]) (by simp [results, Tryz.results15, go_sem, f0, f1]) rfl ⟨⟨some ⟨w1.heap.size, 0, none⟩, 7, none, 0⟩, rfl, col_gr hb, (by repeat (first | exact Ext.refl _ | assumption | refine Ext.alloc ?_ _ | refine Ext.drew ?_ | refine Ext.drewN ?_ _ | (refine Ext.setCell ?_ (by simp <;> omega) _) | refine Ext.trans ?_ (by assumption)))⟩
theorem str_eq_1994 : ((⟨#[109, 99, 109, 120, 99, 105, 118]⟩ : ByteArray) == ⟨#[109, 99, 109, 120, 99, 105, 118]⟩) = true := by decide
set_option maxRecDepth 100000 in
theorem madeUp_any (w : World) (hT : FigT w) : Calls Tryz.prog 4 #[] w (Ret (.bool true) w) := by
  have CB : Hid (∀ W a, GR W a colG → Calls Tryz.prog 14 #[colG.val a, colQ.val] W (RetB (bestB colG colQ) (bestL colG colQ) 16 0 W)) := Lib.hid fun W a h => by
    have := best_any colG a colQ W h
    rwa [col_best.1, col_best.2] at this
  have CF : Hid (∀ W, FigT W → Calls Tryz.prog 17 #[.int .i64 1994, .bool true] W (Ret (.tuple #[.string ⟨#[109, 99, 109, 120, 99, 105, 118]⟩, .int .i64 0]) W)) := Lib.hid fun W h => by
    have := folio_any 1994 true W (by unfold I64; omega) h
    unfold folV at this
    rwa [fol_1994] at this
  have CC : Hid (∀ W, Calls Tryz.prog 15 #[] W (RetG colG W)) := Lib.hid column_any
  have CR : Hid (∀ W, Calls Tryz.prog 16 #[] W (Ret colQ.val W)) := Lib.hid colRules_any
  have HT := Lib.hid hT; clear hT
  generalize bestB colG colQ = bs at *
  generalize bestL colG colQ = ls at *
  generalize colQ.val = qv at *
  go_enter Tryz.func4, Tryz.ntmps4
  go_wp2_with (first | (go_at_call 15; refine Calls.mono (CC.out _) ?_; rintro e w1 ⟨a, rfl, hga, hb1⟩; have HGA := Lib.hid hga; have HX1 : Hid (Ext w w1) := Lib.hid hb1; clear hga hb1) | (go_at_call 16; refine Calls.mono (CR.out _) ?_; rintro e w2 ⟨rfl, hb2⟩; have HX2 := Lib.hid hb2; clear hb2) | (go_at_call 14; refine Calls.mono (CB.out _ a (HGA.out.ext HX2.out)) ?_; rintro e w3 ⟨A, cA, B, cB, rfl, _, _, _, _, hb3⟩; have HX3 := Lib.hid hb3; clear hb3) | (go_at_call 17; refine Calls.mono (CF.out _ (HT.out.ext (HX1.out.trans (HX2.out.trans HX3.out)))) ?_; rintro e w4 ⟨rfl, hb4⟩))
  go_ret
  exact Ret.mk' rfl (HX1.out.trans (HX2.out.trans (HX3.out.trans hb4)))
end Go.Proofs.YtfbdklminljecaaGreatDoor
