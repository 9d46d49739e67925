/-
  Walks: CheckFolds of one example, Quarto, imposed.
-/
import Derived.Test.YtniiahddpdiocaaFoldS5
namespace Go.Proofs.Ytniiahddpdiocaa
open Go.RowKit

theorem foldElt : Elt 23 82 2 16 (.agg #[.int .i64 0, .int .i64 0]) := ⟨Try.underlying23, by kernel_rfl, rfl, by decide, by decide⟩
theorem good21 : GoodF ((2 : Nat) : Int) ((1 : Nat) : Int) [(1, 1)] := by
  refine ⟨by decide, fun j hj => ?_, by decide⟩
  obtain rfl : j = 0 := by simp at hj; omega
  decide
theorem cells21 : [⟨3, 0, 4, 0⟩, ⟨2, 0, 1, 0⟩] = cellsOf 2 1 (leavesOf ((2 : Nat) : Int) ((1 : Nat) : Int) [(1, 1)]) := rfl
theorem fold11 (k : Nat) (hk : k < [((1 : Int), (1 : Int))].length) : I64 ([((1 : Int), (1 : Int))].getD k (0, 0)).2 := by
  obtain rfl : k = 0 := by simp at hk; omega
  exact ⟨by decide, by decide⟩
set_option maxRecDepth 100000 in
theorem reads21 (A B : Option Addr) (w : World) (h : RCl w A [⟨3, 0, 4, 0⟩, ⟨2, 0, 1, 0⟩]) (hb : RFo w B [(1, 1)]) :
    Calls Try.prog 10 #[.agg #[.int .i64 2, .int .i64 1, .slice A 2 2], .slice B 1 1] w (RetRd 4 w) :=
  reads_any 2 1 A B 2 1 [⟨3, 0, 4, 0⟩, ⟨2, 0, 1, 0⟩] [(1, 1)] w good21 cells21 h hb fold11 (by decide)
set_option maxRecDepth 100000 in
set_option maxHeartbeats 4000000 in
theorem checkFolds22 (B : Option Addr) (d : Nat) (w : World) (hb : RFo w B [(1, 1)]) :
    Calls Try.prog 27 #[.agg #[.int .i64 2, .int .i64 2], .slice B 1 d] w (Ret (.tuple #[.int .i64 1, .int .i64 25]) w) := by
  have CF : Hid (∀ W, RFo W B [(1, 1)] → Calls Try.prog 30 #[.agg #[.int .i64 2, .int .i64 2], .slice B 1 d] W (Ret (.tuple #[.slice none 0 0, .int .i64 1, .int .i64 25]) W)) := Lib.hid fun W h =>
    (folded_any 2 2 B d [(1, 1)] W h fold11 (by decide) (by decide)).mono fun e w' h9 => by
      rcases h9 with ⟨i, h1, _, h3, _⟩ | ⟨_, _, h4, h5⟩ | ⟨_, h2, _⟩
      · obtain rfl : i = 0 := by simp at h1; omega
        exact absurd (by decide) h3
      · exact ⟨h4, h5⟩
      · exact absurd h2 (by decide)
  have HF := Lib.hid hb
  clear hb
  go_enter Try.func27, Try.ntmps27
  go_upto_region 1 with fail
  have HSH := Lib.hid (Blk.new w 22 #[.int .i64 2, .int .i64 2])
  have HX0 : Hid (Ext w (w.alloc (.cells #[.int .i64 2, .int .i64 2] 22))) := Lib.hid (by repeat (first | exact Ext.refl _ | assumption | refine Ext.alloc ?_ _ | refine Ext.drew ?_ | refine Ext.drewN ?_ _ | (refine Ext.setCell ?_ (by simp <;> omega) _) | refine Ext.trans ?_ (by assumption)))
  generalize (w.alloc (.cells #[.int .i64 2, .int .i64 2] 22)) = w0 at *
  obtain ⟨k0, k1, _, _, kl⟩ := HSH.out.c2
  go_wp2_with (first | (go_at_call 30; refine Calls.mono (CF.out _ (HF.out.ext HX0.out)) ?_; rintro e w1 ⟨rfl, hx⟩; have HX1 := Lib.hid hx; clear hx))
  refine bodyPost_ret (v := .tuple #[.int .i64 1, .int .i64 25]) (by simp [results, Try.results27, go_sem]) rfl (Ret.mk' rfl (HX0.out.trans HX1.out))
set_option maxRecDepth 100000 in
set_option maxHeartbeats 4000000 in
theorem quarto_any (w : World) : Calls Try.prog 28 #[] w (fun e w' => ∃ g, e = .returned (.slice (some ⟨g, 0, none⟩) 2 2) ∧ RFo w' (some ⟨g, 0, none⟩) [(1, 1), (3, 1)] ∧ Ext w w') := by
  have HB := Lib.hid (Blk.new w 82 #[.int .i64 1, .int .i64 1, .int .i64 3, .int .i64 1])
  have HX : Hid (Ext w (w.alloc (.cells #[.int .i64 1, .int .i64 1, .int .i64 3, .int .i64 1] 82))) := Lib.hid (by repeat (first | exact Ext.refl _ | assumption | refine Ext.alloc ?_ _ | refine Ext.drew ?_ | refine Ext.drewN ?_ _ | (refine Ext.setCell ?_ (by simp <;> omega) _) | refine Ext.trans ?_ (by assumption)))
  go_enter Try.func28, Try.ntmps28
  go_wp2
  go_ret
  exact ⟨_, rfl, RC.blk HB.out rfl (by decide), HX.out⟩
theorem RFo.first {w : World} {A : Option Addr} {x : Int × Int} {l : List (Int × Int)} (h : RFo w A (x :: l)) : RFo w A [x] := by
  obtain ⟨b, off, h1, h2, h3⟩ := h.2.2 (by simp)
  refine ⟨rfl, by simp, fun _ => ⟨b, off, h1, h2, fun j u hu => h3 j u ?_⟩⟩
  have hj : j < 2 := by
    rcases Nat.lt_or_ge j 2 with h | h
    · exact h
    · rw [List.getElem?_eq_none (by simpa [foCells] using h)] at hu; cases hu
  rcases (by omega : j = 0 ∨ j = 1) with rfl | rfl
  · exact hu
  · exact hu
set_option maxRecDepth 100000 in
set_option maxHeartbeats 8000000 in
theorem imposed_any (w : World) : Calls Try.prog 5 #[] w (Ret (.bool true) w) := by
  have CR := Lib.hid reads21
  have CC := Lib.hid fun B d W h => checkFolds22 B d W h
  have CQ := Lib.hid quarto_any
  have CI := Lib.hid fun A c W h => rInOrder_any A c 4 W h (by decide)
  have HB1 := Lib.hid ((Blk.new w 80 #[.int .i64 3, .int .i64 0, .int .i64 4, .int .i64 0, .int .i64 2, .int .i64 0, .int .i64 1, .int .i64 0]).alloc (.cells #[.int .i64 1, .int .i64 1] 82))
  have HB2 := Lib.hid (Blk.new1 w (.cells #[.int .i64 3, .int .i64 0, .int .i64 4, .int .i64 0, .int .i64 2, .int .i64 0, .int .i64 1, .int .i64 0] 80) 82 #[.int .i64 1, .int .i64 1])
  have HX : Hid (Ext w ((w.alloc (.cells #[.int .i64 3, .int .i64 0, .int .i64 4, .int .i64 0, .int .i64 2, .int .i64 0, .int .i64 1, .int .i64 0] 80)).alloc (.cells #[.int .i64 1, .int .i64 1] 82))) := Lib.hid (by repeat (first | exact Ext.refl _ | assumption | refine Ext.alloc ?_ _ | refine Ext.drew ?_ | refine Ext.drewN ?_ _ | (refine Ext.setCell ?_ (by simp <;> omega) _) | refine Ext.trans ?_ (by assumption)))
  go_enter Try.func5, Try.ntmps5
  go_wp2_with (first | (go_at_call 10; refine Calls.mono (CR.out _ _ _ (RC.blk (n := 2) (size := 4) HB1.out rfl (by decide)) (RC.blk (n := 1) (size := 2) HB2.out rfl (by decide))) ?_; rintro e w1 ⟨A1, c1, rfl, hp, hx⟩; have HP := Lib.hid hp; have HX1 := Lib.hid (HX.out.trans hx); clear hp hx) | (go_at_call 28; refine Calls.mono (CQ.out _) ?_; rintro e w2 ⟨g, rfl, hf, hx⟩; have HF := Lib.hid hf; have HX2 := Lib.hid hx; clear hf hx) | (go_at_call 27; refine Calls.mono (CC.out _ _ _ HF.out.first) ?_; rintro e w3 ⟨rfl, hx⟩; have HX3 := Lib.hid (HX2.out.trans hx); clear hx) | (go_at_call 29; refine Calls.mono (CI.out _ _ _ (HP.out.ext HX3.out)) ?_; rintro e w4 ⟨rfl, hx⟩; have HX4 := Lib.hid hx; clear hx))
  go_ret
  exact Ret.mk' rfl ((HX1.out.trans HX3.out).trans HX4.out)
end Go.Proofs.Ytniiahddpdiocaa
