/-
  Walk: a list without one of its items (the reference's).
-/
import Derived.Test.YtfkjhgcablakgaaGreatDoorGE
import Derived.Deep.RegionHeld3
namespace Go.Proofs.YtfkjhgcablakgaaGreatDoor
open Go.RowKit

namespace Cut
theorem own_ne1 {g n : Nat} (h : n ≠ g) : some n ≠ (Value.slice (some ⟨g, 0, none⟩) 0 0).ownBlock := fun e => h (Option.some.inj e)
theorem Own.lit1 (w : World) (o : Obj) : Own ((w.alloc o).alloc (.cells #[] 3)) (w.heap.size + 1) (.slice (some ⟨w.heap.size + 1, 0, none⟩) 0 0) [] := by
  have h := Own.lit0 (w.alloc o)
  rwa [World.size_alloc] at h
theorem wp_appendI {w : World} {o : Oper} {a : Act} {K : Act → World → Prop} {Q : Exit → Act → World → Prop} (s x : Operand) (ho : o.op = .call { callee := .builtin .append, args := #[s, x], argTypes := #[25, 25] })
    (base : Nat) (v : Value) (zs : List Int) (hs : a.eval s = v) (hown : Own w base v zs) (A : Option Addr) (n c : Nat) (xs : List Int) (hx : a.eval x = .slice A n c) (hr : RI w A n xs) (hlen : zs.length + xs.length ≤ 1000000) (hbase : base ≤ w.heap.size)
    (h : ∀ v' w', Own w' base v' (zs ++ xs) → w.grownBy w' v.ownBlock → K (a.put o.dst v') w') : o.wp Tryz.prog a w K Q := by
  obtain rfl := hr.len
  obtain ⟨v', w', hr', h2, h3⟩ := run_appendI (c := c) hown hr hlen hbase o.type
  unfold Oper.wp execOp
  simp only [ho, resolve, invoke, builtin, Sem.run_bind, Sem.run_pure, Result.andThen_ok, List.map_toArray, List.map_cons, List.map_nil, hs, hx, hr']
  exact h v' w' h2 h3
theorem step_appendI {w : World} {ops : Array Oper} {o : Oper} {a : Act} {K : Act → World → Prop} {Q : Exit → Act → World → Prop} {E : Prop} (hgd : o.guard = none) (s x : Operand) (ho : o.op = .call { callee := .builtin .append, args := #[s, x], argTypes := #[25, 25] })
    (base : Nat) (v : Value) (zs : List Int) (hs : a.eval s = v) (hown : Own w base v zs) (A : Option Addr) (n c : Nat) (xs : List Int) (hx : a.eval x = .slice A n c) (hr : RI w A n xs) (hlen : zs.length + xs.length ≤ 1000000) (hbase : base ≤ w.heap.size)
    (h : ∀ v' w', Own w' base v' (zs ++ xs) → w.grownBy w' v.ownBlock → K (a.put o.dst v') w') : if Region.wanted o (yielded ops a.tmps) = true then Oper.wp Tryz.prog o a w K Q else E := by
  rw [if_pos (by simp [Region.wanted, hgd])]
  exact wp_appendI s x ho base v zs hs hown A n c xs hx hr hlen hbase h
theorem RI.take {w : World} {b off n : Nat} {zs : List Int} (h : RI w (some ⟨b, off, none⟩) n zs) (hb : b < w.heap.size) (t : Nat) (ht : t ≤ n) : RI w (some ⟨b, off, none⟩) t (zs.take t) := by
  refine ⟨by rw [List.length_take, h.1]; omega, by have := h.2.1; omega, fun h0 => ⟨b, off, rfl, hb, fun k hk => ?_⟩⟩
  obtain ⟨b', off', e, _, hc⟩ := h.2.2 (by omega)
  cases e
  rw [hc k (by omega), List.getD_eq_getElem?_getD, List.getD_eq_getElem?_getD, List.getElem?_take_of_lt hk]
theorem RI.drop {w : World} {b off n : Nat} {zs : List Int} (h : RI w (some ⟨b, off, none⟩) n zs) (hb : b < w.heap.size) (t : Nat) (ht : t ≤ n) : RI w (some ⟨b, off + t, none⟩) (n - t) (zs.drop t) := by
  refine ⟨by rw [List.length_drop, h.1], by have := h.2.1; omega, fun h0 => ⟨b, off + t, rfl, hb, fun k hk => ?_⟩⟩
  obtain ⟨b', off', e, _, hc⟩ := h.2.2 (by omega)
  cases e
  rw [show off + t + k = off + (t + k) by omega, hc (t + k) (by omega), List.getD_eq_getElem?_getD, List.getD_eq_getElem?_getD, List.getElem?_drop]
theorem grown_cell {a b : World} {r : Option Nat} {g o : Nat} {v : Value} (hg : a.grownBy b r) (h : a.cell? ⟨g, o, none⟩ = some v) (hne : some g ≠ r) : b.cell? ⟨g, o, none⟩ = some v :=
  (World.cell?_of_block (a := ⟨g, o, none⟩) (hg.block g (cell_lt h) hne)).trans h
end Cut
set_option maxRecDepth 100000 in
set_option maxHeartbeats 4000000 in
theorem rWithout_any (b off cx : Nat) (set : List Int) (i : Nat) (w : World) (hx : RI w (some ⟨b, off, none⟩) set.length set) (hc : set.length ≤ cx) (hi : i < set.length) (hs : set.length ≤ 1000) :
    Calls Tryz.prog 69 #[.slice (some ⟨b, off, none⟩) set.length cx, .int .i64 (i : Int)] w (RetS (set.take i ++ set.drop (i + 1)) w) := by
  have hbw : b < w.heap.size := by
    obtain ⟨b', off', he, hb, _⟩ := hx.2.2 (by omega)
    cases he
    exact hb
  obtain ⟨j, hj⟩ : ∃ j, j = i + 1 := ⟨_, rfl⟩
  have HTK := Lib.hid (Cut.RI.take hx hbw i (by omega))
  have HDR : Hid (RI w (if cx = j then some ⟨b, off, none⟩ else some ⟨b, off + j, none⟩) (set.length - j) (set.drop j)) := Lib.hid (by
    by_cases h : cx = j
    · exact ⟨List.length_drop, by omega, fun h1 => absurd h1 (by omega)⟩
    · rw [if_neg h]; exact Cut.RI.drop hx hbw j (by omega))
  have htl : (set.take i).length ≤ 1000 := by rw [List.length_take]; omega
  have hdl : (set.drop j).length ≤ 1000 := by rw [List.length_drop]; omega
  rw [← hj]
  have h1 : IntKind.i64.wrap ((i : Int) + 1) = (j : Int) := by rw [IntWalk.i64_in _ (by omega)]; omega
  have b1 : (0 : Int) ≤ (i : Int) := by omega
  have b2 : (i : Int) ≤ (cx : Int) := by omega
  have b3 : (0 : Int) ≤ (j : Int) := by omega
  have b4 : (j : Int) ≤ (set.length : Int) := by omega
  have b5 : (set.length : Int) ≤ (cx : Int) := by omega
  have HLA : Hid (∀ n, Own ((w.drewN n).alloc (.cells #[] 3)) w.heap.size (.slice (some ⟨w.heap.size, 0, none⟩) 0 0) []) := Lib.hid (fun n => Own.lit0 (w.drewN n))
  generalize set.take i = tk at *
  generalize set.drop j = dr at *
  clear hx hj
  go_enter Tryz.func69, Tryz.ntmps69
  go_upto_region 1 with fail
  go_region_held3 (fun _ => True) (trivial)
    (first | (refine Cut.step_appendI rfl (.tmp 5) (.tmp 8) rfl w.heap.size (.slice (some ⟨w.heap.size, 0, none⟩) 0 0) [] rfl ((HLA.out _).ext (by repeat (first | exact Ext.refl _ | assumption | refine Ext.alloc ?_ _ | refine Ext.drew ?_ | refine Ext.drewN ?_ _ | (refine Ext.setCell ?_ (by simp <;> omega) _) | refine Ext.trans ?_ (by assumption)))) _ _ _ tk rfl (HTK.out.ext (by repeat (first | exact Ext.refl _ | assumption | refine Ext.alloc ?_ _ | refine Ext.drew ?_ | refine Ext.drewN ?_ _ | (refine Ext.setCell ?_ (by simp <;> omega) _) | refine Ext.trans ?_ (by assumption)))) (by first | omega | (simp; done) | (simp; omega)) (by first | omega | (simp; done) | (simp; omega)) ?_; intro v1 W1 ho1 hg1; have HX1 := Lib.hid (show Ext w W1 from Ext.grown (by repeat (first | exact Ext.refl _ | assumption | refine Ext.alloc ?_ _ | refine Ext.drew ?_ | refine Ext.drewN ?_ _ | (refine Ext.setCell ?_ (by simp <;> omega) _) | refine Ext.trans ?_ (by assumption))) hg1 (by intro g9 hg9; have h9 : some (w.heap.size) = some g9 := hg9; injection h9 with h9; omega)); have HO1 := Lib.hid ho1; clear ho1 hg1) | (refine Cut.step_appendI rfl (.tmp 9) (.tmp 13) rfl w.heap.size _ ([] ++ tk) rfl (HO1.out.ext (by repeat (first | exact Ext.refl _ | assumption | refine Ext.alloc ?_ _ | refine Ext.drew ?_ | refine Ext.drewN ?_ _ | (refine Ext.setCell ?_ (by simp <;> omega) _) | refine Ext.trans ?_ (by assumption)))) _ _ _ dr rfl (HDR.out.ext (HX1.out.trans (by repeat (first | exact Ext.refl _ | assumption | refine Ext.alloc ?_ _ | refine Ext.drew ?_ | refine Ext.drewN ?_ _ | (refine Ext.setCell ?_ (by simp <;> omega) _) | refine Ext.trans ?_ (by assumption))))) (by first | omega | (simp; done) | (simp; omega)) (by have := HX1.out.size; first | omega | (simp; omega)) ?_; intro v3 W3 ho3 hg3; have HX3 := Lib.hid (show Ext w W3 from own_ext hg3 (HO1.out.ext (by repeat (first | exact Ext.refl _ | assumption | refine Ext.alloc ?_ _ | refine Ext.drew ?_ | refine Ext.drewN ?_ _ | (refine Ext.setCell ?_ (by simp <;> omega) _) | refine Ext.trans ?_ (by assumption)))) (HX1.out.trans (by repeat (first | exact Ext.refl _ | assumption | refine Ext.alloc ?_ _ | refine Ext.drew ?_ | refine Ext.drewN ?_ _ | (refine Ext.setCell ?_ (by simp <;> omega) _) | refine Ext.trans ?_ (by assumption))))); have HO3 := Lib.hid ho3; clear ho3 hg3))
  all_goals go_wp2
  all_goals go_ret
  all_goals exact RetI.s (by simp; omega) _ _ ⟨v3, rfl, by simpa using HO3.out.ext (by repeat (first | exact Ext.refl _ | assumption | refine Ext.alloc ?_ _ | refine Ext.drew ?_ | refine Ext.drewN ?_ _ | (refine Ext.setCell ?_ (by simp <;> omega) _) | refine Ext.trans ?_ (by assumption))), HX3.out.trans (by repeat (first | exact Ext.refl _ | assumption | refine Ext.alloc ?_ _ | refine Ext.drew ?_ | refine Ext.drewN ?_ _ | (refine Ext.setCell ?_ (by simp <;> omega) _) | refine Ext.trans ?_ (by assumption)))⟩
end Go.Proofs.YtfkjhgcablakgaaGreatDoor
