/-
  Walk: a list without one of its items (the reference's).
-/
import Derived.Test.YtfbdklminljecaaGreatDoorGE
import Derived.Deep.RegionHeld3
namespace Go.Proofs.YtfbdklminljecaaGreatDoor
open Go.RowKit

namespace Cut
theorem own_ne1 {g n : Nat} (h : n ≠ g) : some n ≠ (Value.slice (some ⟨g, 0, none⟩) 0 0).ownBlock := fun e => h (Option.some.inj e)
theorem Own.lit1 (w : World) (o : Obj) : Own ((w.alloc o).alloc (.cells #[] 3)) (w.heap.size + 1) (.slice (some ⟨w.heap.size + 1, 0, none⟩) 0 0) [] := by
  have h := Own.lit0 (w.alloc o)
  rwa [World.size_alloc] at h
theorem wp_appendI {w : World} {o : Oper} {a : Act} {K : Act → World → Prop} {Q : Exit → Act → World → Prop} (s x : Operand) (ho : o.op = .call { callee := .builtin .append, args := #[s, x], argTypes := #[25, 25] })
    (base : Nat) (v : Value) (zs : List Int) (hs : a.eval s = v) (hown : Own w base v zs) (A : Option Addr) (n c : Nat) (xs : List Int) (hx : a.eval x = .slice A n c) (hr : RI w A n xs) (hlen : zs.length + xs.length ≤ 1000000) (hbase : base ≤ w.heap.size)
    (h : ∀ v' w', Own w' base v' (zs ++ xs) → w.grownBy w' v.ownBlock → K (a.put o.dst v') w') : o.wp Tryz.prog a w K Q := by
  obtain rfl := hr.len
  obtain ⟨v', w', hr', h2, h3⟩ := run_appendI (c := c) hown hr hlen hbase o.type
  unfold Oper.wp execOp
  simp only [ho, resolve, invoke, builtin, Sem.run_bind, Sem.run_pure, Result.andThen_ok, List.map_toArray, List.map_cons, List.map_nil, hs, hx, hr']
  exact h v' w' h2 h3
theorem step_appendI {w : World} {ops : Array Oper} {o : Oper} {a : Act} {K : Act → World → Prop} {Q : Exit → Act → World → Prop} {E : Prop} (hgd : o.guard = none) (s x : Operand) (ho : o.op = .call { callee := .builtin .append, args := #[s, x], argTypes := #[25, 25] })
    (base : Nat) (v : Value) (zs : List Int) (hs : a.eval s = v) (hown : Own w base v zs) (A : Option Addr) (n c : Nat) (xs : List Int) (hx : a.eval x = .slice A n c) (hr : RI w A n xs) (hlen : zs.length + xs.length ≤ 1000000) (hbase : base ≤ w.heap.size)
    (h : ∀ v' w', Own w' base v' (zs ++ xs) → w.grownBy w' v.ownBlock → K (a.put o.dst v') w') : if Region.wanted o (yielded ops a.tmps) = true then Oper.wp Tryz.prog o a w K Q else E := by
  rw [if_pos (by simp [Region.wanted, hgd])]
  exact wp_appendI s x ho base v zs hs hown A n c xs hx hr hlen hbase h
theorem RI.take {w : World} {b off n : Nat} {zs : List Int} (h : RI w (some ⟨b, off, none⟩) n zs) (hb : b < w.heap.size) (t : Nat) (ht : t ≤ n) : RI w (some ⟨b, off, none⟩) t (zs.take t) := by
  refine ⟨by rw [List.length_take, h.1]; omega, by have := h.2.1; omega, fun h0 => ⟨b, off, rfl, hb, fun k hk => ?_⟩⟩
  obtain ⟨b', off', e, _, hc⟩ := h.2.2 (by omega)
  cases e
  rw [hc k (by omega), List.getD_eq_getElem?_getD, List.getD_eq_getElem?_getD, List.getElem?_take_of_lt hk]
theorem RI.drop {w : World} {b off n : Nat} {zs : List Int} (h : RI w (some ⟨b, off, none⟩) n zs) (hb : b < w.heap.size) (t : Nat) (ht : t ≤ n) : RI w (some ⟨b, off + t, none⟩) (n - t) (zs.drop t) := by
  refine ⟨by rw [List.length_drop, h.1], by have := h.2.1; omega, fun h0 => ⟨b, off + t, rfl, hb, fun k hk => ?_⟩⟩
  obtain ⟨b', off', e, _, hc⟩ := h.2.2 (by omega)
  cases e
  rw [show off + t + k = off + (t + k) by omega, hc (t + k) (by omega), List.getD_eq_getElem?_getD, List.getD_eq_getElem?_getD, List.getElem?_drop]
theorem grown_cell {a b : World} {r : Option Nat} {g o : Nat} {v : Value} (hg : a.grownBy b r) (h : a.cell? ⟨g, o, none⟩ = some v) (hne : some g ≠ r) : b.cell? ⟨g, o, none⟩ = some v :=
  (World.cell?_of_block (a := ⟨g, o, none⟩) (hg.block g (cell_lt h) hne)).trans h
end Cut
end Go.Proofs.YtfbdklminljecaaGreatDoor
