/-
  Walks: combined makes counts of two ones, sort by sort.
-/
import Derived.Test.YtaopcpfgmjpliaaDoorCheck
import Derived.StillTailTactics
import Derived.Deep.AppendLies
import Derived.Deep.RegionHeld3
import Derived.Deep.RegionWith
namespace Go.Proofs.YtaopcpfgmjpliaaDoor
open Go.RowKit

theorem intInfo : (Tryd.prog.info? 3).map (fun i => (i.zero, i.size, i.bytes)) = some (some (.int .i64 0), 1, 8) := by kernel_rfl
/-- v is a slice of the call's own (from block base on) that holds zs. -/
def Own (w : World) (base : Nat) (v : Value) (zs : List Int) : Prop := w.ownsRow base 3 1 v zs.length (zs.map (Value.int .i64))
theorem Own.nil (w : World) (base : Nat) : Own w base (.slice none 0 0) [] := World.ownsRow_nil _ _ _ _
theorem Own.form {w : World} {base : Nat} {v : Value} {zs : List Int} (h : Own w base v zs) (hz : zs.length ≤ 140737488351232) : ∃ A c, v = .slice A zs.length c ∧ zs.length ≤ c ∧ RI w A zs.length zs := by
  rcases Nat.eq_zero_or_pos zs.length with h0 | h0
  · obtain rfl := List.eq_nil_of_length_eq_zero h0
    rcases h.2 with ⟨rfl, _⟩ | ⟨g, cap, cur, rfl, _⟩
    · exact ⟨none, 0, rfl, by simp, RI.nil⟩
    · exact ⟨_, cap, rfl, by simp, rfl, by simp, fun h => absurd h (by simp)⟩
  · obtain ⟨g, cap, hv, hg, hlt⟩ := World.ownsRow.form h h0
    subst hv
    have hc := World.ownsRow.cells (g := g) h rfl
    rcases h.2 with ⟨hv, _⟩ | ⟨g', cap', cur, hv, _, _, hcap, _⟩
    · cases hv
    · cases hv
      refine ⟨_, cap, rfl, by omega, rfl, by omega, fun _ => ⟨g, 0, rfl, hlt, fun k hk => ?_⟩⟩
      have := hc k (.int .i64 (zs.getD k 0)) (by rw [List.getElem?_map, List.getElem?_eq_getElem hk, List.getD_eq_getElem?_getD, List.getElem?_eq_getElem hk]; rfl)
      rw [show (0 + k) = k by omega]
      unfold Addr.add at this
      by_cases hk0 : k = 0
      · subst hk0; simpa using this
      · rw [if_neg hk0] at this; simpa using this
theorem Own.base_le {w : World} {base : Nat} {v : Value} {zs : List Int} (h : Own w base v zs) : ∀ k, v.ownBlock = some k → base ≤ k := fun k hk => (World.ownsRow.lt h k hk).1
/-- The call hands back a new slice of ints. -/
def RetI (zs : List Int) (w : World) (e : Ending) (w' : World) : Prop := ∃ v, e = .returned v ∧ Own w' w.heap.size v zs ∧ Ext w w'

theorem take_snoc (zs : List Int) (k : Nat) (h : k < zs.length) : zs.take (k + 1) = zs.take k ++ [zs.getD k 0] := by
  rw [List.take_succ_eq_append_getElem h, List.getD_eq_getElem?_getD, List.getElem?_eq_getElem h]; rfl
/-- One number is appended to a slice of the call's own. -/
theorem run_push {w : World} {base : Nat} {v : Value} {zs : List Int} {g0 : Nat} {z : Int} (hown : Own w base v zs) (hb : w.cell? ⟨g0, 0, none⟩ = some (.int .i64 z)) (hlen : zs.length ≤ 1000000) (hbase : base ≤ w.heap.size) (ty : TypeId) :
    ∃ v' w', (Builtin.append_ #[31, 31] ty #[v, .slice (some ⟨g0, 0, none⟩) 1 1]).run Tryd.prog w = .ok v' w' ∧ Own w' base v' (zs ++ [z]) ∧ w.grownBy w' v.ownBlock := by
  obtain ⟨i0, hi, hz0, hz1, hz2⟩ := info_parts intInfo
  obtain ⟨g, cap, w', hr, h2, h3, _⟩ := run_append_lies (P := Tryd.prog) w 31 ty base 3 i0 (.int .i64 0) 1 8 Tryd.underlying31 hi hz0 hz1 hz2 rfl (by decide) v zs.length _ hown ⟨g0, 0, none⟩ 1 1 [.int .i64 z] rfl
    (fun j u hj => by match j, hj with | 0, hj => simp at hj; subst hj; simpa [Addr.add] using hb) (fun u hu => by simp at hu; subst hu; rfl) (by decide) (by unfold maxLen; omega) (by omega) hbase _ rfl
  exact ⟨_, w', hr, by unfold Own; simpa using h2, h3⟩
theorem wp_push {w : World} {o : Oper} {a : Act} {K : Act → World → Prop} {Q : Exit → Act → World → Prop} (s x : Operand) (ho : o.op = .call { callee := .builtin .append, args := #[s, x], argTypes := #[31, 31] })
    (base : Nat) (v : Value) (zs : List Int) (hs : a.eval s = v) (hown : Own w base v zs) (g0 : Nat) (z : Int) (hx : a.eval x = .slice (some ⟨g0, 0, none⟩) 1 1) (hb : w.cell? ⟨g0, 0, none⟩ = some (.int .i64 z)) (hlen : zs.length ≤ 1000000) (hbase : base ≤ w.heap.size)
    (h : ∀ v' w', Own w' base v' (zs ++ [z]) → w.grownBy w' v.ownBlock → K (a.put o.dst v') w') : o.wp Tryd.prog a w K Q := by
  obtain ⟨v', w', hr, h2, h3⟩ := run_push hown hb hlen hbase o.type
  unfold Oper.wp execOp
  simp only [ho, resolve, invoke, builtin, Sem.run_bind, Sem.run_pure, Result.andThen_ok, List.map_toArray, List.map_cons, List.map_nil, hs, hx, hr]
  exact h v' w' h2 h3
theorem step_push {w : World} {ops : Array Oper} {o : Oper} {a : Act} {K : Act → World → Prop} {Q : Exit → Act → World → Prop} {E : Prop} (hgd : o.guard = none) (s x : Operand) (ho : o.op = .call { callee := .builtin .append, args := #[s, x], argTypes := #[31, 31] })
    (base : Nat) (v : Value) (zs : List Int) (hs : a.eval s = v) (hown : Own w base v zs) (g0 : Nat) (z : Int) (hx : a.eval x = .slice (some ⟨g0, 0, none⟩) 1 1) (hb : w.cell? ⟨g0, 0, none⟩ = some (.int .i64 z)) (hlen : zs.length ≤ 1000000) (hbase : base ≤ w.heap.size)
    (h : ∀ v' w', Own w' base v' (zs ++ [z]) → w.grownBy w' v.ownBlock → K (a.put o.dst v') w') : if Region.wanted o (yielded ops a.tmps) = true then Oper.wp Tryd.prog o a w K Q else E := by
  rw [if_pos (by simp [Region.wanted, hgd])]
  exact wp_push s x ho base v zs hs hown g0 z hx hb hlen hbase h
theorem list_push {w : World} {ops : Array Oper} {rest : List Oper} {o : Oper} {a : Act} {Q : Exit → Act → World → Prop} (hgd : o.guard = none) (s x : Operand) (ho : o.op = .call { callee := .builtin .append, args := #[s, x], argTypes := #[31, 31] })
    (base : Nat) (v : Value) (zs : List Int) (hs : a.eval s = v) (hown : Own w base v zs) (g0 : Nat) (z : Int) (hx : a.eval x = .slice (some ⟨g0, 0, none⟩) 1 1) (hb : w.cell? ⟨g0, 0, none⟩ = some (.int .i64 z)) (hlen : zs.length ≤ 1000000) (hbase : base ≤ w.heap.size)
    (h : ∀ v' w', Own w' base v' (zs ++ [z]) → w.grownBy w' v.ownBlock → wpList Tryd.prog ops Q rest (a.put o.dst v') w') : wpList Tryd.prog ops Q (o :: rest) a w :=
  wpList_plain hgd fun _ hK => wp_push s x ho base v zs hs hown g0 z hx hb hlen hbase fun v' w' h2 h3 => hK _ _ (h v' w' h2 h3)
theorem Own.ext {w w' : World} {base : Nat} {v : Value} {zs : List Int} (h : Own w base v zs) (hx : Ext w w') : Own w' base v zs := by
  refine World.ownsRow.kept (row := none) h ⟨hx.os, hx.tape, hx.output, hx.size, fun k hk _ => hx.block hk⟩ ?_
  cases hv : v.ownBlock with
  | none => exact .inl rfl
  | some g => exact .inr (by simp)
theorem Own.alloc {w : World} {base : Nat} {v : Value} {zs : List Int} (h : Own w base v zs) (o : Obj) : Own (w.alloc o) base v zs := World.ownsRow.alloc h o
/-- A cell of what lay ahead is as it was behind the append. -/
theorem own_cell {w0 W w' : World} {base : Nat} {v u : Value} {zs : List Int} {b o : Nat} (hg : W.grownBy w' v.ownBlock) (hown : Own W base v zs) (hb : b < base) (hx : Ext w0 W) (hb0 : b < w0.heap.size) (hc : w0.cell? ⟨b, o, none⟩ = some u) : w'.cell? ⟨b, o, none⟩ = some u := by
  rw [World.cell?_of_block (w := W) (hg.block b (Nat.lt_of_lt_of_le hb0 hx.size) (fun e => by have := hown.base_le b e.symm; omega)), hx.cell (p := ⟨b, o, none⟩) hb0, hc]
theorem own_ext {w0 W w' : World} {v : Value} {zs : List Int} (hg : W.grownBy w' v.ownBlock) (hown : Own W w0.heap.size v zs) (hx : Ext w0 W) : Ext w0 w' := hx.grown hg hown.base_le
theorem still_tail {P : Program} {id : Nat} {Q : Exit → Act → World → Prop} {a : Act} {w : World} {l : List Oper} (n : Nat) (hm : P.follows .mixedOrders = true) (hB : Region.lexTailB .any l.toArray n = true)
    (h : wpStill P l.toArray w.drew (fun a' => wpList P l.toArray Q (l.drop n) a' w.drew) (l.take n) a) : (Code.region id l.toArray true).wp P Q a w := wp_region_still_tail n hm hB h
theorem Same.still {P : Program} {f : FuncId} {args : Array Value} {w : World} {v : Value} (h : Calls P f args w (Same v w)) : Calls P f args w fun e w' => e = .returned v ∧ w' = w := h.mono fun _ _ ⟨he, hm⟩ => ⟨he, hm.symm⟩
/-! The four ways to make one count of two. -/
end Go.Proofs.YtaopcpfgmjpliaaDoor
