/-
  Walk: a galley in memory of its own (own).
-/
import Derived.Test.YtpkmapngdkkglaaGreatDoorPgCol
import Derived.Test.YtpkmapngdkkglaaGreatDoorGE
import Derived.Test.YtpkmapngdkkglaaGreatDoorGJ
namespace Go.Proofs.YtpkmapngdkkglaaGreatDoor
open Go.RowKit
attribute [local go_sem] stateAt known List.map_cons List.map_nil Option.getD_some

def itCells : List IT → List Value
  | [] => []
  | s :: r => .int .i64 s.kind :: .int .i64 s.height :: .int .i64 s.note :: .int .i64 s.line :: .int .i64 s.many :: itCells r
theorem itCells_len : ∀ ss : List IT, (itCells ss).length = ss.length * 5
  | [] => rfl
  | s :: r => by simp [itCells, itCells_len r]; omega
theorem itCells_at : ∀ (ss : List IT) (k : Nat), k < ss.length → (itCells ss)[k * 5]? = some (.int .i64 (ss.getD k IT.zero).kind) ∧ (itCells ss)[k * 5 + 1]? = some (.int .i64 (ss.getD k IT.zero).height) ∧ (itCells ss)[k * 5 + 2]? = some (.int .i64 (ss.getD k IT.zero).note) ∧ (itCells ss)[k * 5 + 3]? = some (.int .i64 (ss.getD k IT.zero).line) ∧ (itCells ss)[k * 5 + 4]? = some (.int .i64 (ss.getD k IT.zero).many)
  | s :: r, 0, _ => ⟨rfl, rfl, rfl, rfl, rfl⟩
  | s :: r, k + 1, h => by
    obtain ⟨h0, h1, h2, h3, h4⟩ := itCells_at r k (by simpa using h)
    rw [show (k + 1) * 5 = k * 5 + 5 by omega]
    exact ⟨h0, h1, h2, h3, h4⟩
theorem itCells_one : ∀ (ss : List IT), ∀ u ∈ itCells ss, u.oneCell' = true
  | [], u, hu => by cases hu
  | s :: r, u, hu => by
    simp only [itCells, List.mem_cons] at hu
    rcases hu with rfl | rfl | rfl | rfl | rfl | h
    · rfl
    · rfl
    · rfl
    · rfl
    · rfl
    · exact itCells_one r u h
theorem rp_cells {w : World} {b off : Nat} {ss : List IT} (hc : ∀ k, k < ss.length → w.cell? ⟨b, off + k * 5, none⟩ = some (.int .i64 (ss.getD k IT.zero).kind) ∧ w.cell? ⟨b, off + k * 5 + 1, none⟩ = some (.int .i64 (ss.getD k IT.zero).height) ∧ w.cell? ⟨b, off + k * 5 + 2, none⟩ = some (.int .i64 (ss.getD k IT.zero).note) ∧ w.cell? ⟨b, off + k * 5 + 3, none⟩ = some (.int .i64 (ss.getD k IT.zero).line) ∧ w.cell? ⟨b, off + k * 5 + 4, none⟩ = some (.int .i64 (ss.getD k IT.zero).many)) : ∀ j u, (itCells ss)[j]? = some u → w.cell? ((⟨b, off, none⟩ : Addr).add j) = some u := by
  intro j u hj
  have hjl : j < ss.length * 5 := by
    rcases Nat.lt_or_ge j (ss.length * 5) with h | h
    · exact h
    · rw [List.getElem?_eq_none (by rw [itCells_len]; exact h)] at hj; cases hj
  have hk : j / 5 < ss.length := by omega
  obtain ⟨q0, q1, q2, q3, q4⟩ := hc (j / 5) hk
  obtain ⟨s0, s1, s2, s3, s4⟩ := itCells_at ss (j / 5) hk
  have hadd : (⟨b, off, none⟩ : Addr).add j = ⟨b, off + j, none⟩ := by
    unfold Addr.add
    by_cases h0 : j = 0
    · subst h0; rfl
    · rw [if_neg h0]
  rw [hadd]
  rcases (show j = j / 5 * 5 ∨ j = j / 5 * 5 + 1 ∨ j = j / 5 * 5 + 2 ∨ j = j / 5 * 5 + 3 ∨ j = j / 5 * 5 + 4 by omega) with h | h | h | h | h
  · rw [h] at hj ⊢; rw [s0] at hj; cases hj; exact q0
  · rw [h] at hj ⊢; rw [s1] at hj; cases hj; exact q1
  · rw [h] at hj ⊢; rw [s2] at hj; cases hj; exact q2
  · rw [h] at hj ⊢; rw [s3] at hj; cases hj; exact q3
  · rw [h] at hj ⊢; rw [s4] at hj; cases hj; exact q4
theorem itemInfo : (Tryz.prog.info? 86).map (fun i => (i.zero, i.size, i.bytes)) = some (some (.agg #[.int .i64 0, .int .i64 0, .int .i64 0, .int .i64 0, .int .i64 0]), 5, 40) := by kernel_rfl
def OwnI (w : World) (base : Nat) (v : Value) (ss : List IT) : Prop := w.ownsRow base 86 5 v ss.length (itCells ss)
theorem OwnI.form {w : World} {base : Nat} {v : Value} {ss : List IT} (h : OwnI w base v ss) (hz : ss.length ≤ 1000000) : ∃ A c, v = .slice A ss.length c ∧ ss.length ≤ c ∧ c ≤ maxLen ∧ RP w A ss.length ss := by
  rcases h.2 with ⟨h1, h2⟩ | ⟨g, cap, cur, hv, hg, hh, hnc, hcm, hcs, htk⟩
  · exact ⟨none, 0, by rw [h1, h2], by omega, by unfold maxLen; omega, rfl, by omega, fun h => absurd h (by omega)⟩
  · refine ⟨some ⟨g, 0, none⟩, cap, hv, hnc, hcm, rfl, by omega, fun _ => ⟨g, 0, rfl, ?_, fun k hk => ?_⟩⟩
    · exact (Blk.lt (show Blk w g 86 cur from hh))
    · have hb : Blk w g 86 cur := hh
      have key : ∀ j u, (itCells ss)[j]? = some u → w.cell? ⟨g, j, none⟩ = some u := fun j u hj => by
        have hjl : j < ss.length * 5 := by
          rcases Nat.lt_or_ge j (ss.length * 5) with h | h
          · exact h
          · rw [List.getElem?_eq_none (by rw [itCells_len]; exact h)] at hj; cases hj
        refine hb.cell j u ?_
        have : (cur.toList.take (ss.length * 5))[j]? = (itCells ss)[j]? := by rw [htk]
        rw [List.getElem?_take_of_lt hjl, Array.getElem?_toList] at this
        rw [this, hj]
      obtain ⟨s0, s1, s2, s3, s4⟩ := itCells_at ss k hk
      rw [Nat.zero_add]
      exact ⟨key _ _ s0, key _ _ s1, key _ _ s2, key _ _ s3, key _ _ s4⟩
theorem OwnI.lit0 (w : World) : OwnI (w.alloc (.cells #[] 86)) w.heap.size (.slice (some ⟨w.heap.size, 0, none⟩) 0 0) [] :=
  World.ownsRow_lit (e := 86) (size := 5) w #[] 0 (Nat.le_refl _) (by unfold maxLen; omega) rfl
theorem OwnI.lit2 (w : World) (o x : Obj) : OwnI (((w.alloc o).alloc x).alloc (.cells #[] 86)) (w.heap.size + 1 + 1) (.slice (some ⟨w.heap.size + 1 + 1, 0, none⟩) 0 0) [] := by
  have h := OwnI.lit0 ((w.alloc o).alloc x)
  rwa [World.size_alloc, World.size_alloc] at h
theorem run_appendIt {w : World} {base : Nat} {v : Value} {ss : List IT} {A : Option Addr} {c : Nat} (hown : OwnI w base v []) (hr : RP w A ss.length ss) (hlen : ss.length ≤ 1000) (hbase : base ≤ w.heap.size) (ty : TypeId) :
    ∃ v' w', (Builtin.append_ #[22, 22] ty #[v, .slice A ss.length c]).run Tryz.prog w = .ok v' w' ∧ OwnI w' base v' ss ∧ w.grownBy w' v.ownBlock := by
  obtain ⟨i0, hi, hz0, hz1, hz2⟩ := info_parts itemInfo
  rcases A with _ | ad
  · have hm : ss.length = 0 := by
      rcases Nat.eq_zero_or_pos ss.length with h0 | h0
      · exact h0
      · obtain ⟨b, off, h, _⟩ := hr.2.2 h0
        cases h
    obtain rfl := List.eq_nil_of_length_eq_zero hm
    refine ⟨v, w, ?_, hown, World.grownBy.refl w _⟩
    rcases hown.2 with ⟨rfl, _⟩ | ⟨g, cap, cur, rfl, _, _, hnc, _⟩
    · simp [Builtin.append_, run_underlying Tryz.underlying22, sizeOf, typeInfo, hi, Builtin.lenOf, Builtin.firstCells]
    · simp [Builtin.append_, run_underlying Tryz.underlying22, sizeOf, typeInfo, hi, Builtin.lenOf, Builtin.firstCells, storeCells]
  · obtain ⟨v', w', hrun, h2, h3, _⟩ := run_append_own_at (P := Tryz.prog) w base 22 ty 86 i0 _ 5 40 Tryz.underlying22 hi hz0 hz1 hz2 rfl (by decide) v 0 _ hown ad ss.length c (itCells ss) (itCells_len ss)
      (fun j u hj => by
        have hjl : j < ss.length * 5 := by
          rcases Nat.lt_or_ge j (ss.length * 5) with h | h
          · exact h
          · rw [List.getElem?_eq_none (by rw [itCells_len]; exact h)] at hj; cases hj
        obtain ⟨b, off, he, _, hc⟩ := hr.2.2 (by omega)
        cases he
        exact rp_cells hc j u hj)
      (itCells_one ss) (by unfold maxLen; omega) (by omega) hbase
    exact ⟨v', w', hrun, by unfold OwnI; simpa [itCells] using h2, h3⟩
theorem list_appendIt {w : World} {ops : Array Oper} {rest : List Oper} {o : Oper} {a : Act} {Q : Exit → Act → World → Prop} (hgd : o.guard = none) (s x : Operand) (ho : o.op = .call { callee := .builtin .append, args := #[s, x], argTypes := #[22, 22] })
    (base : Nat) (v : Value) (hs : a.eval s = v) (hown : OwnI w base v []) (A : Option Addr) (c : Nat) (ss : List IT) (hx : a.eval x = .slice A ss.length c) (hr : RP w A ss.length ss) (hlen : ss.length ≤ 1000) (hbase : base ≤ w.heap.size)
    (h : ∀ v' w', OwnI w' base v' ss → w.grownBy w' v.ownBlock → wpList Tryz.prog ops Q rest (a.put o.dst v') w') : wpList Tryz.prog ops Q (o :: rest) a w := by
  refine wpList_plain hgd fun K hK => ?_
  obtain ⟨v', w', hr', h2, h3⟩ := run_appendIt (c := c) hown hr hlen hbase o.type
  unfold Oper.wp execOp
  simp only [ho, resolve, invoke, builtin, Sem.run_bind, Sem.run_pure, Result.andThen_ok, List.map_toArray, List.map_cons, List.map_nil, hs, hx, hr']
  exact hK _ _ (h v' w' h2 h3)
theorem stepX_appendIt {ops : Array Oper} {Φ : Vs → World → Prop} {V : Vs} {i : Nat} {a : Act} {o : Oper} {W : World} (hw : Region.wanted o (yielded ops a.tmps) = true) (s x : Operand) (ho : o.op = .call { callee := .builtin .append, args := #[s, x], argTypes := #[22, 22] })
    (base : Nat) (v : Value) (hs : a.eval s = v) (hown : OwnI W base v []) (A : Option Addr) (c : Nat) (ss : List IT) (hx : a.eval x = .slice A ss.length c) (hr : RP W A ss.length ss) (hlen : ss.length ≤ 1000) (hbase : base ≤ W.heap.size)
    (h : ∀ v' w', OwnI w' base v' ss → W.grownBy w' v.ownBlock → Φ (V.set i (some v')) w') : StepX Tryz.prog ops Φ V i a o W := by
  obtain ⟨v', w', hr', h2, h3⟩ := run_appendIt (c := c) hown hr hlen hbase o.type
  refine ⟨hw, ?_⟩
  unfold execOp
  simp only [ho, resolve, invoke, builtin, Sem.run_bind, Sem.run_pure, Result.andThen_ok, List.map_toArray, List.map_cons, List.map_nil, hs, hx, hr']
  exact h v' w' h2 h3
theorem len9 {α : Type} {V : List α} (h : V.length = 9) : ∃ a b c d e f g i j, V = [a, b, c, d, e, f, g, i, j] := by
  match V, h with
  | [a, b, c, d, e, f, g, i, j], _ => exact ⟨a, b, c, d, e, f, g, i, j, rfl⟩
theorem OwnI.blk {w : World} {base : Nat} {v : Value} {ss : List IT} (h : OwnI w base v ss) {k : Nat} (hk : v.ownBlock = some k) : base ≤ k ∧ ∃ cs, Blk w k 86 cs := by
  rcases h.2 with ⟨h1, h2⟩ | ⟨g, cap, cur, hv, hg, hh, hnc, hcm, hcs, htk⟩
  · rw [h1] at hk; cases hk
  · rw [hv] at hk
    cases hk
    exact ⟨hg, cur, hh⟩
theorem OwnI.ext {w w' : World} {base : Nat} {v : Value} {ss : List IT} (h : OwnI w base v ss) (hx : Ext w w') : OwnI w' base v ss := by
  refine World.ownsRow.kept (row := none) h ⟨hx.os, hx.tape, hx.output, hx.size, fun k hk _ => hx.block hk⟩ ?_
  cases hv : v.ownBlock with
  | none => exact .inl rfl
  | some g => exact .inr (by simp)
theorem Own.form2 {w : World} {base : Nat} {v : Value} {zs : List Int} (h : Own w base v zs) (hz : zs.length ≤ 1000000) : ∃ A c, v = .slice A zs.length c ∧ zs.length ≤ c ∧ c ≤ maxLen ∧ RI w A zs.length zs := by
  obtain ⟨A, c, rfl, hc, hr⟩ := h.form (by omega)
  refine ⟨A, c, rfl, hc, ?_, hr⟩
  rcases h.2 with ⟨h1, h2⟩ | ⟨g, cap, cur, hv, hg, hh, hnc, hcm, _⟩
  · obtain ⟨_, _, e3⟩ := Value.slice.inj h1; rw [e3]; unfold maxLen; omega
  · obtain ⟨_, _, e3⟩ := Value.slice.inj hv; rw [e3]; exact hcm
theorem OwnI.far2 {W : World} {base r : Nat} {v : Value} {ss : List IT} (h : OwnI W base v ss) (hr : r < base) (x y : Value) : OwnI ((W.setCell ⟨r, 0, none⟩ x).setCell ⟨r, 1, none⟩ y) base v ss := by
  refine ⟨h.1, ?_⟩
  rcases h.2 with q | ⟨g', cap, cur, hv, hg, hh, hr'⟩
  · exact .inl q
  · refine .inr ⟨g', cap, cur, hv, hg, ?_, hr'⟩
    rw [Below.heap_setCell _ _ _ _ (show g' ≠ r by omega), Below.heap_setCell _ _ _ _ (show g' ≠ r by omega)]
    exact hh
theorem Own.far2 {W : World} {base r : Nat} {v : Value} {zs : List Int} (h : Own W base v zs) (hr : r < base) (x y : Value) : Own ((W.setCell ⟨r, 0, none⟩ x).setCell ⟨r, 1, none⟩ y) base v zs :=
  h.block fun k hk => by
    have := h.base_le k hk
    rw [Below.heap_setCell _ _ _ _ (show k ≠ r by omega), Below.heap_setCell _ _ _ _ (show k ≠ r by omega)]
/-- The statement that makes a galley of its own: what its operations have made. -/
structure OX (w wq : World) (g : GT) (a : GA) (v0 v1 v2 v3 v4 v5 v6 v7 v8 : Option Value) (W : World) : Prop where
  e : v8 = none → Ext wq W
  al : v8.isSome = true → v0.isSome = true ∧ v1.isSome = true ∧ v2.isSome = true ∧ v3.isSome = true ∧ v4.isSome = true ∧ v5.isSome = true ∧ v6.isSome = true ∧ v7.isSome = true
  d : v8.isSome = true → ∃ a', GR W a' g ∧ Ext w W ∧ Blk W (w.heap.size + 1) 25 #[.slice a'.A g.items.length a'.c, .slice a'.B g.notes.length a'.d]
  p0 : ∀ v, v0 = some v → OwnI W wq.heap.size v [] ∨ v3.isSome = true
  p1 : ∀ v, v1 = some v → v = .pointer (some ⟨w.heap.size, 0, none⟩)
  p2 : ∀ v, v2 = some v → v = .slice a.A g.items.length a.c
  p3 : ∀ v, v3 = some v → OwnI W wq.heap.size v g.items
  p4 : ∀ v, v4 = some v → v = .pointer (some ⟨w.heap.size, 1, none⟩)
  p5 : ∀ v, v5 = some v → v = .slice a.B g.notes.length a.d
  p6 : ∀ v, v6 = some v → Own W wq.heap.size v g.notes
  p7 : ∀ v, v7 = some v → ∃ x y, v3 = some x ∧ v6 = some y ∧ v = .agg #[x, y]
def OXl (w wq : World) (g : GT) (a : GA) : Vs → World → Prop
  | [v0, v1, v2, v3, v4, v5, v6, v7, v8], W => OX w wq g a v0 v1 v2 v3 v4 v5 v6 v7 v8 W
  | _, _ => False
section
variable {w wq W W' : World} {g : GT} {a : GA} {v0 v1 v2 v3 v4 v5 v6 v7 v8 : Option Value}
theorem OXl_out (h : OXl w wq g a [v0, v1, v2, v3, v4, v5, v6, v7, v8] W) : OX w wq g a v0 v1 v2 v3 v4 v5 v6 v7 v8 W := h
theorem OX.none8 (h : OX w wq g a v0 v1 v2 v3 v4 v5 v6 v7 v8 W) (hn : v0 = none ∨ v1 = none ∨ v2 = none ∨ v3 = none ∨ v4 = none ∨ v5 = none ∨ v6 = none ∨ v7 = none) : v8 = none := by
  cases v8 with
  | none => rfl
  | some u =>
    obtain ⟨a0, a1, a2, a3, a4, a5, a6, a7⟩ := h.al rfl
    rcases hn with rfl | rfl | rfl | rfl | rfl | rfl | rfl | rfl
    · cases a0
    · cases a1
    · cases a2
    · cases a3
    · cases a4
    · cases a5
    · cases a6
    · cases a7
theorem OX.zero (h : Ext wq W) : OX w wq g a none none none none none none none none none W :=
  ⟨fun _ => h, fun e => (by cases e), fun e => (by cases e), fun _ e => (by cases e), fun _ e => (by cases e), fun _ e => (by cases e), fun _ e => (by cases e), fun _ e => (by cases e), fun _ e => (by cases e), fun _ e => (by cases e), fun _ e => (by cases e)⟩
theorem OX.ext (h : OX w wq g a v0 v1 v2 v3 v4 v5 v6 v7 none W) (hx : Ext W W') : OX w wq g a v0 v1 v2 v3 v4 v5 v6 v7 none W' :=
  ⟨fun _ => (h.e rfl).trans hx, fun e => (by cases e), fun e => (by cases e), fun v e => (h.p0 v e).imp (fun q => q.ext hx) id, h.p1, h.p2, fun v e => (h.p3 v e).ext hx, h.p4, h.p5, fun v e => (h.p6 v e).ext hx, h.p7⟩
theorem OX.s0 (h : OX w wq g a none v1 v2 v3 v4 v5 v6 v7 none W) : OX w wq g a (some (.slice (some ⟨W.heap.size, 0, none⟩) 0 0)) v1 v2 v3 v4 v5 v6 v7 none (W.alloc (.cells #[] 86)) :=
  have hs := (h.e rfl).size
  have k := h.ext ((Ext.refl W).alloc (.cells #[] 86))
  ⟨k.e, fun e => (by cases e), k.d, fun v e => (by
    cases e
    refine .inl ?_
    have h9 := OwnI.lit0 W
    refine ⟨h9.1, ?_⟩
    rcases h9.2 with h1 | ⟨g, cap, cur, hv, hg, hr⟩
    · exact .inl h1
    · exact .inr ⟨g, cap, cur, hv, by omega, hr⟩), k.p1, k.p2, k.p3, k.p4, k.p5, k.p6, k.p7⟩
theorem OX.s1 (h : OX w wq g a v0 none v2 v3 v4 v5 v6 v7 none W) : OX w wq g a v0 (some (.pointer (some ⟨w.heap.size, 0, none⟩))) v2 v3 v4 v5 v6 v7 none W :=
  ⟨h.e, fun e => (by cases e), h.d, h.p0, fun v e => (by cases e; rfl), h.p2, h.p3, h.p4, h.p5, h.p6, h.p7⟩
theorem OX.s2 (h : OX w wq g a v0 v1 none v3 v4 v5 v6 v7 none W) : OX w wq g a v0 v1 (some (.slice a.A g.items.length a.c)) v3 v4 v5 v6 v7 none W :=
  ⟨h.e, fun e => (by cases e), h.d, h.p0, h.p1, fun v e => (by cases e; rfl), h.p3, h.p4, h.p5, h.p6, h.p7⟩
theorem OX.s3 {u0 u3 : Value} (h : OX w wq g a (some u0) v1 v2 none v4 v5 v6 v7 none W) (hu : OwnI W wq.heap.size u0 []) (ho : OwnI W' wq.heap.size u3 g.items) (hg : W.grownBy W' u0.ownBlock) : OX w wq g a (some u0) v1 v2 (some u3) v4 v5 v6 v7 none W' := by
  have hx : Ext wq W' := (h.e rfl).grown hg fun k hk => (hu.blk hk).1
  refine ⟨fun _ => hx, fun e => (by cases e), fun e => (by cases e), fun v e => .inr rfl, h.p1, h.p2, fun v e => (by cases e; exact ho), h.p4, h.p5, fun v e => ?_, fun v e => ?_⟩
  · have h6 := h.p6 v e
    refine h6.other hg fun i hi e9 => ?_
    obtain ⟨_, cs, h1⟩ := hu.blk e9.symm
    obtain ⟨ds, h2⟩ := Own.blk h6 hi
    exact h1.ne h2 (by decide) rfl
  · obtain ⟨x, y, h1, _⟩ := h.p7 v e
    cases h1
theorem OX.s4 (h : OX w wq g a v0 v1 v2 v3 none v5 v6 v7 none W) : OX w wq g a v0 v1 v2 v3 (some (.pointer (some ⟨w.heap.size, 1, none⟩))) v5 v6 v7 none W :=
  ⟨h.e, fun e => (by cases e), h.d, h.p0, h.p1, h.p2, h.p3, fun v e => (by cases e; rfl), h.p5, h.p6, h.p7⟩
theorem OX.s5 (h : OX w wq g a v0 v1 v2 v3 v4 none v6 v7 none W) : OX w wq g a v0 v1 v2 v3 v4 (some (.slice a.B g.notes.length a.d)) v6 v7 none W :=
  ⟨h.e, fun e => (by cases e), h.d, h.p0, h.p1, h.p2, h.p3, h.p4, fun v e => (by cases e; rfl), h.p6, h.p7⟩
theorem OX.s6 {u : Value} (h : OX w wq g a v0 v1 v2 v3 v4 v5 none v7 none W) (hx : Ext W W') (ho : Own W' wq.heap.size u g.notes) : OX w wq g a v0 v1 v2 v3 v4 v5 (some u) v7 none W' :=
  have k := h.ext hx
  ⟨k.e, fun e => (by cases e), k.d, k.p0, k.p1, k.p2, k.p3, k.p4, k.p5, fun v e => (by cases e; exact ho), fun v e => (by obtain ⟨_, y, _, h1, _⟩ := h.p7 v e; cases h1)⟩
theorem OX.s7 {x y : Value} (h : OX w wq g a v0 v1 v2 (some x) v4 v5 (some y) none none W) : OX w wq g a v0 v1 v2 (some x) v4 v5 (some y) (some (.agg #[x, y])) none W :=
  ⟨h.e, fun e => (by cases e), h.d, h.p0, h.p1, h.p2, h.p3, h.p4, h.p5, h.p6, fun v e => (by cases e; exact ⟨x, y, rfl, rfl, rfl⟩)⟩
/-- What a galley of its own is, behind the store. -/
theorem OX.made {x y : Value} {b c : Value} (h : OX w wq g a v0 v1 v2 (some x) v4 v5 (some y) v7 none W) (hsz : ∀ k, k < g.items.length → (g.items.getD k IT.zero).ok) (hnz : ∀ z ∈ g.notes, I64 z) (h1 : g.items.length ≤ 1000) (h2 : g.notes.length ≤ 1000) (hwq : Ext w wq) (hl : w.heap.size + 1 < wq.heap.size)
    (hb : Blk W (w.heap.size + 1) 25 #[b, c]) : ∃ a', GR ((W.setCell ⟨w.heap.size + 1, 0, none⟩ x).setCell ⟨w.heap.size + 1, 1, none⟩ y) a' g ∧ Ext w ((W.setCell ⟨w.heap.size + 1, 0, none⟩ x).setCell ⟨w.heap.size + 1, 1, none⟩ y) ∧ Blk ((W.setCell ⟨w.heap.size + 1, 0, none⟩ x).setCell ⟨w.heap.size + 1, 1, none⟩ y) (w.heap.size + 1) 25 #[.slice a'.A g.items.length a'.c, .slice a'.B g.notes.length a'.d] := by
  have h3 := h.p3 x rfl
  have h6 := h.p6 y rfl
  have hx : Ext w ((W.setCell ⟨w.heap.size + 1, 0, none⟩ x).setCell ⟨w.heap.size + 1, 1, none⟩ y) := ((hwq.trans (h.e rfl)).setCell (p := ⟨w.heap.size + 1, 0, none⟩) (Nat.le_succ _) _).setCell (p := ⟨w.heap.size + 1, 1, none⟩) (Nat.le_succ _) _
  have far : ∀ k, k ≠ w.heap.size + 1 → ((W.setCell ⟨w.heap.size + 1, 0, none⟩ x).setCell ⟨w.heap.size + 1, 1, none⟩ y).heap[k]? = W.heap[k]? := fun k hk => by
    rw [Below.heap_setCell _ _ _ _ hk, Below.heap_setCell _ _ _ _ hk]
  have k3 : OwnI ((W.setCell ⟨w.heap.size + 1, 0, none⟩ x).setCell ⟨w.heap.size + 1, 1, none⟩ y) wq.heap.size x g.items := by
    refine ⟨h3.1, ?_⟩
    rcases h3.2 with q | ⟨g', cap, cur, hv, hg, hh, hr⟩
    · exact .inl q
    · exact .inr ⟨g', cap, cur, hv, hg, (far g' (by omega)).trans hh, hr⟩
  have k6 := h6.block (b := (W.setCell ⟨w.heap.size + 1, 0, none⟩ x).setCell ⟨w.heap.size + 1, 1, none⟩ y) fun k hk => far k (by have := h6.base_le k hk; omega)
  obtain ⟨A, c1, rfl, q1, q2, q3⟩ := k3.form (by omega)
  obtain ⟨B, d1, rfl, r1, r2, r3⟩ := k6.form2 (by omega)
  exact ⟨⟨A, c1, B, d1⟩, ⟨q3, r3, hsz, hnz, ⟨q1, q2⟩, r1, r2⟩, hx, (hb.set_ 0 _).set_ 1 _⟩
end
set_option maxRecDepth 100000 in
set_option maxHeartbeats 8000000 in
theorem own_any (g : GT) (a : GA) (w : World) (hg : GR w a g) (h1 : g.items.length ≤ 1000) (h2 : g.notes.length ≤ 1000) : Calls Tryz.prog 12 #[g.val a] w (RetG g w) := by
  have HG := Lib.hid hg
  have hm := hg.cap
  have CI := Lib.hid (fun W h => copyInts_any a.B a.d g.notes W h (by omega))
  unfold GT.val
  go_enter Tryz.func12, Tryz.ntmps12
  go_upto_region 1 with fail
  obtain ⟨wq, hwq⟩ : ∃ wq, (w.alloc (.cells #[.slice a.A g.items.length a.c, .slice a.B g.notes.length a.d] 25)).alloc (.cells #[.slice none 0 0, .slice none 0 0] 25) = wq := ⟨_, rfl⟩
  rw [hwq]
  have HE : Hid (Ext w wq) := Lib.hid (by rw [← hwq]; exact (by repeat (first | exact Ext.refl _ | assumption | refine Ext.alloc ?_ _ | refine Ext.drew ?_ | refine Ext.drewN ?_ _ | (refine Ext.setCell ?_ (by simp <;> omega) _) | refine Ext.trans ?_ (by assumption))))
  have HB : Hid (Blk wq w.heap.size 25 #[.slice a.A g.items.length a.c, .slice a.B g.notes.length a.d]) := Lib.hid (by rw [← hwq]; exact (Blk.new w _ _).alloc _)
  have HR : Hid (Blk wq (w.heap.size + 1) 25 #[.slice none 0 0, .slice none 0 0]) := Lib.hid (by rw [← hwq]; exact Blk.new1 w _ _ _)
  clear hwq
  have HX0 := Lib.hid (OX.zero (w := w) (wq := wq) (g := g) (a := a) (Ext.refl wq).drew)
  refine wp_region_exist (OXl w wq g a) (by kernel_rfl) (by kernel_rfl) HX0.out (StepsX.all ?_) ?_
  · skip
    refine ⟨fun V W hl hn hd hX hC => ?_, ?_⟩
    · obtain ⟨v0, v1, v2, v3, v4, v5, v6, v7, v8, rfl⟩ := len9 hl
      obtain rfl : v0 = none := hn
      replace hX := OXl_out hX
      obtain rfl := hX.none8 (by simp)
      skip
      refine ⟨rfl, ?_⟩
      go_simp
      exact hX.s0
    refine ⟨fun V W hl hn hd hX hC => ?_, ?_⟩
    · obtain ⟨v0, v1, v2, v3, v4, v5, v6, v7, v8, rfl⟩ := len9 hl
      obtain rfl : v1 = none := hn
      replace hX := OXl_out hX
      obtain rfl := hX.none8 (by simp)
      skip
      refine ⟨rfl, ?_⟩
      go_simp
      exact hX.s1
    refine ⟨fun V W hl hn hd hX hC => ?_, ?_⟩
    · obtain ⟨v0, v1, v2, v3, v4, v5, v6, v7, v8, rfl⟩ := len9 hl
      obtain rfl : v2 = none := hn
      replace hX := OXl_out hX
      obtain rfl := hX.none8 (by simp)
      obtain ⟨u1, rfl⟩ := Option.isSome_iff_exists.1 (hd 1 (by decide)); obtain rfl := hX.p1 _ rfl; have c0 := (HB.out.ext (hX.e rfl)).cell 0 _ rfl; have cl := (HB.out.ext (hX.e rfl)).lt
      refine ⟨rfl, ?_⟩
      go_simp
      exact hX.s2
    refine ⟨fun V W hl hn hd hX hC => ?_, ?_⟩
    · obtain ⟨v0, v1, v2, v3, v4, v5, v6, v7, v8, rfl⟩ := len9 hl
      obtain rfl : v3 = none := hn
      replace hX := OXl_out hX
      obtain rfl := hX.none8 (by simp)
      obtain ⟨u0, rfl⟩ := Option.isSome_iff_exists.1 (hd 0 (by decide))
      obtain ⟨u2, rfl⟩ := Option.isSome_iff_exists.1 (hd 2 (by decide))
      obtain rfl := hX.p2 _ rfl
      have hown := (hX.p0 _ rfl).resolve_right (by simp)
      exact stepX_appendIt rfl (.tmp 3) (.tmp 5) rfl wq.heap.size u0 rfl hown a.A a.c g.items rfl (HG.out.rp.ext (HE.out.trans (hX.e rfl))) h1 (hX.e rfl).size fun v' w' ho hg' => hX.s3 hown ho hg'
    refine ⟨fun V W hl hn hd hX hC => ?_, ?_⟩
    · obtain ⟨v0, v1, v2, v3, v4, v5, v6, v7, v8, rfl⟩ := len9 hl
      obtain rfl : v4 = none := hn
      replace hX := OXl_out hX
      obtain rfl := hX.none8 (by simp)
      skip
      refine ⟨rfl, ?_⟩
      go_simp
      exact hX.s4
    refine ⟨fun V W hl hn hd hX hC => ?_, ?_⟩
    · obtain ⟨v0, v1, v2, v3, v4, v5, v6, v7, v8, rfl⟩ := len9 hl
      obtain rfl : v5 = none := hn
      replace hX := OXl_out hX
      obtain rfl := hX.none8 (by simp)
      obtain ⟨u4, rfl⟩ := Option.isSome_iff_exists.1 (hd 4 (by decide)); obtain rfl := hX.p4 _ rfl; have c1 := (HB.out.ext (hX.e rfl)).cell 1 _ rfl; have cl := (HB.out.ext (hX.e rfl)).lt
      refine ⟨rfl, ?_⟩
      go_simp
      exact hX.s5
    refine ⟨fun V W hl hn hd hX hC => ?_, ?_⟩
    · obtain ⟨v0, v1, v2, v3, v4, v5, v6, v7, v8, rfl⟩ := len9 hl
      obtain rfl : v6 = none := hn
      replace hX := OXl_out hX
      obtain rfl := hX.none8 (by simp)
      obtain ⟨u5, rfl⟩ := Option.isSome_iff_exists.1 (hd 5 (by decide)); obtain rfl := hX.p5 _ rfl
      refine ⟨rfl, ?_⟩
      go_simp
      refine Calls.mono (CI.out _ (HG.out.ri.ext (HE.out.trans (hX.e rfl)))) ?_; rintro e w4 ⟨A, c, rfl, hsl, hb⟩; exact ⟨_, rfl, hX.s6 hb (SL.mono hsl (hX.e rfl).size).own⟩
    refine ⟨fun V W hl hn hd hX hC => ?_, ?_⟩
    · obtain ⟨v0, v1, v2, v3, v4, v5, v6, v7, v8, rfl⟩ := len9 hl
      obtain rfl : v7 = none := hn
      replace hX := OXl_out hX
      obtain rfl := hX.none8 (by simp)
      obtain ⟨u3, rfl⟩ := Option.isSome_iff_exists.1 (hd 3 (by decide)); obtain ⟨u6, rfl⟩ := Option.isSome_iff_exists.1 (hd 6 (by decide)); obtain ⟨A3, c3, rfl, _, _, _⟩ := (hX.p3 _ rfl).form (by omega); obtain ⟨A6, c6, rfl, _, _, _⟩ := (hX.p6 _ rfl).form2 (by omega)
      refine ⟨rfl, ?_⟩
      go_simp
      exact hX.s7
    refine ⟨fun V W hl hn hd hX hC => ?_, trivial⟩
    obtain ⟨v0, v1, v2, v3, v4, v5, v6, v7, v8, rfl⟩ := len9 hl
    obtain rfl : v8 = none := hn
    replace hX := OXl_out hX
    have hall : v0.isSome = true ∧ v1.isSome = true ∧ v2.isSome = true ∧ v3.isSome = true ∧ v4.isSome = true ∧ v5.isSome = true ∧ v6.isSome = true ∧ v7.isSome = true := by
      have h7 := hd 7 (by decide)
      have h3 := hC 7 _ rfl h7 3 (by decide)
      have h6 := hC 7 _ rfl h7 6 (by decide)
      have h0 := hC 3 _ rfl h3 0 (by decide)
      have h2 := hC 3 _ rfl h3 2 (by decide)
      have h1 := hC 2 _ rfl h2 1 (by decide)
      have h5 := hC 6 _ rfl h6 5 (by decide)
      have h4 := hC 5 _ rfl h5 4 (by decide)
      exact ⟨h0, h1, h2, h3, h4, h5, h6, h7⟩
    obtain ⟨u7, rfl⟩ := Option.isSome_iff_exists.1 (hd 7 (by decide))
    obtain ⟨x, y, rfl, rfl, rfl⟩ := hX.p7 _ rfl
    obtain ⟨A3, c3, rfl, _, _, _⟩ := (hX.p3 _ rfl).form (by omega)
    obtain ⟨A6, c6, rfl, _, _, _⟩ := (hX.p6 _ rfl).form2 (by omega)
    have hbr := HR.out.ext (hX.e rfl)
    have b0 := hbr.cell 0 _ rfl
    have b1 := hbr.cell 1 _ rfl
    have bf0 := hbr.frozen 0
    have bf1 := hbr.frozen 1
    have bl := hbr.lt
    have hmade := hX.made HG.out.sz HG.out.nz h1 h2 HE.out HR.out.lt hbr
    refine ⟨rfl, ?_⟩
    go_simp
    refine ⟨rfl, ⟨fun e => (by cases e), fun _ => hall, fun _ => hmade, fun _ _ => .inr rfl, hX.p1, hX.p2, fun v e => ?_, hX.p4, hX.p5, fun v e => ?_, hX.p7⟩⟩
    · cases e; exact (hX.p3 _ rfl).far2 HR.out.lt _ _
    · cases e; exact Own.far2 (hX.p6 _ rfl) HR.out.lt _ _
  · intro V W hl hV hX
    obtain ⟨v0, v1, v2, v3, v4, v5, v6, v7, v8, rfl⟩ := len9 hl
    replace hX := OXl_out hX
    obtain ⟨u8, rfl⟩ := Option.isSome_iff_exists.1 (hV 8 (by decide))
    obtain ⟨a', hgr, hx, hb⟩ := hX.d rfl
    have b0 := hb.cell 0 _ rfl
    have b1 := hb.cell 1 _ rfl
    simp only [putAll, known, List.map_cons, List.map_nil, Act.put, List.setIfInBounds_toArray, List.set_cons_zero, List.set_cons_succ, Option.getD_some]
    go_wp2_with fail
    exact bodyPost_ret (v := .agg #[.slice a'.A g.items.length a'.c, .slice a'.B g.notes.length a'.d]) (by simp [results, Tryz.results12, go_sem, b0, b1]) rfl ⟨a', rfl, hgr, hx⟩
end Go.Proofs.YtpkmapngdkkglaaGreatDoor
