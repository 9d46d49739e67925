/-
  Walk: CopyFount, a fount in memory of its own.
-/
import Derived.Test.YtfbdklminljecaaGreatDoorGE
namespace Go.Proofs.YtfbdklminljecaaGreatDoor
open Go.RowKit

def sortCells : List TS → List Value
  | [] => []
  | s :: r => .string s.name :: .string s.text :: .int .i64 s.kind :: .int .i64 s.width :: sortCells r
theorem sortCells_len : ∀ ss : List TS, (sortCells ss).length = ss.length * 4
  | [] => rfl
  | s :: r => by simp [sortCells, sortCells_len r]; omega
theorem sortCells_at : ∀ (ss : List TS) (k : Nat), k < ss.length → (sortCells ss)[k * 4]? = some (.string (ss.getD k TS.zero).name) ∧ (sortCells ss)[k * 4 + 1]? = some (.string (ss.getD k TS.zero).text) ∧
    (sortCells ss)[k * 4 + 2]? = some (.int .i64 (ss.getD k TS.zero).kind) ∧ (sortCells ss)[k * 4 + 3]? = some (.int .i64 (ss.getD k TS.zero).width)
  | s :: r, 0, _ => ⟨rfl, rfl, rfl, rfl⟩
  | s :: r, k + 1, h => by
    obtain ⟨h0, h1, h2, h3⟩ := sortCells_at r k (by simpa using h)
    rw [show (k + 1) * 4 = k * 4 + 4 by omega]
    exact ⟨h0, h1, h2, h3⟩
theorem sortCells_one : ∀ (ss : List TS), ∀ u ∈ sortCells ss, u.oneCell' = true
  | [], u, hu => by cases hu
  | s :: r, u, hu => by
    simp only [sortCells, List.mem_cons] at hu
    rcases hu with rfl | rfl | rfl | rfl | h
    · rfl
    · rfl
    · rfl
    · rfl
    · exact sortCells_one r u h
theorem rt_cells {w : World} {b off : Nat} {ss : List TS} (hc : ∀ k, k < ss.length → w.cell? ⟨b, off + k * 4, none⟩ = some (.string (ss.getD k TS.zero).name) ∧ w.cell? ⟨b, off + k * 4 + 1, none⟩ = some (.string (ss.getD k TS.zero).text) ∧
    w.cell? ⟨b, off + k * 4 + 2, none⟩ = some (.int .i64 (ss.getD k TS.zero).kind) ∧ w.cell? ⟨b, off + k * 4 + 3, none⟩ = some (.int .i64 (ss.getD k TS.zero).width)) : ∀ j u, (sortCells ss)[j]? = some u → w.cell? ((⟨b, off, none⟩ : Addr).add j) = some u := by
  intro j u hj
  have hjl : j < ss.length * 4 := by
    rcases Nat.lt_or_ge j (ss.length * 4) with h | h
    · exact h
    · rw [List.getElem?_eq_none (by rw [sortCells_len]; exact h)] at hj; cases hj
  have hk : j / 4 < ss.length := by omega
  obtain ⟨q0, q1, q2, q3⟩ := hc (j / 4) hk
  obtain ⟨s0, s1, s2, s3⟩ := sortCells_at ss (j / 4) hk
  have hadd : (⟨b, off, none⟩ : Addr).add j = ⟨b, off + j, none⟩ := by
    unfold Addr.add
    by_cases h0 : j = 0
    · subst h0; rfl
    · rw [if_neg h0]
  rw [hadd]
  rcases (show j = j / 4 * 4 ∨ j = j / 4 * 4 + 1 ∨ j = j / 4 * 4 + 2 ∨ j = j / 4 * 4 + 3 by omega) with h | h | h | h
  · rw [h] at hj ⊢; rw [s0] at hj; cases hj; exact q0
  · rw [h] at hj ⊢; rw [s1] at hj; cases hj; exact q1
  · rw [h] at hj ⊢; rw [s2] at hj; cases hj; exact q2
  · rw [h] at hj ⊢; rw [s3] at hj; cases hj; exact q3
theorem sortInfo : (Tryz.prog.info? 57).map (fun i => (i.zero, i.size, i.bytes)) = some (some (.agg #[.string ⟨#[]⟩, .string ⟨#[]⟩, .int .i64 0, .int .i64 0]), 4, 48) := by kernel_rfl
def OwnT (w : World) (base : Nat) (v : Value) (ss : List TS) : Prop := w.ownsRow base 57 4 v ss.length (sortCells ss)
theorem OwnT.form {w : World} {base : Nat} {v : Value} {ss : List TS} (h : OwnT w base v ss) (hz : ss.length ≤ 1000000) : ∃ A c, v = .slice A ss.length c ∧ ss.length ≤ c ∧ c ≤ maxLen ∧ RT w A ss.length ss := by
  rcases h.2 with ⟨h1, h2⟩ | ⟨g, cap, cur, hv, hg, hh, hnc, hcm, hcs, htk⟩
  · exact ⟨none, 0, by rw [h1, h2], by omega, by unfold maxLen; omega, rfl, by omega, fun h => absurd h (by omega)⟩
  · refine ⟨some ⟨g, 0, none⟩, cap, hv, hnc, hcm, rfl, by omega, fun _ => ⟨g, 0, rfl, ?_, fun k hk => ?_⟩⟩
    · exact (Blk.lt (show Blk w g 57 cur from hh))
    · have hb : Blk w g 57 cur := hh
      have key : ∀ j u, (sortCells ss)[j]? = some u → w.cell? ⟨g, j, none⟩ = some u := fun j u hj => by
        have hjl : j < ss.length * 4 := by
          rcases Nat.lt_or_ge j (ss.length * 4) with h | h
          · exact h
          · rw [List.getElem?_eq_none (by rw [sortCells_len]; exact h)] at hj; cases hj
        refine hb.cell j u ?_
        have : (cur.toList.take (ss.length * 4))[j]? = (sortCells ss)[j]? := by rw [htk]
        rw [List.getElem?_take_of_lt hjl, Array.getElem?_toList] at this
        rw [this, hj]
      obtain ⟨s0, s1, s2, s3⟩ := sortCells_at ss k hk
      rw [Nat.zero_add]
      exact ⟨key _ _ s0, key _ _ s1, key _ _ s2, key _ _ s3⟩
theorem OwnT.lit0 (w : World) : OwnT (w.alloc (.cells #[] 57)) w.heap.size (.slice (some ⟨w.heap.size, 0, none⟩) 0 0) [] :=
  World.ownsRow_lit (e := 57) (size := 4) w #[] 0 (Nat.le_refl _) (by unfold maxLen; omega) rfl
theorem OwnT.lit2 (w : World) (o x : Obj) : OwnT (((w.alloc o).alloc x).alloc (.cells #[] 57)) (w.heap.size + 1 + 1) (.slice (some ⟨w.heap.size + 1 + 1, 0, none⟩) 0 0) [] := by
  have h := OwnT.lit0 ((w.alloc o).alloc x)
  rwa [World.size_alloc, World.size_alloc] at h
theorem run_appendT {w : World} {base : Nat} {v : Value} {ss : List TS} {A : Option Addr} {c : Nat} (hown : OwnT w base v []) (hr : RT w A ss.length ss) (hlen : ss.length ≤ 1000) (hbase : base ≤ w.heap.size) (ty : TypeId) :
    ∃ v' w', (Builtin.append_ #[22, 22] ty #[v, .slice A ss.length c]).run Tryz.prog w = .ok v' w' ∧ OwnT w' base v' ss ∧ w.grownBy w' v.ownBlock := by
  obtain ⟨i0, hi, hz0, hz1, hz2⟩ := info_parts sortInfo
  rcases A with _ | ad
  · have hm : ss.length = 0 := by
      rcases Nat.eq_zero_or_pos ss.length with h0 | h0
      · exact h0
      · obtain ⟨b, off, h, _⟩ := hr.2.2 h0
        cases h
    obtain rfl := List.eq_nil_of_length_eq_zero hm
    refine ⟨v, w, ?_, hown, World.grownBy.refl w _⟩
    rcases hown.2 with ⟨rfl, _⟩ | ⟨g, cap, cur, rfl, _, _, hnc, _⟩
    · simp [Builtin.append_, run_underlying Tryz.underlying22, sizeOf, typeInfo, hi, Builtin.lenOf, Builtin.firstCells]
    · simp [Builtin.append_, run_underlying Tryz.underlying22, sizeOf, typeInfo, hi, Builtin.lenOf, Builtin.firstCells, storeCells]
  · obtain ⟨v', w', hrun, h2, h3, _⟩ := run_append_own_at (P := Tryz.prog) w base 22 ty 57 i0 _ 4 48 Tryz.underlying22 hi hz0 hz1 hz2 rfl (by decide) v 0 _ hown ad ss.length c (sortCells ss) (sortCells_len ss)
      (fun j u hj => by
        have hjl : j < ss.length * 4 := by
          rcases Nat.lt_or_ge j (ss.length * 4) with h | h
          · exact h
          · rw [List.getElem?_eq_none (by rw [sortCells_len]; exact h)] at hj; cases hj
        obtain ⟨b, off, he, _, hc⟩ := hr.2.2 (by omega)
        cases he
        exact rt_cells hc j u hj)
      (sortCells_one ss) (by unfold maxLen; omega) (by omega) hbase
    exact ⟨v', w', hrun, by unfold OwnT; simpa [sortCells] using h2, h3⟩
theorem list_appendT {w : World} {ops : Array Oper} {rest : List Oper} {o : Oper} {a : Act} {Q : Exit → Act → World → Prop} (hgd : o.guard = none) (s x : Operand) (ho : o.op = .call { callee := .builtin .append, args := #[s, x], argTypes := #[22, 22] })
    (base : Nat) (v : Value) (hs : a.eval s = v) (hown : OwnT w base v []) (A : Option Addr) (c : Nat) (ss : List TS) (hx : a.eval x = .slice A ss.length c) (hr : RT w A ss.length ss) (hlen : ss.length ≤ 1000) (hbase : base ≤ w.heap.size)
    (h : ∀ v' w', OwnT w' base v' ss → w.grownBy w' v.ownBlock → wpList Tryz.prog ops Q rest (a.put o.dst v') w') : wpList Tryz.prog ops Q (o :: rest) a w := by
  refine wpList_plain hgd fun K hK => ?_
  obtain ⟨v', w', hr', h2, h3⟩ := run_appendT (c := c) hown hr hlen hbase o.type
  unfold Oper.wp execOp
  simp only [ho, resolve, invoke, builtin, Sem.run_bind, Sem.run_pure, Result.andThen_ok, List.map_toArray, List.map_cons, List.map_nil, hs, hx, hr']
  exact hK _ _ (h v' w' h2 h3)
theorem copy_box {w w' : World} {x : Obj} {g : Nat} {T : TypeId} {cs : Array Value} {o : Obj} (hg : (((w.alloc o).alloc x).alloc (.cells #[] 57)).grownBy w' (Value.slice (some ⟨w.heap.size + 1 + 1, 0, none⟩) 0 0).ownBlock) (hb : Blk (w.alloc o) g T cs) (hgl : g = w.heap.size) : Blk w' g T cs := by
  subst hgl
  exact (hg.block _ (by simp; omega) (by simp [Value.ownBlock]; omega)).trans ((hb.alloc _).alloc _)
theorem copy_res {w w' : World} {o : Obj} {T : TypeId} {cs : Array Value} (hg : (((w.alloc o).alloc (.cells cs T)).alloc (.cells #[] 57)).grownBy w' (Value.slice (some ⟨w.heap.size + 1 + 1, 0, none⟩) 0 0).ownBlock) : Blk w' (w.heap.size + 1) T cs :=
  (hg.block _ (by simp) (by simp [Value.ownBlock])).trans ((Blk.new1 w o T cs).alloc _)
theorem copy_ext {w w' : World} {o x y : Obj} (hg : (((w.alloc o).alloc x).alloc y).grownBy w' (Value.slice (some ⟨w.heap.size + 1 + 1, 0, none⟩) 0 0).ownBlock) : Ext w w' :=
  Ext.grown ((((Ext.refl w).alloc o).alloc x).alloc y) hg fun k hk => by simp [Value.ownBlock] at hk; omega
theorem RT.but {a b : World} {L : List Nat} {A : Option Addr} {n : Nat} {ss : List TS} (h : RT a A n ss) (k : But L a b) (hA : ∀ ad, A = some ad → ad.block ∉ L) : RT b A n ss :=
  ⟨h.1, h.2.1, fun hn => by
    obtain ⟨g, off, ha, hb, hc⟩ := h.2.2 hn
    have hbl := k.block g hb (hA _ ha)
    refine ⟨g, off, ha, Nat.lt_of_lt_of_le hb k.size, fun i hi => ?_⟩
    rw [World.cell?_of_block (a := ⟨g, off + i * 4, none⟩) hbl, World.cell?_of_block (a := ⟨g, off + i * 4 + 1, none⟩) hbl, World.cell?_of_block (a := ⟨g, off + i * 4 + 2, none⟩) hbl, World.cell?_of_block (a := ⟨g, off + i * 4 + 3, none⟩) hbl]
    exact hc i hi⟩
/-- A fount handed back, written out. -/
def RetFA (name : ByteArray) (body : Int) (ss : List TS) (w : World) (e : Ending) (w' : World) : Prop :=
  ∃ A c, e = .returned (.agg #[.string name, .int .i64 body, .slice A ss.length c]) ∧ FR w' A c ⟨name, body, ss⟩ ∧ Ext w w'
theorem few_123 {f : FT} (h : fewB f = true) : f.sorts.length ≤ 1000 := by obtain ⟨_, h1, _⟩ := fewB_true.1 h; omega
end Go.Proofs.YtfbdklminljecaaGreatDoor
