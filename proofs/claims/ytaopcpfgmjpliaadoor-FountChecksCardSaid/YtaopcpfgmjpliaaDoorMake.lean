/-
  Law of the walk: a new slice of so many zeros.
-/
import Derived.Test.YtaopcpfgmjpliaaDoorCase
namespace Go.Proofs.YtaopcpfgmjpliaaDoor
open Go.RowKit

theorem made_zeros (n : Nat) : (madeCells (Value.int .i64 0).cells (n * 1)).toList = (List.replicate n (0 : Int)).map (Value.int .i64) := by
  unfold madeCells
  simp only [Value.cells, List.map_replicate, List.eq_replicate_iff]
  simp
  intro a _
  rw [Nat.mod_one]; rfl
theorem list_makeI {w : World} {ops : Array Oper} {rest : List Oper} {o : Oper} {a : Act} {Q : Exit → Act → World → Prop} (hgd : o.guard = none) (l c : Operand) (hop : o.op = Op.makeSlice 31 l c)
    (n : Nat) (hl : a.eval l = .int .i64 (n : Int)) (hc : a.eval c = .int .i64 (n : Int)) (hn : n ≤ 1000000)
    (h : ∀ w', SL w' w.heap.size (some ⟨w.heap.size, 0, none⟩) n (List.replicate n 0) → Ext w w' → w.heap.size < w'.heap.size → wpList Tryd.prog ops Q rest (a.put o.dst (.slice (some ⟨w.heap.size, 0, none⟩) n n)) w') : wpList Tryd.prog ops Q (o :: rest) a w := by
  obtain ⟨i0, hi, hz0, hz1, hz2⟩ := info_parts intInfo
  refine wpList_make_full w hgd l c 31 hop w.heap.size 3 i0 (.int .i64 0) 1 Tryd.underlying31 hi hz0 hz1 .i64 .i64 (n : Int) (n : Int) n hl hc rfl rfl (by rw [hz2]; omega) (by unfold maxLen; omega) (Nat.le_refl _) ?_
  intro w' hown hg
  rw [made_zeros] at hown
  have ho : Own w' w.heap.size (.slice (some ⟨w.heap.size, 0, none⟩) (List.replicate n (0 : Int)).length n) (List.replicate n 0) := by
    unfold Own; rw [List.length_replicate]; exact hown
  have hx : Ext w w' := Ext.grown (Ext.refl _) hg fun k hk => by cases hk
  obtain ⟨A, c', he, hcl, hr⟩ := ho.form (by rw [List.length_replicate]; omega)
  obtain ⟨e1, _, e3⟩ := Value.slice.inj he
  subst e1 e3
  have hlt := (World.ownsRow.lt ho w.heap.size rfl).2
  exact h w' ⟨ho, hr, hcl⟩ hx hlt
end Go.Proofs.YtaopcpfgmjpliaaDoor
