/-
  A slice of slices of ints of the call's own; one more is appended.
-/
import Derived.Test.YtaopcpfgmjpliaaDoorBox
namespace Go.Proofs.YtaopcpfgmjpliaaDoor
open Go.RowKit

theorem sliceInfo : (Tryd.prog.info? 31).map (fun i => (i.zero, i.size, i.bytes)) = some (some (.slice none 0 0), 1, 24) := by kernel_rfl
def OwnL (w : World) (base : Nat) (v : Value) (tk : List SI) : Prop := w.ownsRow base 31 1 v tk.length (tk.map SI.val)
theorem OwnL.nil (w : World) (base : Nat) : OwnL w base (.slice none 0 0) [] := World.ownsRow_nil _ _ _ _
theorem OwnL.ext {w w' : World} {base : Nat} {v : Value} {tk : List SI} (h : OwnL w base v tk) (hx : Ext w w') : OwnL w' base v tk := by
  refine World.ownsRow.kept (row := none) h ⟨hx.os, hx.tape, hx.output, hx.size, fun k hk _ => hx.block hk⟩ ?_
  cases hv : v.ownBlock with
  | none => exact .inl rfl
  | some g => exact .inr (by simp)
theorem OwnL.form {w : World} {base : Nat} {v : Value} {tk : List SI} (h : OwnL w base v tk) (hz : tk.length ≤ 1000000) (hr : ∀ s ∈ tk, RI w s.A s.zs.length s.zs) : ∃ A c, v = .slice A tk.length c ∧ RL w A tk.length tk := by
  have hrows : ∀ k, k < tk.length → RI w (tk.getD k SI.none_).A (tk.getD k SI.none_).zs.length (tk.getD k SI.none_).zs := fun k hk => hr _ (by
    rw [List.getD_eq_getElem?_getD, List.getElem?_eq_getElem hk]; exact List.getElem_mem hk)
  rcases Nat.eq_zero_or_pos tk.length with h0 | h0
  · obtain rfl := List.eq_nil_of_length_eq_zero h0
    rcases h.2 with ⟨rfl, _⟩ | ⟨g, cap, cur, rfl, _⟩
    · exact ⟨none, 0, rfl, RL.none_ w⟩
    · exact ⟨_, cap, rfl, rfl, by simp, fun h => absurd h (by simp), hrows⟩
  · obtain ⟨g, cap, hv, hg, hlt⟩ := World.ownsRow.form h h0
    subst hv
    have hc := World.ownsRow.cells (g := g) h rfl
    refine ⟨_, cap, rfl, rfl, by omega, fun _ => ⟨g, 0, rfl, hlt, fun k hk => ?_⟩, hrows⟩
    have := hc k (tk.getD k SI.none_).val (by rw [List.getElem?_map, List.getElem?_eq_getElem hk, List.getD_eq_getElem?_getD, List.getElem?_eq_getElem hk]; rfl)
    rw [show (0 + k) = k by omega]
    unfold Addr.add at this
    by_cases hk0 : k = 0
    · subst hk0; simpa using this
    · rw [if_neg hk0] at this; simpa using this
theorem run_pushL {w : World} {base : Nat} {v : Value} {tk : List SI} {g0 : Nat} {s : SI} (hown : OwnL w base v tk) (hb : w.cell? ⟨g0, 0, none⟩ = some s.val) (hlen : tk.length ≤ 1000000) (hbase : base ≤ w.heap.size) (ty : TypeId) :
    ∃ v' w', (Builtin.append_ #[87, 87] ty #[v, .slice (some ⟨g0, 0, none⟩) 1 1]).run Tryd.prog w = .ok v' w' ∧ OwnL w' base v' (tk ++ [s]) ∧ w.grownBy w' v.ownBlock := by
  obtain ⟨i0, hi, hz0, hz1, hz2⟩ := info_parts sliceInfo
  obtain ⟨g, cap, w', hr, h2, h3, _⟩ := run_append_lies (P := Tryd.prog) w 87 ty base 31 i0 (.slice none 0 0) 1 24 Tryd.underlying87 hi hz0 hz1 hz2 rfl (by decide) v tk.length _ hown ⟨g0, 0, none⟩ 1 1 [s.val] rfl
    (fun j u hj => by match j, hj with | 0, hj => simp at hj; subst hj; simpa [Addr.add] using hb) (fun u hu => by simp at hu; subst hu; rfl) (by decide) (by unfold maxLen; omega) (by omega) hbase _ rfl
  exact ⟨_, w', hr, by unfold OwnL; simpa using h2, h3⟩
theorem list_pushL {w : World} {ops : Array Oper} {rest : List Oper} {o : Oper} {a : Act} {Q : Exit → Act → World → Prop} (hgd : o.guard = none) (s x : Operand) (ho : o.op = .call { callee := .builtin .append, args := #[s, x], argTypes := #[87, 87] })
    (base : Nat) (v : Value) (tk : List SI) (hs : a.eval s = v) (hown : OwnL w base v tk) (g0 : Nat) (r : SI) (hx : a.eval x = .slice (some ⟨g0, 0, none⟩) 1 1) (hb : w.cell? ⟨g0, 0, none⟩ = some r.val) (hlen : tk.length ≤ 1000000) (hbase : base ≤ w.heap.size)
    (h : ∀ v' w', OwnL w' base v' (tk ++ [r]) → w.grownBy w' v.ownBlock → wpList Tryd.prog ops Q rest (a.put o.dst v') w') : wpList Tryd.prog ops Q (o :: rest) a w := by
  refine wpList_plain hgd fun K hK => ?_
  obtain ⟨v', w', hr', h2, h3⟩ := run_pushL hown hb hlen hbase o.type
  unfold Oper.wp execOp
  simp only [ho, resolve, invoke, builtin, Sem.run_bind, Sem.run_pure, Result.andThen_ok, List.map_toArray, List.map_cons, List.map_nil, hs, hx, hr']
  exact hK _ _ (h v' w' h2 h3)
end Go.Proofs.YtaopcpfgmjpliaaDoor
