/-
  What the parting's loops keep in memory: a slice of slices of the call's own; the fount's box; the rows that came in.
-/
import Derived.Test.YtphkffndhifdkaaTopCast
namespace Go.Proofs.Ytphkffndhifdkaa.parted
open Go.RowKit

theorem sliceInfo : (Try.prog.info? 25).map (fun i => (i.zero, i.size, i.bytes)) = some (some (.slice none 0 0), 1, 24) := by kernel_rfl
def OwnL (w : World) (base : Nat) (v : Value) (tk : List SI) : Prop := w.ownsRow base 25 1 v tk.length (tk.map SI.val)
theorem OwnL.nil (w : World) (base : Nat) : OwnL w base (.slice none 0 0) [] := World.ownsRow_nil _ _ _ _
theorem OwnL.ext {w w' : World} {base : Nat} {v : Value} {tk : List SI} (h : OwnL w base v tk) (hx : Ext w w') : OwnL w' base v tk := by
  refine World.ownsRow.kept (row := none) h ⟨hx.os, hx.tape, hx.output, hx.size, fun k hk _ => hx.block hk⟩ ?_
  cases hv : v.ownBlock with
  | none => exact .inl rfl
  | some g => exact .inr (by simp)
theorem OwnL.form {w : World} {base : Nat} {v : Value} {tk : List SI} (h : OwnL w base v tk) (hz : tk.length ≤ 1000000) (hr : ∀ s ∈ tk, RI w s.A s.zs.length s.zs) : ∃ A c, v = .slice A tk.length c ∧ RL w A tk.length tk := by
  have hrows : ∀ k, k < tk.length → RI w (tk.getD k SI.none_).A (tk.getD k SI.none_).zs.length (tk.getD k SI.none_).zs := fun k hk => hr _ (by
    rw [List.getD_eq_getElem?_getD, List.getElem?_eq_getElem hk]; exact List.getElem_mem hk)
  rcases Nat.eq_zero_or_pos tk.length with h0 | h0
  · obtain rfl := List.eq_nil_of_length_eq_zero h0
    rcases h.2 with ⟨rfl, _⟩ | ⟨g, cap, cur, rfl, _⟩
    · exact ⟨none, 0, rfl, RL.none_ w⟩
    · exact ⟨_, cap, rfl, rfl, by simp, fun h => absurd h (by simp), hrows⟩
  · obtain ⟨g, cap, hv, hg, hlt⟩ := World.ownsRow.form h h0
    subst hv
    have hc := World.ownsRow.cells (g := g) h rfl
    refine ⟨_, cap, rfl, rfl, by omega, fun _ => ⟨g, 0, rfl, hlt, fun k hk => ?_⟩, hrows⟩
    have := hc k (tk.getD k SI.none_).val (by rw [List.getElem?_map, List.getElem?_eq_getElem hk, List.getD_eq_getElem?_getD, List.getElem?_eq_getElem hk]; rfl)
    rw [show (0 + k) = k by omega]
    unfold Addr.add at this
    by_cases hk0 : k = 0
    · subst hk0; simpa using this
    · rw [if_neg hk0] at this; simpa using this
theorem run_pushL {w : World} {base : Nat} {v : Value} {tk : List SI} {g0 : Nat} {s : SI} (hown : OwnL w base v tk) (hb : w.cell? ⟨g0, 0, none⟩ = some s.val) (hlen : tk.length ≤ 1000000) (hbase : base ≤ w.heap.size) (ty : TypeId) :
    ∃ v' w', (Builtin.append_ #[26, 26] ty #[v, .slice (some ⟨g0, 0, none⟩) 1 1]).run Try.prog w = .ok v' w' ∧ OwnL w' base v' (tk ++ [s]) ∧ w.grownBy w' v.ownBlock := by
  obtain ⟨i0, hi, hz0, hz1, hz2⟩ := info_parts sliceInfo
  obtain ⟨g, cap, w', hr, h2, h3, _⟩ := run_append_lies (P := Try.prog) w 26 ty base 25 i0 (.slice none 0 0) 1 24 Try.underlying26 hi hz0 hz1 hz2 rfl (by decide) v tk.length _ hown ⟨g0, 0, none⟩ 1 1 [s.val] rfl
    (fun j u hj => by match j, hj with | 0, hj => simp at hj; subst hj; simpa [Addr.add] using hb) (fun u hu => by simp at hu; subst hu; rfl) (by decide) (by unfold maxLen; omega) (by omega) hbase _ rfl
  exact ⟨_, w', hr, by unfold OwnL; simpa using h2, h3⟩
theorem list_pushL {w : World} {ops : Array Oper} {rest : List Oper} {o : Oper} {a : Act} {Q : Exit → Act → World → Prop} (hgd : o.guard = none) (s x : Operand) (ho : o.op = .call { callee := .builtin .append, args := #[s, x], argTypes := #[26, 26] })
    (base : Nat) (v : Value) (tk : List SI) (hs : a.eval s = v) (hown : OwnL w base v tk) (g0 : Nat) (r : SI) (hx : a.eval x = .slice (some ⟨g0, 0, none⟩) 1 1) (hb : w.cell? ⟨g0, 0, none⟩ = some r.val) (hlen : tk.length ≤ 1000000) (hbase : base ≤ w.heap.size)
    (h : ∀ v' w', OwnL w' base v' (tk ++ [r]) → w.grownBy w' v.ownBlock → wpList Try.prog ops Q rest (a.put o.dst v') w') : wpList Try.prog ops Q (o :: rest) a w := by
  refine wpList_plain hgd fun K hK => ?_
  obtain ⟨v', w', hr', h2, h3⟩ := run_pushL hown hb hlen hbase o.type
  unfold Oper.wp execOp
  simp only [ho, resolve, invoke, builtin, Sem.run_bind, Sem.run_pure, Result.andThen_ok, List.map_toArray, List.map_cons, List.map_nil, hs, hx, hr']
  exact hK _ _ (h v' w' h2 h3)

/-- The fount's box, and all that lay, lie in wr. -/
structure Here (w : World) (name : ByteArray) (body : Int) (A : Option Addr) (n c : Nat) (wr : World) : Prop where
  ext : Ext w wr
  blk : Blk wr w.heap.size 24 #[.string name, .int .i64 body, .slice A n c]
section
variable {w a b : World} {name : ByteArray} {body : Int} {A : Option Addr} {n c : Nat}
theorem Here.next (h : Here w name body A n c a) (hx : Ext a b) : Here w name body A n c b := ⟨h.ext.trans hx, h.blk.ext hx⟩
theorem Here.row (h : Here w name body A n c a) {g o : Nat} {v : Value} (hg : g < w.heap.size) (hc : w.cell? ⟨g, o, none⟩ = some v) : a.cell? ⟨g, o, none⟩ = some v := (h.ext.cell (p := ⟨g, o, none⟩) hg).trans hc
theorem Here.start (w : World) (h : Ext (w.alloc (.cells #[.string name, .int .i64 body, .slice A n c] 24)) b) : Here w name body A n c b := ⟨h.of_alloc, (Blk.new _ _ _).ext h⟩
end
/-- What the parting's loop keeps. -/
structure Kept (w : World) (f : FT) (A : Option Addr) (c : Nat) (xs : List Int) (wr : World) (B : Option Addr) (ls : List Int) (m : Int) (T : Value) (tk : List SI) : Prop where
  here : Here w f.name f.body A f.sorts.length c wr
  left : RI wr B ls.length ls
  own : OwnL wr (w.heap.size + 1) T tk
  rows : ∀ s ∈ tk, RI w s.A s.zs.length s.zs
  inv : PInv f xs ls tk m
section
variable {w : World} {f : FT} {A : Option Addr} {c : Nat} {xs : List Int} {a b : World} {B : Option Addr} {ls : List Int} {m : Int} {T : Value} {tk : List SI}
theorem Kept.next (h : Kept w f A c xs a B ls m T tk) (hx : Ext a b) : Kept w f A c xs b B ls m T tk := ⟨h.here.next hx, h.left.ext hx, h.own.ext hx, h.rows, h.inv⟩
theorem RI.grown {w w' : World} {A : Option Addr} {n : Nat} {zs : List Int} {row : Option Nat} (h : RI w A n zs) (hg : w.grownBy w' row) (hne : ∀ a, A = some a → some a.block ≠ row) : RI w' A n zs :=
  ⟨h.1, h.2.1, fun hn => by
    obtain ⟨b, off, ha, hb, hc⟩ := h.2.2 hn
    exact ⟨b, off, ha, Nat.lt_of_lt_of_le hb hg.size, fun k hk => (World.cell?_of_block (a := ⟨b, off + k, none⟩) (hg.block b hb (hne _ ha))).trans (hc k hk)⟩⟩
/-- One need more is taken: the row of needs grows. -/
theorem Kept.taken {W1 W W' : World} {Z : Option Addr} {nx : List Int} {cz : Nat} {m' : Int} {T' : Value} {s : SI} (h : Kept w f A c xs a B ls m T tk) (hx : Ext a W) (hw : Ext a W1) (hz : Own W W1.heap.size (.slice Z nx.length cz) nx) (hr : RI W Z nx.length nx)
    (hg : W.grownBy W' T.ownBlock) (ho : OwnL W' (w.heap.size + 1) T' (tk ++ [s])) (hs : RI w s.A s.zs.length s.zs) (hi : PInv f xs nx (tk ++ [s]) m') : Kept w f A c xs W' Z nx m' T' (tk ++ [s]) := by
  have hlt : ∀ k, T.ownBlock = some k → w.heap.size + 1 ≤ k ∧ k < a.heap.size := fun k hk => World.ownsRow.lt h.own k hk
  refine ⟨⟨Ext.grown (h.here.ext.trans hx) hg fun k hk => by have := hlt k hk; omega, ?_⟩, ?_, ho, fun x hx' => ?_, hi⟩
  · have hb := h.here.blk.ext hx
    exact (hg.block _ hb.lt (fun e => by have := hlt _ e.symm; omega)).trans hb
  · refine RI.grown hr hg fun ad hA e => ?_
    have h1 := hlt _ e.symm
    have h2 := hz.base_le ad.block (by rw [hA]; rfl)
    have := hw.size
    omega
  · rcases List.mem_append.1 hx' with h1 | h1
    · exact h.rows x h1
    · rw [List.mem_singleton.1 h1]; exact hs
theorem Kept.start (h : Here w f.name f.body A f.sorts.length c a) (hl : RI a B xs.length xs) (hx : countsErr f xs = 0) : Kept w f A c xs a B xs 0 (.slice none 0 0) [] :=
  ⟨h, hl, OwnL.nil _ _, fun s hs => (by cases hs), PInv.start hx⟩
/-- What the joining's loop keeps. -/
structure Back (w : World) (f : FT) (A : Option Addr) (c : Nat) (xs : List Int) (TA : Option Addr) (tk : List SI) (wr : World) (B : Option Addr) (ls : List Int) (j : Nat) : Prop where
  here : Here w f.name f.body A f.sorts.length c wr
  left : RI wr B ls.length ls
  tak : RL wr TA tk.length tk
  inv : BInv f xs ls tk j
end
end Go.Proofs.Ytphkffndhifdkaa.parted
