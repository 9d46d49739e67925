/-
  Slices of slices of slices of ints in memory, and such a slice of the call's own.
-/
import Derived.Test.YtfbdklminljecaaGreatDoorGJ
import Derived.Test.YtfbdklminljecaaGreatDoorGE
import Derived.Test.YtfbdklminljecaaGreatDoorGF
namespace Go.Proofs.YtfbdklminljecaaGreatDoor
open Go.RowKit

theorem sliceInfo : (Tryz.prog.info? 25).map (fun i => (i.zero, i.size, i.bytes)) = some (some (.slice none 0 0), 1, 24) := by kernel_rfl
def OwnL (w : World) (base : Nat) (v : Value) (tk : List SI) : Prop := w.ownsRow base 25 1 v tk.length (tk.map SI.val)
theorem OwnL.nil (w : World) (base : Nat) : OwnL w base (.slice none 0 0) [] := World.ownsRow_nil _ _ _ _
theorem OwnL.ext {w w' : World} {base : Nat} {v : Value} {tk : List SI} (h : OwnL w base v tk) (hx : Ext w w') : OwnL w' base v tk := by
  refine World.ownsRow.kept (row := none) h ⟨hx.os, hx.tape, hx.output, hx.size, fun k hk _ => hx.block hk⟩ ?_
  cases hv : v.ownBlock with
  | none => exact .inl rfl
  | some g => exact .inr (by simp)
theorem OwnL.form {w : World} {base : Nat} {v : Value} {tk : List SI} (h : OwnL w base v tk) (hz : tk.length ≤ 1000000) (hr : ∀ s ∈ tk, RI w s.A s.zs.length s.zs) : ∃ A c, v = .slice A tk.length c ∧ RL w A tk.length tk := by
  have hrows : ∀ k, k < tk.length → RI w (tk.getD k SI.none_).A (tk.getD k SI.none_).zs.length (tk.getD k SI.none_).zs := fun k hk => hr _ (by
    rw [List.getD_eq_getElem?_getD, List.getElem?_eq_getElem hk]; exact List.getElem_mem hk)
  rcases Nat.eq_zero_or_pos tk.length with h0 | h0
  · obtain rfl := List.eq_nil_of_length_eq_zero h0
    rcases h.2 with ⟨rfl, _⟩ | ⟨g, cap, cur, rfl, _⟩
    · exact ⟨none, 0, rfl, RL.none_ w⟩
    · exact ⟨_, cap, rfl, rfl, by simp, fun h => absurd h (by simp), hrows⟩
  · obtain ⟨g, cap, hv, hg, hlt⟩ := World.ownsRow.form h h0
    subst hv
    have hc := World.ownsRow.cells (g := g) h rfl
    refine ⟨_, cap, rfl, rfl, by omega, fun _ => ⟨g, 0, rfl, hlt, fun k hk => ?_⟩, hrows⟩
    have := hc k (tk.getD k SI.none_).val (by rw [List.getElem?_map, List.getElem?_eq_getElem hk, List.getD_eq_getElem?_getD, List.getElem?_eq_getElem hk]; rfl)
    rw [show (0 + k) = k by omega]
    unfold Addr.add at this
    by_cases hk0 : k = 0
    · subst hk0; simpa using this
    · rw [if_neg hk0] at this; simpa using this
theorem run_pushL {w : World} {base : Nat} {v : Value} {tk : List SI} {g0 : Nat} {s : SI} (hown : OwnL w base v tk) (hb : w.cell? ⟨g0, 0, none⟩ = some s.val) (hlen : tk.length ≤ 1000000) (hbase : base ≤ w.heap.size) (ty : TypeId) :
    ∃ v' w', (Builtin.append_ #[26, 26] ty #[v, .slice (some ⟨g0, 0, none⟩) 1 1]).run Tryz.prog w = .ok v' w' ∧ OwnL w' base v' (tk ++ [s]) ∧ w.grownBy w' v.ownBlock := by
  obtain ⟨i0, hi, hz0, hz1, hz2⟩ := info_parts sliceInfo
  obtain ⟨g, cap, w', hr, h2, h3, _⟩ := run_append_lies (P := Tryz.prog) w 26 ty base 25 i0 (.slice none 0 0) 1 24 Tryz.underlying26 hi hz0 hz1 hz2 rfl (by decide) v tk.length _ hown ⟨g0, 0, none⟩ 1 1 [s.val] rfl
    (fun j u hj => by match j, hj with | 0, hj => simp at hj; subst hj; simpa [Addr.add] using hb) (fun u hu => by simp at hu; subst hu; rfl) (by decide) (by unfold maxLen; omega) (by omega) hbase _ rfl
  exact ⟨_, w', hr, by unfold OwnL; simpa using h2, h3⟩
theorem list_pushL {w : World} {ops : Array Oper} {rest : List Oper} {o : Oper} {a : Act} {Q : Exit → Act → World → Prop} (hgd : o.guard = none) (s x : Operand) (ho : o.op = .call { callee := .builtin .append, args := #[s, x], argTypes := #[26, 26] })
    (base : Nat) (v : Value) (tk : List SI) (hs : a.eval s = v) (hown : OwnL w base v tk) (g0 : Nat) (r : SI) (hx : a.eval x = .slice (some ⟨g0, 0, none⟩) 1 1) (hb : w.cell? ⟨g0, 0, none⟩ = some r.val) (hlen : tk.length ≤ 1000000) (hbase : base ≤ w.heap.size)
    (h : ∀ v' w', OwnL w' base v' (tk ++ [r]) → w.grownBy w' v.ownBlock → wpList Tryz.prog ops Q rest (a.put o.dst v') w') : wpList Tryz.prog ops Q (o :: rest) a w := by
  refine wpList_plain hgd fun K hK => ?_
  obtain ⟨v', w', hr', h2, h3⟩ := run_pushL hown hb hlen hbase o.type
  unfold Oper.wp execOp
  simp only [ho, resolve, invoke, builtin, Sem.run_bind, Sem.run_pure, Result.andThen_ok, List.map_toArray, List.map_cons, List.map_nil, hs, hx, hr']
  exact hK _ _ (h v' w' h2 h3)
theorem zs_at (rows : List SI) (k : Nat) (hk : k < rows.length) : (rows.map SI.zs).getD k [] = (rows.getD k SI.none_).zs := by
  rw [List.getD_eq_getElem?_getD, List.getD_eq_getElem?_getD, List.getElem?_map, List.getElem?_eq_getElem hk]; rfl

theorem SL.grown {w w' : World} {base c : Nat} {A : Option Addr} {zs : List Int} {row : Option Nat} (h : SL w base A c zs) (hz : zs.length ≤ 1000000) (hg : w.grownBy w' row) (hne : ∀ g, row = some g → (Value.slice A zs.length c).ownBlock ≠ some g) : SL w' base A c zs :=
  SL.of_own (World.ownsRow.kept (row := row) h.own hg (by
    cases hv : (Value.slice A zs.length c).ownBlock with
    | none => exact .inl rfl
    | some g => exact .inr (fun e => hne g e.symm hv))) hz
theorem own_block {w : World} {base n : Nat} {t : TypeId} {v : Value} {cs : List Value} {g : Nat} (h : w.ownsRow base t 1 v n cs) (hv : v.ownBlock = some g) : ∃ cur, Blk w g t cur := by
  rcases h.2 with ⟨rfl, _⟩ | ⟨g', cap, cur, rfl, _, hh, _⟩
  · cases hv
  · cases hv
    exact ⟨cur, hh⟩
/-- A slice of slices and a slice of ints do not share a block: their types differ. -/
theorem own_ne {w : World} {base base' c : Nat} {A : Option Addr} {zs : List Int} {v : Value} {tk : List SI} (hT : OwnL w base v tk) (hs : SL w base' A c zs) : ∀ g, v.ownBlock = some g → (Value.slice A zs.length c).ownBlock ≠ some g := by
  intro g h1 h2
  obtain ⟨c1, b1⟩ := own_block hT h1
  obtain ⟨c2, b2⟩ := own_block hs.own h2
  unfold Blk at b1 b2
  rw [b1] at b2
  simp at b2
/-- What the copying keeps. -/
structure Cop (w wr : World) (ls : List (List Int)) (k : Nat) (v : Value) (tk : List SI) : Prop where
  own : OwnL wr w.heap.size v tk
  len : tk.length = k
  same : tk.map SI.zs = ls.take k
  rows : ∀ s ∈ tk, SL wr w.heap.size s.A s.c s.zs ∧ s.zs.length ≤ 1000000
  ext : Ext w wr
theorem Cop.next {w wr w' : World} {ls : List (List Int)} {k : Nat} {v : Value} {tk : List SI} (h : Cop w wr ls k v tk) (hx : Ext wr w') : Cop w w' ls k v tk :=
  ⟨h.own.ext hx, h.len, h.same, fun s hs => ⟨(h.rows s hs).1.ext hx, (h.rows s hs).2⟩, h.ext.trans hx⟩
theorem Cop.push {w wr w' : World} {ls : List (List Int)} {k : Nat} {v v' : Value} {tk : List SI} {s : SI} (h : Cop w wr ls k v tk) (hs : SL wr w.heap.size s.A s.c s.zs) (hz : s.zs.length ≤ 1000000) (hk : k < ls.length) (he : s.zs = ls.getD k [])
    (hg : wr.grownBy w' v.ownBlock) (ho : OwnL w' w.heap.size v' (tk ++ [s])) : Cop w w' ls (k + 1) v' (tk ++ [s]) := by
  refine ⟨ho, by simp [h.len], ?_, fun x hx => ?_, Ext.grown h.ext hg fun g hv => (World.ownsRow.lt h.own g hv).1⟩
  · rw [List.map_append, h.same, List.map_cons, List.map_nil, he, List.take_succ_eq_append_getElem hk, List.getD_eq_getElem?_getD, List.getElem?_eq_getElem hk]; rfl
  · rcases List.mem_append.1 hx with h1 | h1
    · obtain ⟨h2, h3⟩ := h.rows x h1
      exact ⟨h2.grown h3 hg (own_ne h.own h2), h3⟩
    · rw [List.mem_singleton.1 h1]
      exact ⟨hs.grown hz hg (own_ne h.own hs), hz⟩

/-- A row: a slice of slices of ints. -/
structure S3 where
  A : Option Addr
  c : Nat
  rows : List SI
def S3.val (s : S3) : Value := .slice s.A s.rows.length s.c
def S3.none_ : S3 := ⟨none, 0, []⟩
/-- A slice of rows reads as xs. -/
def R3 (w : World) (A : Option Addr) (n : Nat) (xs : List S3) : Prop :=
  xs.length = n ∧ n ≤ 9223372036854775807 ∧ (0 < n → ∃ b off, A = some ⟨b, off, none⟩ ∧ b < w.heap.size ∧ ∀ k, k < n → w.cell? ⟨b, off + k, none⟩ = some (xs.getD k S3.none_).val) ∧
  ∀ k, k < n → RL w (xs.getD k S3.none_).A (xs.getD k S3.none_).rows.length (xs.getD k S3.none_).rows
theorem R3.ext {w w' : World} {A : Option Addr} {n : Nat} {xs : List S3} (h : R3 w A n xs) (hx : Ext w w') : R3 w' A n xs :=
  ⟨h.1, h.2.1, fun hn => let ⟨b, off, ha, hb, hc⟩ := h.2.2.1 hn; ⟨b, off, ha, Nat.lt_of_lt_of_le hb hx.size, fun k hk => (hx.cell (p := ⟨b, off + k, none⟩) hb).trans (hc k hk)⟩, fun k hk => (h.2.2.2 k hk).ext hx⟩
def rlen (xs : List S3) (k : Nat) : Nat := (xs.getD k S3.none_).rows.length
def cz (xs : List S3) (k i : Nat) : List Int := ((xs.getD k S3.none_).rows.getD i SI.none_).zs
theorem rlInfo : (Tryz.prog.info? 26).map (fun i => (i.zero, i.size, i.bytes)) = some (some (.slice none 0 0), 1, 24) := by kernel_rfl
def OwnLL (w : World) (base : Nat) (v : Value) (tk : List S3) : Prop := w.ownsRow base 26 1 v tk.length (tk.map S3.val)
theorem OwnLL.nil (w : World) (base : Nat) : OwnLL w base (.slice none 0 0) [] := World.ownsRow_nil _ _ _ _
theorem OwnLL.ext {w w' : World} {base : Nat} {v : Value} {tk : List S3} (h : OwnLL w base v tk) (hx : Ext w w') : OwnLL w' base v tk := by
  refine World.ownsRow.kept (row := none) h ⟨hx.os, hx.tape, hx.output, hx.size, fun k hk _ => hx.block hk⟩ ?_
  cases hv : v.ownBlock with
  | none => exact .inl rfl
  | some g => exact .inr (by simp)
theorem OwnLL.form {w : World} {base : Nat} {v : Value} {tk : List S3} (h : OwnLL w base v tk) (hz : tk.length ≤ 1000000) (hr : ∀ k, k < tk.length → RL w (tk.getD k S3.none_).A (tk.getD k S3.none_).rows.length (tk.getD k S3.none_).rows) : ∃ A c, v = .slice A tk.length c ∧ R3 w A tk.length tk := by
  rcases Nat.eq_zero_or_pos tk.length with h0 | h0
  · obtain rfl := List.eq_nil_of_length_eq_zero h0
    rcases h.2 with ⟨rfl, _⟩ | ⟨g, cap, cur, rfl, _⟩
    · exact ⟨none, 0, rfl, rfl, by simp, fun h => absurd h (by simp), hr⟩
    · exact ⟨_, cap, rfl, rfl, by simp, fun h => absurd h (by simp), hr⟩
  · obtain ⟨g, cap, hv, hg, hlt⟩ := World.ownsRow.form h h0
    subst hv
    have hc := World.ownsRow.cells (g := g) h rfl
    refine ⟨_, cap, rfl, rfl, by omega, fun _ => ⟨g, 0, rfl, hlt, fun k hk => ?_⟩, hr⟩
    have := hc k (tk.getD k S3.none_).val (by rw [List.getElem?_map, List.getElem?_eq_getElem hk, List.getD_eq_getElem?_getD, List.getElem?_eq_getElem hk]; rfl)
    rw [show (0 + k) = k by omega]
    unfold Addr.add at this
    by_cases hk0 : k = 0
    · subst hk0; simpa using this
    · rw [if_neg hk0] at this; simpa using this
/-- Lists copied into memory of one's own, whole. -/
def RetLO (ls : List (List Int)) (w : World) (e : Ending) (w' : World) : Prop := ∃ A c tk, e = .returned (.slice A (List.length tk) c) ∧ Cop w w' ls ls.length (.slice A tk.length c) tk
end Go.Proofs.YtfbdklminljecaaGreatDoor
