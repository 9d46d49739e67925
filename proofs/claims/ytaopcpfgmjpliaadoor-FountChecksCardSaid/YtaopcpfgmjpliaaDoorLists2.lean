/-
  Walk: CopyLists, copies of lists of lists.
-/
import Derived.Test.YtaopcpfgmjpliaaDoorEnough
namespace Go.Proofs.YtaopcpfgmjpliaaDoor
open Go.RowKit

theorem SL.of_own {w : World} {base c : Nat} {A : Option Addr} {zs : List Int} (h : Own w base (.slice A zs.length c) zs) (hz : zs.length ≤ 1000000) : SL w base A c zs := by
  obtain ⟨A', c', he, hc, hr⟩ := h.form (by omega)
  obtain ⟨e1, _, e3⟩ := Value.slice.inj he
  subst e1 e3
  exact ⟨h, hr, hc⟩
theorem SL.grown {w w' : World} {base c : Nat} {A : Option Addr} {zs : List Int} {row : Option Nat} (h : SL w base A c zs) (hz : zs.length ≤ 1000000) (hg : w.grownBy w' row) (hne : ∀ g, row = some g → (Value.slice A zs.length c).ownBlock ≠ some g) : SL w' base A c zs :=
  SL.of_own (World.ownsRow.kept (row := row) h.own hg (by
    cases hv : (Value.slice A zs.length c).ownBlock with
    | none => exact .inl rfl
    | some g => exact .inr (fun e => hne g e.symm hv))) hz
theorem own_block {w : World} {base n : Nat} {t : TypeId} {v : Value} {cs : List Value} {g : Nat} (h : w.ownsRow base t 1 v n cs) (hv : v.ownBlock = some g) : ∃ cur, Blk w g t cur := by
  rcases h.2 with ⟨rfl, _⟩ | ⟨g', cap, cur, rfl, _, hh, _⟩
  · cases hv
  · cases hv
    exact ⟨cur, hh⟩
/-- A slice of slices and a slice of ints do not share a block: their types differ. -/
theorem own_ne {w : World} {base base' c : Nat} {A : Option Addr} {zs : List Int} {v : Value} {tk : List SI} (hT : OwnL w base v tk) (hs : SL w base' A c zs) : ∀ g, v.ownBlock = some g → (Value.slice A zs.length c).ownBlock ≠ some g := by
  intro g h1 h2
  obtain ⟨c1, b1⟩ := own_block hT h1
  obtain ⟨c2, b2⟩ := own_block hs.own h2
  unfold Blk at b1 b2
  rw [b1] at b2
  simp at b2
/-- What the copying keeps. -/
structure Cop (w wr : World) (ls : List (List Int)) (k : Nat) (v : Value) (tk : List SI) : Prop where
  own : OwnL wr w.heap.size v tk
  len : tk.length = k
  same : tk.map SI.zs = ls.take k
  rows : ∀ s ∈ tk, SL wr w.heap.size s.A s.c s.zs ∧ s.zs.length ≤ 1000000
  ext : Ext w wr
theorem Cop.next {w wr w' : World} {ls : List (List Int)} {k : Nat} {v : Value} {tk : List SI} (h : Cop w wr ls k v tk) (hx : Ext wr w') : Cop w w' ls k v tk :=
  ⟨h.own.ext hx, h.len, h.same, fun s hs => ⟨(h.rows s hs).1.ext hx, (h.rows s hs).2⟩, h.ext.trans hx⟩
theorem Cop.push {w wr w' : World} {ls : List (List Int)} {k : Nat} {v v' : Value} {tk : List SI} {s : SI} (h : Cop w wr ls k v tk) (hs : SL wr w.heap.size s.A s.c s.zs) (hz : s.zs.length ≤ 1000000) (hk : k < ls.length) (he : s.zs = ls.getD k [])
    (hg : wr.grownBy w' v.ownBlock) (ho : OwnL w' w.heap.size v' (tk ++ [s])) : Cop w w' ls (k + 1) v' (tk ++ [s]) := by
  refine ⟨ho, by simp [h.len], ?_, fun x hx => ?_, Ext.grown h.ext hg fun g hv => (World.ownsRow.lt h.own g hv).1⟩
  · rw [List.map_append, h.same, List.map_cons, List.map_nil, he, List.take_succ_eq_append_getElem hk, List.getD_eq_getElem?_getD, List.getElem?_eq_getElem hk]; rfl
  · rcases List.mem_append.1 hx with h1 | h1
    · obtain ⟨h2, h3⟩ := h.rows x h1
      exact ⟨h2.grown h3 hg (own_ne h.own h2), h3⟩
    · rw [List.mem_singleton.1 h1]
      exact ⟨hs.grown hz hg (own_ne h.own hs), hz⟩
def RetL (ls : List (List Int)) (w : World) (e : Ending) (w' : World) : Prop := ∃ A c rows, e = .returned (.slice A rows.length c) ∧ RL w' A rows.length rows ∧ rows.map SI.zs = ls ∧ Ext w w'
theorem Cop.done {w wr : World} {ls : List (List Int)} {v : Value} {tk : List SI} (h : Cop w wr ls ls.length v tk) (hl : ls.length ≤ 1000000) : RetL ls w (.returned v) wr := by
  obtain ⟨A, c, rfl, hr⟩ := h.own.form (by rw [h.len]; exact hl) (fun s hs => (h.rows s hs).1.ri)
  exact ⟨A, c, tk, rfl, hr, by rw [h.same, List.take_length], h.ext⟩
end Go.Proofs.YtaopcpfgmjpliaaDoor
