/-
  Piles in memory: a grid of stacks that is made place by place.
-/
import Derived.Test.YtniiahddpdiocaaFoldTurn
import Derived.Test.YtniiahddpdiocaaSteadyR
import Derived.Deep.Onto
namespace Go.Proofs.Ytniiahddpdiocaa
open Go.RowKit

/-- A stack as it lies. -/
structure SLf where
  A : Option Addr
  c : Nat
  l : List Lf
def SLf.val (s : SLf) : Value := .slice s.A s.l.length s.c
def SLf.none_ : SLf := ⟨none, 0, []⟩
theorem stackElt : Elt 121 86 1 24 (.slice none 0 0) := ⟨Try.underlying121, by kernel_rfl, rfl, by decide, by decide⟩
/-- A slice of stacks. -/
structure RPl (w : World) (A : Option Addr) (rows : List SLf) : Prop where
  rc : RC w A rows.length 1 (rows.map SLf.val)
  mem : ∀ s ∈ rows, RLf w s.A s.l
theorem RPl.ext {w w' : World} {A : Option Addr} {rows : List SLf} (h : RPl w A rows) (hx : Ext w w') : RPl w' A rows := ⟨h.rc.ext hx, fun s hs => (h.mem s hs).ext hx⟩
/-- A pile's value, and the pile in memory. -/
def plV (p : Pl) (A : Option Addr) (n d : Nat) : Value := .agg #[.int .i64 (p.C : Int), .int .i64 (p.R : Int), .slice A n d]
structure PR (w : World) (p : Pl) (A : Option Addr) (rows : List SLf) : Prop where
  pl : RPl w A rows
  ls : rows.map SLf.l = p.at_
theorem PR.ext {w w' : World} {p : Pl} {A : Option Addr} {rows : List SLf} (h : PR w p A rows) (hx : Ext w w') : PR w' p A rows := ⟨h.pl.ext hx, h.ls⟩
theorem PR.len {w : World} {p : Pl} {A : Option Addr} {rows : List SLf} (h : PR w p A rows) : rows.length = p.at_.length := by rw [← h.ls, List.length_map]
/-- A pile in memory of one's own. -/
structure OPl (w : World) (base : Nat) (p : Pl) (v : Value) (rows : List SLf) : Prop where
  own : w.ownsRow base 86 1 v rows.length (rows.map SLf.val)
  mem : ∀ s ∈ rows, OLf w base s.val s.l
  ls : rows.map SLf.l = p.at_
theorem OPl.ext {w w' : World} {base : Nat} {p : Pl} {v : Value} {rows : List SLf} (h : OPl w base p v rows) (hx : Ext w w') : OPl w' base p v rows := ⟨own_later h.own hx, fun s hs => (h.mem s hs).ext hx, h.ls⟩
theorem OPl.mono {w : World} {base base' : Nat} {p : Pl} {v : Value} {rows : List SLf} (h : OPl w base p v rows) (hb : base' ≤ base) : OPl w base' p v rows := ⟨World.ownsRow.mono h.own hb, fun s hs => World.ownsRow.mono (h.mem s hs) hb, h.ls⟩
def RetPl (p : Pl) (w : World) (e : Ending) (w' : World) : Prop := ∃ A d rows, e = .returned (plV p A (List.length rows) d) ∧ OPl w' w.heap.size p (.slice A (List.length rows) d) rows ∧ Ext w w'
/-- The stack at a place. -/
theorem PR.at_ {w : World} {p : Pl} {A : Option Addr} {rows : List SLf} (h : PR w p A rows) {k : Nat} (hk : k < rows.length) : ∃ (b off : Nat) (s : SLf), A = some ⟨b, off, none⟩ ∧ b < w.heap.size ∧ w.cell? ⟨b, off + k, none⟩ = some s.val ∧ s.l = p.at_.getD k [] ∧ RLf w s.A s.l := by
  obtain ⟨b, off, rfl, hb, hc⟩ := h.pl.rc.2.2 (by omega)
  refine ⟨b, off, rows[k], rfl, hb, hc k _ (by rw [List.getElem?_map, List.getElem?_eq_getElem hk]; rfl), ?_, h.pl.mem _ (List.getElem_mem hk)⟩
  rw [← h.ls, List.getD_eq_getElem?_getD, List.getElem?_map, List.getElem?_eq_getElem hk]; rfl

/-- A grid under way: the pile's block, its stacks so far. -/
structure Mv (w wr : World) (pb C R : Nat) (v0 v : Value) (rows : List SLf) : Prop where
  ext : Ext w wr
  hpb : w.heap.size ≤ pb
  blk : Blk wr pb 123 #[.int .i64 (C : Int), .int .i64 (R : Int), v0]
  own : wr.ownsRow (pb + 1) 86 1 v rows.length (rows.map SLf.val)
  mem : ∀ s ∈ rows, OLf wr (pb + 1) s.val s.l
section
variable {w wr w' : World} {pb C R : Nat} {v0 v v' : Value} {rows : List SLf} {s : SLf}
theorem OLf.mono {base base' : Nat} {u : Value} {l : List Lf} (h : OLf w base u l) (hb : base' ≤ base) : OLf w base' u l := World.ownsRow.mono h hb
theorem own_is {base n size : Nat} {e : TypeId} {u : Value} {xs : List Value} (h : w.ownsRow base e size u n xs) {g : Nat} (hg : u.ownBlock = some g) : ∃ cur, Blk w g e cur := by
  rcases h.2 with ⟨rfl, _⟩ | ⟨g', cap, cur, rfl, _, hh, _⟩
  · cases hg
  · cases hg; exact ⟨cur, hh⟩
/-- Leaves are not among stacks. -/
theorem OLf.other {base base' n : Nat} {u : Value} {l : List Lf} {xs : List Value} (h : OLf w base u l) (hv : w.ownsRow base' 86 1 v n xs) (hg : w.grownBy w' v.ownBlock) : OLf w' base u l := by
  refine World.ownsRow.kept h hg ?_
  cases hu : u.ownBlock with
  | none => exact .inl rfl
  | some g =>
    refine .inr fun e => ?_
    obtain ⟨c1, b1⟩ := own_is h hu
    obtain ⟨c2, b2⟩ := own_is hv e.symm
    unfold Blk at b1 b2
    rw [b1] at b2
    injection b2 with b2
    injection b2 with _ b2 _
    exact absurd b2 (by decide)
theorem Mv.next (h : Mv w wr pb C R v0 v rows) (hx : Ext wr w') : Mv w w' pb C R v0 v rows :=
  ⟨h.ext.trans hx, h.hpb, h.blk.ext hx, own_later h.own hx, fun s hs => (h.mem s hs).ext hx⟩
theorem Mv.push (h : Mv w wr pb C R v0 v rows) (hs : OLf wr (pb + 1) s.val s.l) (hg : wr.grownBy w' v.ownBlock) (ho : w'.ownsRow (pb + 1) 86 1 v' (rows.length + 1) (rows.map SLf.val ++ [s.val])) : Mv w w' pb C R v0 v' (rows ++ [s]) := by
  refine ⟨h.ext.grown hg fun k hk => Nat.le_trans h.hpb (by have := (h.own.lt k hk).1; omega), h.hpb, ?_, by simpa using ho, fun x hx => ?_⟩
  · have := hg.block pb h.blk.lt (fun e => by have := (h.own.lt pb e.symm).1; omega)
    exact this.trans h.blk
  · rcases List.mem_append.1 hx with h1 | h1
    · exact (h.mem x h1).other h.own hg
    · obtain rfl := List.mem_singleton.1 h1
      exact hs.other h.own hg
theorem Mv.far {base n size : Nat} {e : TypeId} {u : Value} {xs : List Value} (h : w.ownsRow base e size u n xs) (hb : pb + 1 ≤ base) (i : Nat) (y : Value) : (w.setCell ⟨pb, i, none⟩ y).ownsRow base e size u n xs := by
  refine World.ownsRow.kept (row := some pb) h ⟨rfl, rfl, rfl, by simp [World.setCell], fun k _ hn => Below.heap_setCell w ⟨pb, i, none⟩ y k (fun e => hn (by rw [e]))⟩ ?_
  cases hu : u.ownBlock with
  | none => exact .inl rfl
  | some g => exact .inr fun e => by injection e with e; have := (h.lt g hu).1; omega
theorem Mv.store (h : Mv w wr pb C R v0 v rows) : Mv w (wr.setCell ⟨pb, 2, none⟩ v) pb C R v v rows :=
  ⟨h.ext.setCell h.hpb _, h.hpb, h.blk.set_ 2 v, Mv.far h.own (Nat.le_refl _) _ _, fun s hs => Mv.far (h.mem s hs) (Nat.le_refl _) _ _⟩
theorem OLf.toR {base : Nat} (h : OLf w base s.val s.l) (hn : s.l.length ≤ 1000000) : RLf w s.A s.l := by
  obtain ⟨A, c, he, hr⟩ := h.form hn
  obtain ⟨rfl, h2, rfl⟩ := Value.slice.inj he
  exact hr
theorem Mv.done (h : Mv w wr pb C R v0 v rows) (hn : rows.length ≤ 1000000) (hl : ∀ s ∈ rows, s.l.length ≤ 1000000) (p : Pl) (hp : rows.map SLf.l = p.at_) : ∃ A d, v = .slice A rows.length d ∧ PR wr p A rows := by
  obtain ⟨A, d, he, hr⟩ := own_form h.own hn
  exact ⟨A, d, he, ⟨hr, fun s hs => OLf.toR (h.mem s hs) (hl s hs)⟩, hp⟩
/-- A store into an older block. -/
theorem OPl.far {p0 base : Nat} {p : Pl} (h : OPl w base p v rows) (hb : p0 < base) (i : Nat) (y : Value) : OPl (w.setCell ⟨p0, i, none⟩ y) base p v rows :=
  ⟨Mv.far h.own hb i y, fun s hs => Mv.far (h.mem s hs) hb i y, h.ls⟩
theorem OPl.far3 {p0 base : Nat} {p : Pl} (h : OPl w base p v rows) (hb : p0 < base) (a b c : Value) : OPl (((w.setCell ⟨p0, 0, none⟩ a).setCell ⟨p0, 1, none⟩ b).setCell ⟨p0, 2, none⟩ c) base p v rows :=
  ((h.far hb 0 a).far hb 1 b).far hb 2 c
theorem Mv.opl (h : Mv w wr pb C R v0 v rows) (p : Pl) (hp : rows.map SLf.l = p.at_) : OPl wr (pb + 1) p v rows := ⟨h.own, h.mem, hp⟩
theorem OPl.pr {A : Option Addr} {n d base : Nat} {p : Pl} (h : OPl w base p (.slice A n d) rows) (hn : rows.length ≤ 1000000) (hl : ∀ l ∈ p.at_, l.length ≤ 1000000) : PR w p A rows := by
  obtain ⟨A', d', he, hr⟩ := own_form h.own hn
  obtain ⟨rfl, h2, rfl⟩ := Value.slice.inj he
  exact ⟨⟨hr, fun s hs => OLf.toR (h.mem s hs) (hl s.l (by rw [← h.ls]; exact List.mem_map.2 ⟨s, hs, rfl⟩))⟩, h.ls⟩
theorem setCell3 {a b : World} (h : Ext a b) {p0 : Nat} (hp : a.heap.size ≤ p0) (x y z : Value) : Ext a (((b.setCell ⟨p0, 0, none⟩ x).setCell ⟨p0, 1, none⟩ y).setCell ⟨p0, 2, none⟩ z) :=
  ((h.setCell (p := ⟨p0, 0, none⟩) hp _).setCell (p := ⟨p0, 1, none⟩) hp _).setCell (p := ⟨p0, 2, none⟩) hp _
end
end Go.Proofs.Ytniiahddpdiocaa
