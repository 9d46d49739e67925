/-
  The reference's heaps in memory: places whose leaves are just somewhere.
-/
import Derived.Test.YtniiahddpdiocaaFoldAll
namespace Go.Proofs.Ytniiahddpdiocaa
open Go.RowKit

theorem placeElt : Elt 92 138 1 24 (.slice none 0 0) := ⟨Try.underlying92, by kernel_rfl, rfl, by decide, by decide⟩
theorem placeLeafElt : Elt 138 90 4 32 (.agg #[.int .i64 0, .int .i64 0, .int .i64 0, .int .i64 0]) := ⟨Try.underlying138, by kernel_rfl, rfl, by decide, by decide⟩
/-- Places in memory: each has at most so many leaves. -/
structure HO (w : World) (base B : Nat) (v : Value) (rows : List SLf) : Prop where
  own : w.ownsRow base 138 1 v rows.length (rows.map SLf.val)
  mem : ∀ s ∈ rows, OLf w 0 s.val s.l ∧ s.l.length ≤ B
section
variable {w w' wr : World} {base base' B pb C R : Nat} {v v0 v' : Value} {rows : List SLf} {s : SLf}
theorem HO.ext (h : HO w base B v rows) (hx : Ext w w') : HO w' base B v rows := ⟨own_later h.own hx, fun s hs => ⟨(h.mem s hs).1.ext hx, (h.mem s hs).2⟩⟩
theorem HO.mono (h : HO w base B v rows) (hb : base' ≤ base) : HO w base' B v rows := ⟨World.ownsRow.mono h.own hb, h.mem⟩
theorem HO.at_ {A : Option Addr} {n d : Nat} (h : HO w base B (.slice A n d) rows) (hn : rows.length ≤ 1000000) (hB : B ≤ 1000000) {k : Nat} (hk : k < rows.length) :
    ∃ (b off : Nat) (s : SLf), A = some ⟨b, off, none⟩ ∧ b < w.heap.size ∧ w.cell? ⟨b, off + k, none⟩ = some s.val ∧ OLf w 0 s.val s.l ∧ s.l.length ≤ B ∧ RLf w s.A s.l := by
  obtain ⟨A', d', he, hr⟩ := own_form h.own hn
  obtain ⟨rfl, h2, rfl⟩ := Value.slice.inj he
  obtain ⟨b, off, rfl, hb, hc⟩ := hr.2.2 (by omega)
  obtain ⟨m1, m2⟩ := h.mem _ (List.getElem_mem hk)
  exact ⟨b, off, rows[k], rfl, hb, hc k _ (by rw [List.getElem?_map, List.getElem?_eq_getElem hk]; rfl), m1, m2, OLf.toR m1 (by omega)⟩
/-- Leaves stay where a block of another type grows, or is stored into. -/
theorem OLf.keep {u : Value} {l : List Lf} {g : Nat} {T : TypeId} {cs : Array Value} (h : OLf w base u l) (hg : w.grownBy w' (some g)) (hb : Blk w g T cs) (hT : T ≠ 90) : OLf w' base u l := by
  refine World.ownsRow.kept h hg ?_
  cases hu : u.ownBlock with
  | none => exact .inl rfl
  | some k =>
    refine .inr fun e => ?_
    obtain rfl : k = g := Option.some.inj e
    obtain ⟨c1, b1⟩ := own_is h hu
    unfold Blk at b1 hb
    rw [hb] at b1
    injection b1 with b1
    injection b1 with _ b1 _
    exact hT b1
theorem grown_set (w : World) (g i : Nat) (y : Value) : w.grownBy (w.setCell ⟨g, i, none⟩ y) (some g) :=
  ⟨rfl, rfl, rfl, by simp [World.setCell], fun k _ hn => Below.heap_setCell w ⟨g, i, none⟩ y k (fun e => hn (by rw [e]))⟩
/-- A heap under way. -/
structure Hw (w wr : World) (pb C R B : Nat) (v0 v : Value) (rows : List SLf) : Prop where
  ext : Ext w wr
  hpb : w.heap.size ≤ pb
  blk : Blk wr pb 94 #[.int .i64 (C : Int), .int .i64 (R : Int), v0]
  ho : HO wr (pb + 1) B v rows
theorem Hw.next (h : Hw w wr pb C R B v0 v rows) (hx : Ext wr w') : Hw w w' pb C R B v0 v rows := ⟨h.ext.trans hx, h.hpb, h.blk.ext hx, h.ho.ext hx⟩
theorem Hw.push (h : Hw w wr pb C R B v0 v rows) (hs : OLf wr 0 s.val s.l) (hl : s.l.length ≤ B) (hg : wr.grownBy w' v.ownBlock) (ho : w'.ownsRow (pb + 1) 138 1 v' (rows.length + 1) (rows.map SLf.val ++ [s.val])) : Hw w w' pb C R B v0 v' (rows ++ [s]) := by
  have hk : ∀ u l, OLf wr 0 u l → OLf w' 0 u l := fun u l hu => by
    cases hv : v.ownBlock with
    | none =>
      rw [hv] at hg
      refine World.ownsRow.kept hu hg ?_
      cases hu2 : u.ownBlock with
      | none => exact .inl rfl
      | some k => exact .inr (by simp)
    | some g =>
      obtain ⟨cur, hb⟩ := own_is h.ho.own hv
      rw [hv] at hg
      exact hu.keep hg hb (by decide)
  refine ⟨h.ext.grown hg fun k hk => Nat.le_trans h.hpb (by have := (h.ho.own.lt k hk).1; omega), h.hpb, ?_, by simpa using ho, fun x hx => ?_⟩
  · have := hg.block pb h.blk.lt (fun e => by have := (h.ho.own.lt pb e.symm).1; omega)
    exact this.trans h.blk
  · rcases List.mem_append.1 hx with h1 | h1
    · exact ⟨hk _ _ (h.ho.mem x h1).1, (h.ho.mem x h1).2⟩
    · obtain rfl := List.mem_singleton.1 h1
      exact ⟨hk _ _ hs, hl⟩
theorem HO.far {T : TypeId} {cs : Array Value} (h : HO w base B v rows) (hb : pb < base) (hT : T ≠ 90) (hbk : Blk w pb T cs) (i : Nat) (y : Value) : HO (w.setCell ⟨pb, i, none⟩ y) base B v rows :=
  ⟨Mv.far h.own hb i y, fun s hs => ⟨(h.mem s hs).1.keep (grown_set w pb i y) hbk hT, (h.mem s hs).2⟩⟩
theorem HO.far3 {T : TypeId} {cs : Array Value} (h : HO w base B v rows) (hb : pb < base) (hT : T ≠ 90) (hbk : Blk w pb T cs) (a b c : Value) : HO (((w.setCell ⟨pb, 0, none⟩ a).setCell ⟨pb, 1, none⟩ b).setCell ⟨pb, 2, none⟩ c) base B v rows :=
  ((h.far hb hT hbk 0 a).far hb hT (hbk.set_ 0 a) 1 b).far hb hT ((hbk.set_ 0 a).set_ 1 b) 2 c
theorem Hw.store (h : Hw w wr pb C R B v0 v rows) : Hw w (wr.setCell ⟨pb, 2, none⟩ v) pb C R B v v rows :=
  ⟨h.ext.setCell h.hpb _, h.hpb, h.blk.set_ 2 v, h.ho.far (Nat.lt_succ_self _) (by decide) h.blk _ _⟩
end
/-- A heap handed back in memory of its own. -/
def RetH (C R B : Nat) (w : World) (e : Ending) (w' : World) : Prop := ∃ A d rows, e = .returned (.agg #[.int .i64 (C : Int), .int .i64 (R : Int), .slice A (List.length rows) d]) ∧ rows.length = R * C ∧ HO w' w.heap.size B (.slice A (List.length rows) d) rows ∧ Ext w w'
end Go.Proofs.Ytniiahddpdiocaa
