/-
  Plain words about worlds, slices and structs for the walks of this seat: no program text in sight.
  Walks: a strings.Builder that the call itself made: what is written to it, and what else stays as it is.
  A map from strings to ints that the call itself has made, told by a plain function.
  What the functions of chapter 1 compute, in plain words: no program in sight.
  Walks: whether a text is a name (the program's and the reference's).
  Walk: the program's isName.
  Walks: what sorts of a kind print (the program's prints).
  Walks: what is known of the sorts so far (two maps).
  Walk: a sort is made known.
  Walk: a fount is checked (the program's read and CheckFount).
-/
import Derived.WalkKit
import Derived.WalkLawsBesides
import Derived.Deep.QuietTactic
import Derived.BigQuiet
import Derived.Lib.Hide
import Derived.IntWalk
import Derived.Test.YtfbdklminljecaaGreatDoorShelf
import Derived.Lib.Builder
import Derived.Lib.AppendStr
import Derived.Lib.UnsafeStr
import Derived.Laws.Externs
import Derived.Test.YtfbdklminljecaaGreatDoorProg
import Derived.Maps.Own
import Derived.Maps.OwnOps
import Derived.Maps.Views
import Derived.OwnWalk
import Derived.Shelf.GgClosure.StringsIndexFunc
namespace Go.Proofs.YtfbdklminljecaaGreatDoor
open Go.RowKit

/-- What lay in w when it began, lies in w'. -/
def Ext (w w' : World) : Prop := Below w.heap.size w w'
section
variable {a b c w w' : World}
theorem Ext.refl (w : World) : Ext w w := Below.refl _ _
theorem Ext.trans (h : Ext a b) (k : Ext b c) : Ext a c := Below.trans h (Below.mono k h.size)
theorem Ext.alloc (h : Ext a b) (o : Obj) : Ext a (b.alloc o) := Below.alloc h h.size o
theorem Ext.drew (h : Ext a b) : Ext a b.drew := Below.drew h
theorem Ext.drewN (h : Ext a b) (n : Nat) : Ext a (b.drewN n) := ⟨h.os, h.tape, h.output, h.size, h.block⟩
theorem Ext.setCell (h : Ext a b) {p : Addr} (hp : a.heap.size ≤ p.block) (v : Value) : Ext a (b.setCell p v) := Below.setCell h hp v
theorem Ext.size (h : Ext a b) : a.heap.size ≤ b.heap.size := Below.size h
theorem Ext.block (h : Ext a b) {k : Nat} (hk : k < a.heap.size) : b.heap[k]? = a.heap[k]? := Below.block h k hk
theorem Ext.grown {row : Option Nat} (h : Ext a b) (hg : b.grownBy c row) (hr : ∀ k, row = some k → a.heap.size ≤ k) : Ext a c := Below.grown h hg h.size hr
theorem Ext.below (h : Ext a b) : Below a.heap.size a b := h
theorem Below.ext (h : Below a.heap.size a b) : Ext a b := h
theorem Ext.cell (h : Ext a b) {p : Addr} (hp : p.block < a.heap.size) : b.cell? p = a.cell? p := Below.cell h hp
/-- Cells and marks below, as rules of the walk. -/
theorem Ext.rules (h : Ext a b) : (∀ k o, k < a.heap.size → b.cell? ⟨k, o, none⟩ = a.cell? ⟨k, o, none⟩) ∧ (∀ k o, k < a.heap.size → b.frozen? ⟨k, o, none⟩ = a.frozen? ⟨k, o, none⟩) :=
  ⟨fun k o hk => Below.cell (p := ⟨k, o, none⟩) h hk, fun k o hk => Below.frozen (p := ⟨k, o, none⟩) h hk⟩
end

/-- The call returns V; whatever lay, lies. -/
def Ret (V : Value) (w : World) (e : Ending) (w' : World) : Prop := e = .returned V ∧ Ext w w'
theorem Ret.mk' {V V' : Value} {w w' : World} (h : V' = V) (hx : Ext w w') : Ret V w (.returned V') w' := ⟨by rw [h], hx⟩
/-- The call returns V and leaves the world as it is. -/
def Same (V : Value) (w : World) (e : Ending) (w' : World) : Prop := e = .returned V ∧ w = w'

/-- Numbers that an int holds. -/
def I64 (z : Int) : Prop := -9223372036854775808 ≤ z ∧ z ≤ 9223372036854775807

/-- A slice of ints reads as zs. -/
def RI (w : World) (A : Option Addr) (n : Nat) (zs : List Int) : Prop :=
  zs.length = n ∧ n ≤ 9223372036854775807 ∧ (0 < n → ∃ b off, A = some ⟨b, off, none⟩ ∧ b < w.heap.size ∧ ∀ k, k < n → w.cell? ⟨b, off + k, none⟩ = some (.int .i64 (zs.getD k 0)))
/-- A slice of strings reads as ss. -/
def RS (w : World) (A : Option Addr) (n : Nat) (ss : List ByteArray) : Prop :=
  ss.length = n ∧ n ≤ 9223372036854775807 ∧ (0 < n → ∃ b off, A = some ⟨b, off, none⟩ ∧ b < w.heap.size ∧ ∀ k, k < n → w.cell? ⟨b, off + k, none⟩ = some (.string (ss.getD k ByteArray.empty)))
/-- A sort. -/
structure TS where
  name : ByteArray
  text : ByteArray
  kind : Int
  width : Int
def TS.zero : TS := ⟨ByteArray.empty, ByteArray.empty, 0, 0⟩
def TS.val (s : TS) : Value := .agg #[.string s.name, .string s.text, .int .i64 s.kind, .int .i64 s.width]
/-- A slice of sorts reads as ss. -/
def RT (w : World) (A : Option Addr) (n : Nat) (ss : List TS) : Prop :=
  ss.length = n ∧ n ≤ 9223372036854775807 ∧ (0 < n → ∃ b off, A = some ⟨b, off, none⟩ ∧ b < w.heap.size ∧ ∀ k, k < n →
    w.cell? ⟨b, off + k * 4, none⟩ = some (.string (ss.getD k TS.zero).name) ∧ w.cell? ⟨b, off + k * 4 + 1, none⟩ = some (.string (ss.getD k TS.zero).text) ∧
    w.cell? ⟨b, off + k * 4 + 2, none⟩ = some (.int .i64 (ss.getD k TS.zero).kind) ∧ w.cell? ⟨b, off + k * 4 + 3, none⟩ = some (.int .i64 (ss.getD k TS.zero).width))
/-- A fount. -/
structure FT where
  name : ByteArray
  body : Int
  sorts : List TS
def FT.val (f : FT) (A : Option Addr) (c : Nat) : Value := .agg #[.string f.name, .int .i64 f.body, .slice A f.sorts.length c]

section
variable {w w' : World} {A : Option Addr} {n : Nat}
theorem RI.ext {zs : List Int} (h : RI w A n zs) (hx : Ext w w') : RI w' A n zs :=
  ⟨h.1, h.2.1, fun hn => let ⟨b, off, ha, hb, hc⟩ := h.2.2 hn; ⟨b, off, ha, Nat.lt_of_lt_of_le hb hx.size, fun k hk => (hx.cell (p := ⟨b, off + k, none⟩) hb).trans (hc k hk)⟩⟩
theorem RS.ext {zs : List ByteArray} (h : RS w A n zs) (hx : Ext w w') : RS w' A n zs :=
  ⟨h.1, h.2.1, fun hn => let ⟨b, off, ha, hb, hc⟩ := h.2.2 hn; ⟨b, off, ha, Nat.lt_of_lt_of_le hb hx.size, fun k hk => (hx.cell (p := ⟨b, off + k, none⟩) hb).trans (hc k hk)⟩⟩
theorem RT.ext {zs : List TS} (h : RT w A n zs) (hx : Ext w w') : RT w' A n zs :=
  ⟨h.1, h.2.1, fun hn => let ⟨b, off, ha, hb, hc⟩ := h.2.2 hn; ⟨b, off, ha, Nat.lt_of_lt_of_le hb hx.size, fun k hk => by
    rw [hx.cell (p := ⟨b, _, none⟩) hb, hx.cell (p := ⟨b, _, none⟩) hb, hx.cell (p := ⟨b, _, none⟩) hb, hx.cell (p := ⟨b, _, none⟩) hb]; exact hc k hk⟩⟩
theorem RI.len {zs : List Int} (h : RI w A n zs) : zs.length = n := h.1
theorem RI.nil : RI w none 0 [] := ⟨rfl, by omega, fun h => absurd h (by omega)⟩
theorem RI.big {zs : List Int} (h : RI w A n zs) : n ≤ 9223372036854775807 := h.2.1
theorem RT.big {zs : List TS} (h : RT w A n zs) : n ≤ 9223372036854775807 := h.2.1
theorem RS.big {zs : List ByteArray} (h : RS w A n zs) : n ≤ 9223372036854775807 := h.2.1
end

/-- A block that was laid reads so in every later world. -/
theorem boxed {w wr : World} {cs : Array Value} {T : TypeId} (hx : Ext (w.alloc (.cells cs T)) wr) (i : Nat) (v : Value) (hv : cs[i]? = some v) : wr.cell? ⟨w.heap.size, i, none⟩ = some v := by
  rw [hx.cell (p := ⟨w.heap.size, i, none⟩) (by simp), World.cell?_alloc_new, hv]
theorem Ext.of_alloc {w wr : World} {o : Obj} (hx : Ext (w.alloc o) wr) : Ext w wr := ((Ext.refl _).alloc _).trans hx
theorem mul_bd {a b M N : Int} (ha : 0 ≤ a ∧ a ≤ M) (hb : 0 ≤ b ∧ b ≤ N) : 0 ≤ a * b ∧ a * b ≤ M * N :=
  ⟨Int.mul_nonneg ha.1 hb.1, Int.mul_le_mul ha.2 hb.2 hb.1 (Int.le_trans ha.1 ha.2)⟩
theorem Ext.lt_of_alloc {w wr : World} {o : Obj} (hx : Ext (w.alloc o) wr) : w.heap.size < wr.heap.size := by
  have := hx.size; simp at this; omega

/-- Block g is just the cells cs of type t, none frozen. -/
def Blk (w : World) (g : Nat) (t : TypeId) (cs : Array Value) : Prop := w.heap[g]? = some (.cells cs t (0, 0))
section
variable {w w' : World} {g : Nat} {t : TypeId} {cs : Array Value}
theorem Blk.lt (h : Blk w g t cs) : g < w.heap.size := by
  rcases Nat.lt_or_ge g w.heap.size with hlt | hge
  · exact hlt
  · unfold Blk at h; rw [Array.getElem?_eq_none hge] at h; cases h
theorem Blk.cell (h : Blk w g t cs) (i : Nat) (v : Value) (hv : cs[i]? = some v) : w.cell? ⟨g, i, none⟩ = some v := by
  unfold Blk at h; simp [World.cell?, h, hv]
theorem Blk.frozen (h : Blk w g t cs) (i : Nat) : w.frozen? ⟨g, i, none⟩ = false := by
  unfold Blk at h; simp [World.frozen?, h]
theorem Blk.new (w : World) (t : TypeId) (cs : Array Value) : Blk (w.alloc (.cells cs t)) w.heap.size t cs := by
  show (w.heap.push _)[w.heap.size]? = _; simp
theorem Blk.drew (h : Blk w g t cs) : Blk w.drew g t cs := h
theorem Blk.drewN (h : Blk w g t cs) (n : Nat) : Blk (w.drewN n) g t cs := h
theorem Blk.alloc (h : Blk w g t cs) (o : Obj) : Blk (w.alloc o) g t cs := (Below.heap_alloc w o g h.lt).trans h
theorem Blk.set_ (h : Blk w g t cs) (i : Nat) (u : Value) : Blk (w.setCell ⟨g, i, none⟩ u) g t (cs.setIfInBounds i u) := by
  unfold Blk at h ⊢
  simp [World.setCell, Array.getElem?_modify, h]
theorem Blk.far (h : Blk w g t cs) {p : Addr} (hp : g ≠ p.block) (u : Value) : Blk (w.setCell p u) g t cs := (Below.heap_setCell w p u g hp).trans h
theorem Blk.ext (h : Blk w g t cs) (hx : Ext w w') : Blk w' g t cs := (hx.block h.lt).trans h
end
/-- Of what lay, only the blocks in L may have turned. -/
structure But (L : List Nat) (w w' : World) : Prop where
  os : w'.os = w.os
  tape : w'.tape = w.tape
  output : w'.output = w.output
  size : w.heap.size ≤ w'.heap.size
  block : ∀ k, k < w.heap.size → k ∉ L → w'.heap[k]? = w.heap[k]?
section
variable {a b c : World} {L : List Nat}
theorem But.of_ext (h : Ext a b) (L : List Nat) : But L a b := ⟨h.os, h.tape, h.output, h.size, fun _ hk _ => h.block hk⟩
theorem But.trans (h : But L a b) (k : But L b c) : But L a c :=
  ⟨k.os.trans h.os, k.tape.trans h.tape, k.output.trans h.output, Nat.le_trans h.size k.size, fun i hi hn => (k.block i (Nat.lt_of_lt_of_le hi h.size) hn).trans (h.block i hi hn)⟩
theorem But.grown {row : Nat} (h : a.grownBy b (some row)) (hr : row ∈ L) : But L a b :=
  ⟨h.os, h.tape, h.output, h.size, fun i hi hn => h.block i hi (fun e => by injection e with e; subst e; exact hn hr)⟩
theorem But.ext (h : Ext a b) (k : But L b c) (hL : ∀ g ∈ L, a.heap.size ≤ g) : Ext a c :=
  ⟨k.os.trans h.os, k.tape.trans h.tape, k.output.trans h.output, Nat.le_trans h.size k.size, fun i hi => (k.block i (Nat.lt_of_lt_of_le hi h.size) (fun hm => by have := hL i hm; omega)).trans (h.block hi)⟩
theorem Blk.but {g : Nat} {t : TypeId} {cs : Array Value} (h : Blk a g t cs) (k : But L a b) (hg : g ∉ L) : Blk b g t cs := (k.block g h.lt hg).trans h
end

/-- A fount as it lies in memory. -/
structure FR (w : World) (A : Option Addr) (c : Nat) (f : FT) : Prop where
  rt : RT w A f.sorts.length f.sorts
  nm : f.name.size ≤ maxLen
  sz : ∀ k, k < f.sorts.length → (f.sorts.getD k TS.zero).name.size ≤ maxLen ∧ (f.sorts.getD k TS.zero).text.size ≤ maxLen ∧ I64 (f.sorts.getD k TS.zero).kind ∧ I64 (f.sorts.getD k TS.zero).width
  body : I64 f.body
  cap : f.sorts.length ≤ c ∧ c ≤ maxLen
theorem FR.ext {w w' : World} {A : Option Addr} {c : Nat} {f : FT} (h : FR w A c f) (hx : Ext w w') : FR w' A c f := ⟨h.rt.ext hx, h.nm, h.sz, h.body, h.cap⟩

section
variable {w : World} {g : Nat} {t : TypeId} {a b c d : Value}
theorem Blk.new1 (w : World) (o : Obj) (t : TypeId) (cs : Array Value) : Blk ((w.alloc o).alloc (.cells cs t)) (w.heap.size + 1) t cs := by
  have h := Blk.new (w.alloc o) t cs; rwa [World.size_alloc] at h
theorem Blk.new2 (w : World) (o o' : Obj) (t : TypeId) (cs : Array Value) : Blk (((w.alloc o).alloc o').alloc (.cells cs t)) (w.heap.size + 1 + 1) t cs := by
  have h := Blk.new ((w.alloc o).alloc o') t cs; rwa [World.size_alloc, World.size_alloc] at h
theorem Blk.c1 (h : Blk w g t #[a]) : w.cell? ⟨g, 0, none⟩ = some a ∧ w.frozen? ⟨g, 0, none⟩ = false ∧ g < w.heap.size := ⟨h.cell 0 _ rfl, h.frozen 0, h.lt⟩
theorem Blk.c2 (h : Blk w g t #[a, b]) : w.cell? ⟨g, 0, none⟩ = some a ∧ w.cell? ⟨g, 1, none⟩ = some b ∧ w.frozen? ⟨g, 0, none⟩ = false ∧ w.frozen? ⟨g, 1, none⟩ = false ∧ g < w.heap.size :=
  ⟨h.cell 0 _ rfl, h.cell 1 _ rfl, h.frozen 0, h.frozen 1, h.lt⟩
theorem Blk.c3 (h : Blk w g t #[a, b, c]) : w.cell? ⟨g, 0, none⟩ = some a ∧ w.cell? ⟨g, 1, none⟩ = some b ∧ w.cell? ⟨g, 2, none⟩ = some c ∧ g < w.heap.size :=
  ⟨h.cell 0 _ rfl, h.cell 1 _ rfl, h.cell 2 _ rfl, h.lt⟩
theorem Blk.c4 (h : Blk w g t #[a, b, c, d]) : w.cell? ⟨g, 0, none⟩ = some a ∧ w.cell? ⟨g, 1, none⟩ = some b ∧ w.cell? ⟨g, 2, none⟩ = some c ∧ w.cell? ⟨g, 3, none⟩ = some d ∧ g < w.heap.size :=
  ⟨h.cell 0 _ rfl, h.cell 1 _ rfl, h.cell 2 _ rfl, h.cell 3 _ rfl, h.lt⟩
end

theorem But.setCell (w : World) (p : Addr) (v : Value) : But [p.block] w (w.setCell p v) :=
  ⟨rfl, rfl, rfl, by simp [World.setCell], fun k _ hn => Below.heap_setCell w p v k (by simpa using hn)⟩
end Go.Proofs.YtfbdklminljecaaGreatDoor
namespace Go.Proofs.YtfbdklminljecaaGreatDoor
open Go.RowKit

/-- A builder in block b, its buffer v (from block B on), holding the bytes l. -/
structure Bld (w : World) (B b : Nat) (v : Value) (l : List UInt8) : Prop where
  blk : ∃ p, (p = Value.pointer none ∨ p = Value.pointer (some ⟨b, 0, none⟩)) ∧ Blk w b 91 #[p, v]
  own : w.ownsRow B 5 1 v l.length (Lib.byteCells l)
  lt : b < B
/-- What a write may turn: the builder's own block, and its buffer's. -/
def bldL (b : Nat) (v : Value) : List Nat := b :: v.ownBlock.toList
theorem strCells_eq (s : ByteArray) : Lib.strCells s = Lib.byteCells s.data.toList := rfl
theorem byteCells_append (a b : List UInt8) : Lib.byteCells (a ++ b) = Lib.byteCells a ++ Lib.byteCells b := by simp [Lib.byteCells]
section
variable {w w' : World} {B b : Nat} {v : Value} {l : List UInt8}
theorem bldL_ge (h : Bld w B b v l) : ∀ g ∈ bldL b v, b ≤ g := by
  intro g hg
  rcases List.mem_cons.1 hg with h1 | h1
  · omega
  · have h2 : v.ownBlock = some g := by simpa using h1
    have := (World.ownsRow.lt h.own g h2).1; have := h.lt; omega
theorem Bld.far (h : Bld w B b v l) {k : Nat} {T : TypeId} {cs : Array Value} (hk : Blk w k T cs) (hT : T ≠ 5) (hkb : k ≠ b) : k ∉ bldL b v := by
  intro hm
  rcases List.mem_cons.1 hm with h1 | h1
  · exact hkb h1
  · exact Lib.ownBlock_ne h.own hk hT (by simpa using h1)
theorem Bld.ext (h : Bld w B b v l) (hx : Ext w w') : Bld w' B b v l := by
  obtain ⟨p, hp, hb⟩ := h.blk
  refine ⟨⟨p, hp, hb.ext hx⟩, ?_, h.lt⟩
  refine World.ownsRow.kept (row := none) h.own ⟨hx.os, hx.tape, hx.output, hx.size, fun k hk _ => hx.block hk⟩ ?_
  cases hv : v.ownBlock with
  | none => exact .inl rfl
  | some g => exact .inr (by simp)
theorem Bld.new (w : World) (B : Nat) (hB : w.heap.size < B) : Bld (w.alloc (.cells #[.pointer none, .slice none 0 0] 91)) B w.heap.size (.slice none 0 0) [] :=
  ⟨⟨_, .inl rfl, Blk.new _ _ _⟩, World.ownsRow_nil _ _ _ _, hB⟩
theorem But.extL (h : Ext w w') (h2 : Bld w' B b v l) (hb : w.heap.size ≤ b) {c : World} (k : But (bldL b v) w' c) : Ext w c :=
  But.ext h k fun g hg => Nat.le_trans hb (bldL_ge h2 g hg)
theorem Bld.isBuilder (h : Bld w B b v l) : Lib.IsBuilder 91 5 b b (Lib.byteCells l) w := by
  obtain ⟨p, hp, hb⟩ := h.blk
  have ho : w.ownsRow b 5 1 v (Lib.byteCells l).length (Lib.byteCells l) := by
    rw [Lib.byteCells_length]
    refine ⟨h.own.1, ?_⟩
    rcases h.own.2 with h' | ⟨g, cap, cur, hv, hg, r⟩
    · exact .inl h'
    · exact .inr ⟨g, cap, cur, hv, by have := h.lt; omega, r⟩
  have hne : v.ownBlock ≠ some b := Lib.ownBlock_ne h.own hb (by decide)
  rcases hp with rfl | rfl
  · exact .inl ⟨Nat.le_refl _, v, hb, ho, hne⟩
  · exact .inr ⟨Nat.le_refl _, v, hb, ho, hne⟩
end

/-- A block that was laid ahead of a write, behind it. -/
theorem box_kept {wr W2 : World} {B b : Nat} {v : Value} {l : List UInt8} {T : TypeId} {cs : Array Value} (h : Bld wr B b v l) (hT : T ≠ 5) (hb : But (bldL b v) (wr.alloc (.cells cs T)) W2) : Blk W2 wr.heap.size T cs := by
  have hlt : b < wr.heap.size := by obtain ⟨p, _, hb⟩ := h.blk; exact hb.lt
  exact (Blk.new wr T cs).but hb ((h.ext ((Ext.refl wr).alloc (.cells cs T))).far (Blk.new wr T cs) hT (by omega))

/-- Behind copyCheck. -/
def CkPost (b : Nat) (v : Value) (w : World) (e : Ending) (w' : World) : Prop := e = .returned (.tuple #[]) ∧ Blk w' b 91 #[.pointer (some ⟨b, 0, none⟩), v] ∧ But [b] w w' ∧ w'.heap.size = w.heap.size
theorem run_noEsc (p : Option Addr) (w : World) : (callFunc 74 #[.pointer p]).run Tryz.prog w = .ok (.value (.pointer p)) w := by
  rw [run_callFunc_extern Tryz.func74 (by kernel_rfl) (by kernel_rfl) (by kernel_rfl) (e := Extern.AbiNoEscape.same) (by kernel_rfl)]
  rfl
set_option maxRecDepth 100000 in
set_option maxHeartbeats 1000000 in
theorem copyCheck_any (b : Nat) (p v : Value) (w : World) (hp : p = .pointer none ∨ p = .pointer (some ⟨b, 0, none⟩)) (hb : Blk w b 91 #[p, v]) :
    Calls Tryz.prog 55 #[.pointer (some ⟨b, 0, none⟩)] w (CkPost b v w) := by
  obtain ⟨j, hj, hjs⟩ := Option.map_eq_some_iff.1 (show (Tryz.prog.info? 91).map (·.size) = some 2 by kernel_rfl)
  have hsh : w.shape? b = some (91, 2) := by unfold Blk at hb; simp [World.shape?, hb]
  obtain ⟨h0, h1, fz, _, hl⟩ := hb.c2
  have HB := Lib.hid hb; clear hb
  rcases hp with rfl | rfl
  · go_enter Tryz.func55, Tryz.ntmps55
    go_wp2
    rw [Lib.run_to_unsafe w ⟨b, 0, none⟩ Tryz.underlying88 Tryz.underlying139 hj (by rw [hjs]; decide) hsh (Nat.zero_lt_succ 1)]
    simp only [Result.andThen]
    rw [Oper.upon_value]
    go_wp2
    rw [run_callFunc_extern Tryz.func74 (by kernel_rfl) (by kernel_rfl) (by kernel_rfl) (e := Extern.AbiNoEscape.same) (by kernel_rfl)]
    rw [Lib.run_noEscape]
    simp only [Result.andThen]
    rw [Oper.upon_value]
    go_wp2
    rw [Lib.run_from_unsafe w ⟨b, 0, none⟩ Tryz.underlying139 Tryz.underlying88 hj hsh (by kernel_rfl)]
    simp only [Result.andThen]
    rw [Oper.upon_value]
    go_wp2
    go_end0
    exact ⟨rfl, HB.out.set_ 0 _, But.setCell w ⟨b, 0, none⟩ _, by simp [World.setCell]⟩
  · go_enter Tryz.func55, Tryz.ntmps55
    go_wp2
    rw [Lib.run_neq_ptr_same w _ Tryz.underlying88 hj]
    go_wp2
    go_end0
    exact ⟨rfl, HB.out, ⟨rfl, rfl, rfl, Nat.le_refl _, fun _ _ _ => rfl⟩, rfl⟩

/-- Behind a write. -/
def WrPost (V : Value) (B b : Nat) (v : Value) (l : List UInt8) (w : World) (e : Ending) (w' : World) : Prop := e = .returned V ∧ ∃ v', Bld w' B b v' l ∧ But (bldL b v) w w'
theorem But.mono {a b : World} {L M : List Nat} (h : But L a b) (hs : ∀ x ∈ L, x ∈ M) : But M a b := ⟨h.os, h.tape, h.output, h.size, fun k hk hn => h.block k hk (fun hm => hn (hs k hm))⟩
theorem But.grownL {a b : World} {v : Value} {L : List Nat} (h : a.grownBy b v.ownBlock) (hs : ∀ g, v.ownBlock = some g → g ∈ L) : But L a b :=
  ⟨h.os, h.tape, h.output, h.size, fun i hi hn => h.block i hi (fun e => hn (hs i e.symm))⟩
theorem u8Info : (Tryz.prog.info? 5).map (fun i => (i.zero, i.size, i.bytes)) = some (some (.int .u8 0), 1, 1) := by kernel_rfl
set_option maxRecDepth 100000 in
set_option maxHeartbeats 2000000 in
theorem writeString_any (B b : Nat) (v : Value) (l : List UInt8) (s : ByteArray) (w : World) (h : Bld w B b v l) (hlen : l.length + s.size ≤ 100000000) (hB : B ≤ w.heap.size) :
    Calls Tryz.prog 39 #[.pointer (some ⟨b, 0, none⟩), .string s] w (WrPost (.tuple #[.int .i64 s.size, .nilIface]) B b v (l ++ s.data.toList) w) := by
  obtain ⟨i0, hi, hz0, hz1, hz2⟩ := info_parts u8Info
  obtain ⟨p, hp, hb⟩ := h.blk
  have HW := Lib.hid h
  go_enter Tryz.func39, Tryz.ntmps39
  go_wp2_with (go_at_call 55; refine Calls.mono (copyCheck_any b p v _ hp hb) ?_)
  rintro e w1 ⟨rfl, hb1, hbut, hsz⟩
  have c0 := hb1.c2.1
  have c1 := hb1.c2.2.1
  have hl1 := hb1.c2.2.2.2.2
  have HS := Lib.hid hsz; clear hsz
  have hown : w1.ownsRow B 5 1 v l.length (Lib.byteCells l) := by
    refine World.ownsRow.kept (row := some b) HW.out.own ⟨hbut.os, hbut.tape, hbut.output, hbut.size, fun k hk hne => hbut.block k hk (fun hm => hne (by rw [List.mem_singleton.1 hm]))⟩ ?_
    cases hv : v.ownBlock with
    | none => exact .inl rfl
    | some g => exact .inr (by rw [← hv]; exact Lib.ownBlock_ne HW.out.own hb (by decide))
  go_wp2_with (at_builtin; refine Lib.wpList_append_own_string _ rfl _ _ 89 9 rfl B 5 i0 Tryz.underlying89 Tryz.underlying9 hi hz0 hz1 hz2 _ _ _ rfl hown s rfl ?c3 ?c4 ?c5 ?_)
  case c3 => unfold maxLen; omega
  case c4 => omega
  case c5 => have := HS.out; omega
  intro v' w2 hown' hgrow _
  obtain ⟨ao, n', cap, hve⟩ : ∃ ao n' cap, v' = .slice ao n' cap := by
    rcases hown'.2 with ⟨hv, _⟩ | ⟨g, cap, cur, hv, _⟩
    · exact ⟨_, _, _, hv⟩
    · exact ⟨_, _, _, hv⟩
  subst hve
  have hne : v.ownBlock ≠ some b := Lib.ownBlock_ne hown hb1 (by decide)
  have hb2 : Blk w2 b 91 #[.pointer (some ⟨b, 0, none⟩), v] := (hgrow.block b hl1 (fun e => hne e.symm)).trans hb1
  obtain ⟨d0, d1, _, f1, _⟩ := hb2.c2
  have HO := Lib.hid hown'; have HG := Lib.hid hgrow; have HB1 := Lib.hid hbut; have HB2 := Lib.hid hb2
  clear hown' hgrow hbut hb2 hown h
  go_wp2
  go_ret2
  have hx : But [b] w2 (w2.setCell ⟨b, 1, none⟩ (.slice ao n' cap)) := But.setCell w2 ⟨b, 1, none⟩ _
  have hsub : ∀ x ∈ [b], x ∈ bldL b v := fun x hx => by rw [List.mem_singleton.1 hx]; exact List.mem_cons_self
  refine ⟨rfl, .slice ao n' cap, ⟨⟨_, .inr rfl, HB2.out.set_ 1 _⟩, ?_, HW.out.lt⟩, ?_⟩
  · have ho : w2.ownsRow B 5 1 (.slice ao n' cap) (l ++ s.data.toList).length (Lib.byteCells (l ++ s.data.toList)) := by
      rw [byteCells_append, ← strCells_eq, List.length_append, show s.data.toList.length = s.size from rfl]; exact HO.out
    refine World.ownsRow.kept (row := some b) ho ⟨hx.os, hx.tape, hx.output, hx.size, fun k hk hne => hx.block k hk (fun hm => hne (by rw [List.mem_singleton.1 hm]))⟩ ?_
    cases hv : (Value.slice ao n' cap).ownBlock with
    | none => exact .inl rfl
    | some g => exact .inr (by rw [← hv]; exact Lib.ownBlock_ne HO.out HB2.out (by decide))
  · exact ((HB1.out.mono hsub).trans (But.grownL HG.out (fun g hg => List.mem_cons_of_mem _ (by rw [hg]; simp)))).trans (hx.mono hsub)
theorem string_any (B b : Nat) (v : Value) (l : List UInt8) (w : World) (h : Bld w B b v l) (hB : B ≤ w.heap.size) :
    Calls Tryz.prog 41 #[.pointer (some ⟨b, 0, none⟩)] w fun e w' => e = .returned (.string ⟨l.toArray⟩) ∧ Below b w w' :=
  Tryz.Builder_String_any b b l w h.isBuilder (by have := h.lt; omega)
end Go.Proofs.YtfbdklminljecaaGreatDoor
namespace Go.Proofs.YtfbdklminljecaaGreatDoor
open Go.RowKit Go.WideMaps Go.Maps

theorem strKeyed : Keyed Tryz.prog 9 := string_keyed Tryz.underlying9
theorem zeroInt (w : World) : (zeroValue 3).run Tryz.prog w = .ok (.int .i64 0) w := by kernel_rfl

/-- Block b is a map of at most n entries that answers as f. -/
def KM (w : World) (b n : Nat) (f : List UInt8 → Option Int) : Prop :=
  ∃ D : DataW Unit, w.ownsMap Tryz.prog 9 (plainElem Tryz.prog 3) b n D ∧ (∃ l, D = .map l) ∧ ∀ s zd, D.atKey (.string s) zd = match f s with | some z => .lit (.int .i64 z) | none => zd

theorem KM.ext {w w' : World} {b n : Nat} {f : List UInt8 → Option Int} (h : KM w b n f) (hx : Ext w w') : KM w' b n f := by
  obtain ⟨D, ho, hm, hf⟩ := h
  have hlt := ho.lt
  obtain ⟨es, clock, hb, F, hs, hD⟩ := ho
  exact ⟨D, ⟨es, clock, (hx.block hlt).trans hb, F, hs, hD⟩, hm, hf⟩
theorem KM.lt {w : World} {b n : Nat} {f : List UInt8 → Option Int} (h : KM w b n f) : b < w.heap.size := by
  obtain ⟨D, ho, _⟩ := h
  exact ho.lt
theorem KM.kept {w w' : World} {b n : Nat} {row : Option Nat} {f : List UInt8 → Option Int} (h : KM w b n f) (hg : w.grownBy w' row) (hne : some b ≠ row) : KM w' b n f := by
  obtain ⟨D, ho, hm, hf⟩ := h
  exact ⟨D, ho.kept hg hne, hm, hf⟩
theorem KM.made (w : World) : KM (w.alloc (.map #[] 0)) w.heap.size 0 (fun _ => none) :=
  ⟨.map [], World.ownsMap_made _ _ _ _, ⟨_, rfl⟩, fun _ _ => rfl⟩
theorem KM.look {w : World} {b n : Nat} {f : List UInt8 → Option Int} (h : KM w b n f) (s : ByteArray) (hs : s.size ≤ maxLen) :
    (Instr.lookup 121 (.map (some b)) (.string s) true).run Tryz.prog w = .ok (.tuple #[.int .i64 ((f s.data.toList).getD 0), .bool (f s.data.toList).isSome]) w := by
  obtain ⟨D, ⟨es, clock, hb, F, _, rfl⟩, _, hf⟩ := h
  have hk := keyOf_string_mk (P := Tryz.prog) Tryz.underlying9 hs
  have h1 := hf s.data.toList .nil
  rcases Maps.fit_look true strKeyed Tryz.underlying121 (zeroInt w) hb F hk with ⟨hrun, _, hat⟩ | ⟨e0, y, _, _, hrun, hRv, hat, _⟩
  · rw [hat] at h1
    cases hfs : f s.data.toList with
    | none => simpa using hrun
    | some z => rw [hfs] at h1; cases h1
  · rw [hat] at h1
    obtain ⟨z, hz, hy, _⟩ := plainElem_int_inv Tryz.underlying3 hRv
    subst hy
    cases hfs : f s.data.toList with
    | none => rw [hfs] at h1; cases h1
    | some z' => rw [hfs] at h1; cases h1; rw [hz] at hrun; simpa using hrun
set_option maxRecDepth 100000 in
theorem KM.put {w : World} {b n : Nat} {f : List UInt8 → Option Int} (h : KM w b n f) (s : ByteArray) (hs : s.size ≤ maxLen) (z : Int) (hz : I64 z) (hn : n < maxLen) :
    ∃ w', (Instr.mapUpdate 121 (.map (some b)) (.string s) (.int .i64 z)).run Tryz.prog w = .ok () w' ∧ KM w' b (n + 1) (fun t => if t = s.data.toList then some z else f t) ∧ w.grownBy w' (some b) := by
  obtain ⟨D, ho, ⟨l, rfl⟩, hf⟩ := h
  have hk := keyOf_string_mk (P := Tryz.prog) Tryz.underlying9 hs
  have hw : (Lit.int .i64 z).wf = true := by unfold I64 at hz; exact WalkArith.wf_i64 (by omega)
  obtain ⟨w', hrun, ho', hg⟩ := ho.update strKeyed Tryz.underlying121 hn hk (plainElem_int Tryz.underlying3 hw)
  refine ⟨w', hrun, ⟨_, ho', ⟨_, rfl⟩, fun t zd => ?_⟩, hg⟩
  by_cases ht : t = s.data.toList
  · subst ht
    simp only [if_pos]
    exact atKey_put_same ⟨_, rfl⟩ (strKeyed.key hk) _ _
  · simp only [if_neg ht]
    rw [atKey_put_other (by intro e; injection e with e; exact ht e)]
    exact hf t zd
theorem KM.but {w w' : World} {b n : Nat} {L : List Nat} {f : List UInt8 → Option Int} (h : KM w b n f) (hk : But L w w') (hb : b ∉ L) : KM w' b n f := by
  obtain ⟨D, ho, hm, hf⟩ := h
  have hlt := ho.lt
  obtain ⟨es, clock, hb', F, hs, hD⟩ := ho
  exact ⟨D, ⟨es, clock, (hk.block b hlt hb).trans hb', F, hs, hD⟩, hm, hf⟩
end Go.Proofs.YtfbdklminljecaaGreatDoor
namespace Go.Proofs.YtfbdklminljecaaGreatDoor

def letC (c : Int) : Bool := (decide (97 ≤ c) && decide (c ≤ 122)) || (decide (65 ≤ c) && decide (c ≤ 90))
def okC (k : Nat) (c : Int) : Bool := letC c || (k != 0 && (c == 45 || (decide (48 ≤ c) && decide (c ≤ 57))))
theorem okC_true {k : Nat} {c : Int} (h : (97 ≤ c ∧ c ≤ 122) ∨ (65 ≤ c ∧ c ≤ 90) ∨ (k ≠ 0 ∧ (c = 45 ∨ (48 ≤ c ∧ c ≤ 57)))) : okC k c = true := by
  simp [okC, letC]; omega
theorem okC_false {k : Nat} {c : Int} (h : ¬ ((97 ≤ c ∧ c ≤ 122) ∨ (65 ≤ c ∧ c ≤ 90) ∨ (k ≠ 0 ∧ (c = 45 ∨ (48 ≤ c ∧ c ≤ 57))))) : okC k c = false := by
  rw [Bool.eq_false_iff]; intro hh; apply h; simp [okC, letC] at hh; omega
/-- The first n bytes are such as a name has them. -/
def nameTo (s : ByteArray) (n : Nat) : Bool := (List.range n).all fun k => okC k ((s.data.toList.getD k 0).toNat : Int)
def nameB (s : ByteArray) : Bool := decide (1 ≤ s.size) && decide (s.size ≤ 12) && nameTo s s.size
theorem byteAt (s : ByteArray) (k : Nat) (h : k < s.size) : s.data.toList.getD k 0 = s[k] := by
  rw [List.getD_eq_getElem?_getD, List.getElem?_eq_getElem (by simpa using h)]; rfl
theorem nameTo_zero (s : ByteArray) : nameTo s 0 = true := rfl
theorem nameTo_succ (s : ByteArray) (k : Nat) (h : k < s.size) : nameTo s (k + 1) = (nameTo s k && okC k (s[k].toNat : Int)) := by
  unfold nameTo; rw [List.range_succ, List.all_append]; simp only [List.all_cons, List.all_nil, Bool.and_true]; rw [byteAt s k h]
theorem nameTo_bad (s : ByteArray) (k : Nat) (h : k < s.size) (hb : okC k (s[k].toNat : Int) = false) : nameTo s s.size = false := by
  unfold nameTo; rw [List.all_eq_false]; exact ⟨k, by simpa using h, by rw [byteAt s k h, hb]; simp⟩
theorem nameB_short (s : ByteArray) (h : s.size < 1 ∨ 12 < s.size) : nameB s = false := by
  unfold nameB; rw [Bool.and_eq_false_iff, Bool.and_eq_false_iff]; left; rw [decide_eq_false_iff_not, decide_eq_false_iff_not]; omega
theorem nameB_bad (s : ByteArray) (k : Nat) (h : k < s.size) (hb : okC k (s[k].toNat : Int) = false) : nameB s = false := by
  unfold nameB; rw [nameTo_bad s k h hb, Bool.and_false]
theorem nameB_good (s : ByteArray) (h : 1 ≤ s.size ∧ s.size ≤ 12) (hb : nameTo s s.size = true) : nameB s = true := by
  unfold nameB; simp [h, hb]

/-- What a sort of a kind may print. -/
def printable (s : ByteArray) : Bool := s.data.toList.all fun b => decide (33 ≤ (b.toNat : Int)) && decide ((b.toNat : Int) ≤ 126)
def printLo (k : Int) : Int := if k = 1 then 1 else if k = 2 then 2 else 0
def printHi (k : Int) : Int := if k = 1 then 1 else if k = 2 then 4 else 0
def printsB (k : Int) (s : ByteArray) : Bool := decide (printLo k ≤ (s.size : Int)) && decide ((s.size : Int) ≤ printHi k) && printable s

/-- Some of the first n sorts bears a name; some that is no space prints a text. -/
def hasName (ss : List TS) (n : Nat) (s : ByteArray) : Bool := (ss.take n).any fun x => decide (x.name = s)
def hasText (ss : List TS) (n : Nat) (s : ByteArray) : Bool := (ss.take n).any fun x => decide (x.kind ≠ 3) && decide (x.text = s)
def textErr (ss : List TS) (n : Nat) (k : Int) (t : ByteArray) : Int := if printsB k t = false then 3 else if k ≠ 3 ∧ hasText ss n t = true then 13 else 0
/-- The error of sort n. -/
def sortErr (ss : List TS) (n : Nat) (x : TS) : Int :=
  if nameB x.name = false then 4 else if hasName ss n x.name = true then 5 else if ¬ (1 ≤ x.kind ∧ x.kind ≤ 3) then 15 else if ¬ (1 ≤ x.width ∧ x.width ≤ 100000) then 2 else textErr ss n x.kind x.text
/-- No error among the first n sorts. -/
def cleanTo (ss : List TS) (n : Nat) : Prop := ∀ k, k < n → sortErr ss k (ss.getD k TS.zero) = 0
def firstBad (ss : List TS) : Nat → Option Nat
  | 0 => none
  | n + 1 => match firstBad ss n with | some k => some k | none => if sortErr ss n (ss.getD n TS.zero) = 0 then none else some n
/-- The number of a sort, and the error, of a fount. -/
def chk (f : FT) : Int × Int :=
  if nameB f.name = false then (0, 4) else if ¬ (1 ≤ f.body ∧ f.body ≤ 144) then (0, 2) else if f.sorts.length = 0 then (0, 10) else if 120 < f.sorts.length then (0, 8)
  else match firstBad f.sorts f.sorts.length with | some k => ((k : Int), sortErr f.sorts k (f.sorts.getD k TS.zero)) | none => (0, 0)

theorem firstBad_none {ss : List TS} : ∀ {n : Nat}, cleanTo ss n → firstBad ss n = none
  | 0, _ => rfl
  | n + 1, h => by rw [firstBad, firstBad_none (fun k hk => h k (by omega))]; simp only; rw [if_pos (h n (by omega))]
theorem firstBad_some {ss : List TS} {k : Nat} : ∀ {n : Nat}, cleanTo ss k → k < n → sortErr ss k (ss.getD k TS.zero) ≠ 0 → firstBad ss n = some k
  | n + 1, hc, hk, hb => by
    rw [firstBad]
    by_cases h : k < n
    · rw [firstBad_some hc h hb]
    · obtain rfl : k = n := by omega
      rw [firstBad_none hc]; simp only; rw [if_neg hb]
theorem cleanTo_succ {ss : List TS} {n : Nat} (h : cleanTo ss n) (hb : sortErr ss n (ss.getD n TS.zero) = 0) : cleanTo ss (n + 1) := by
  intro k hk
  by_cases h' : k < n
  · exact h k h'
  · obtain rfl : k = n := by omega
    exact hb

/-- What the maps of the names, and of the texts, answer behind the first n sorts. -/
def lookN (ss : List TS) : Nat → List UInt8 → Option Int
  | 0 => fun _ => none
  | n + 1 => fun s => if s = (ss.getD n TS.zero).name.data.toList then some (n : Int) else lookN ss n s
def lookT (ss : List TS) : Nat → List UInt8 → Option Int
  | 0 => fun _ => none
  | n + 1 => if (ss.getD n TS.zero).kind = 3 then lookT ss n else fun s => if s = (ss.getD n TS.zero).text.data.toList then some (n : Int) else lookT ss n s
theorem bytes_ext {a b : ByteArray} (h : a.data.toList = b.data.toList) : a = b := by
  obtain ⟨⟨a⟩⟩ := a; obtain ⟨⟨b⟩⟩ := b; simpa using h
theorem take_getD (ss : List TS) (n : Nat) (h : n < ss.length) : ss.take (n + 1) = ss.take n ++ [ss.getD n TS.zero] := by
  rw [List.take_succ_eq_append_getElem h, List.getD_eq_getElem?_getD, List.getElem?_eq_getElem h]; rfl
theorem lookN_some (ss : List TS) (s : ByteArray) : ∀ n, n ≤ ss.length → (lookN ss n s.data.toList).isSome = hasName ss n s
  | 0, _ => rfl
  | n + 1, h => by
    have ih := lookN_some ss s n (by omega)
    unfold hasName at ih ⊢
    rw [take_getD ss n (by omega), List.any_append, ← ih]
    simp only [lookN, List.any_cons, List.any_nil, Bool.or_false]
    generalize ss.getD n TS.zero = x
    by_cases e : x.name = s
    · subst e; simp
    · rw [if_neg (fun hh => e (bytes_ext hh).symm), decide_eq_false e, Bool.or_false]
theorem lookT_some (ss : List TS) (s : ByteArray) : ∀ n, n ≤ ss.length → (lookT ss n s.data.toList).isSome = hasText ss n s
  | 0, _ => rfl
  | n + 1, h => by
    have ih := lookT_some ss s n (by omega)
    unfold hasText at ih ⊢
    rw [take_getD ss n (by omega), List.any_append, ← ih]
    simp only [lookT, List.any_cons, List.any_nil, Bool.or_false]
    generalize ss.getD n TS.zero = x
    by_cases hk : x.kind = 3
    · rw [if_pos hk]; simp [hk]
    · rw [if_neg hk]
      by_cases e : x.text = s
      · subst e; simp [hk]
      · rw [if_neg (fun hh => e (bytes_ext hh).symm), decide_eq_false e]; simp
end Go.Proofs.YtfbdklminljecaaGreatDoor
namespace Go.Proofs.YtfbdklminljecaaGreatDoor
open Go.RowKit

theorem within_any (n lo hi : Int) (w : World) :
    Calls Tryz.prog 66 #[.int .i64 n, .int .i64 lo, .int .i64 hi] w (Same (.bool (decide (lo ≤ n) && decide (n ≤ hi))) w) := by
  go_enter Tryz.func66, Tryz.ntmps66
  go_wp2 <;> go_ret <;> refine ⟨?_, rfl⟩ <;> simp_all
  omega
theorem bWithin_any (n lo hi : Int) (w : World) :
    Calls Tryz.prog 13 #[.int .i64 n, .int .i64 lo, .int .i64 hi] w (Same (.bool (decide (lo ≤ n) && decide (n ≤ hi))) w) := by
  go_enter Tryz.func13, Tryz.ntmps13
  go_wp2 <;> go_ret <;> refine ⟨?_, rfl⟩ <;> simp_all
  omega

theorem within_yes (n lo hi : Int) (w : World) (h : lo ≤ n ∧ n ≤ hi) : Calls Tryz.prog 66 #[.int .i64 n, .int .i64 lo, .int .i64 hi] w (Same (.bool true) w) :=
  (within_any n lo hi w).mono fun _ _ ⟨he, hw⟩ => ⟨by rw [he]; simp [h], hw⟩
theorem within_no (n lo hi : Int) (w : World) (h : ¬ (lo ≤ n ∧ n ≤ hi)) : Calls Tryz.prog 66 #[.int .i64 n, .int .i64 lo, .int .i64 hi] w (Same (.bool false) w) :=
  (within_any n lo hi w).mono fun _ _ ⟨he, hw⟩ => ⟨by rw [he]; congr 2; rw [Bool.and_eq_false_iff, decide_eq_false_iff_not, decide_eq_false_iff_not]; omega, hw⟩
theorem bWithin_yes (n lo hi : Int) (w : World) (h : lo ≤ n ∧ n ≤ hi) : Calls Tryz.prog 13 #[.int .i64 n, .int .i64 lo, .int .i64 hi] w (Same (.bool true) w) :=
  (bWithin_any n lo hi w).mono fun _ _ ⟨he, hw⟩ => ⟨by rw [he]; simp [h], hw⟩
theorem bWithin_no (n lo hi : Int) (w : World) (h : ¬ (lo ≤ n ∧ n ≤ hi)) : Calls Tryz.prog 13 #[.int .i64 n, .int .i64 lo, .int .i64 hi] w (Same (.bool false) w) :=
  (bWithin_any n lo hi w).mono fun _ _ ⟨he, hw⟩ => ⟨by rw [he]; congr 2; rw [Bool.and_eq_false_iff, decide_eq_false_iff_not, decide_eq_false_iff_not]; omega, hw⟩
theorem class_zero (c : Int) : (97 ≤ c ∧ c ≤ 122) ∨ (¬ 97 ≤ c ∧ 65 ≤ c ∧ c ≤ 90) ∨ (¬ 97 ≤ c ∧ ¬ 65 ≤ c) ∨ (¬ 97 ≤ c ∧ 65 ≤ c ∧ ¬ c ≤ 90) ∨ (97 ≤ c ∧ ¬ c ≤ 122 ∧ 65 ≤ c ∧ ¬ c ≤ 90) := by omega
theorem class_pos (c : Int) : (97 ≤ c ∧ c ≤ 122) ∨ (¬ 97 ≤ c ∧ 65 ≤ c ∧ c ≤ 90) ∨ c = 45 ∨ (¬ 97 ≤ c ∧ ¬ 65 ≤ c ∧ ¬ c < 48 ∧ ¬ 57 < c ∧ (c != 45) = true) ∨ (¬ 97 ≤ c ∧ ¬ 65 ≤ c ∧ c < 48 ∧ (c != 45) = true) ∨
    (¬ 97 ≤ c ∧ ¬ 65 ≤ c ∧ ¬ c < 48 ∧ 57 < c ∧ (c != 45) = true) ∨ (¬ 97 ≤ c ∧ 65 ≤ c ∧ ¬ c ≤ 90 ∧ ¬ c < 48 ∧ 57 < c ∧ (c != 45) = true) ∨ (97 ≤ c ∧ ¬ c ≤ 122 ∧ 65 ≤ c ∧ ¬ c ≤ 90 ∧ ¬ c < 48 ∧ 57 < c ∧ (c != 45) = true) := by
  have : (c != 45) = true ↔ c ≠ 45 := by simp
  rw [this]; omega
theorem okC_false' {k : Nat} {c : Int} (hk : 0 < k) (e : (c != 45) = true) (h : ¬ ((97 ≤ c ∧ c ≤ 122) ∨ (65 ≤ c ∧ c ≤ 90) ∨ (48 ≤ c ∧ c ≤ 57))) : okC k c = false := by
  have : c ≠ 45 := by simpa using e
  exact okC_false (by omega)
set_option maxHeartbeats 4000000 in
set_option maxRecDepth 100000 in
theorem bIsName_any (s : ByteArray) (w : World) (hs : s.size ≤ maxLen) :
    Calls Tryz.prog 59 #[.string s] w (Same (.bool (nameB s)) w) := by
  unfold maxLen at hs
  by_cases h0 : s.size < 1 ∨ 12 < s.size
  · have HB := Lib.hid (nameB_short s h0)
    rcases h0 with h0 | h0
    · have h1 : (s.size : Int) < 1 := by omega
      go_enter Tryz.func59, Tryz.ntmps59
      go_wp2
      go_ret
      exact ⟨by rw [HB.out]; rfl, rfl⟩
    · have h1 : (12 : Int) < (s.size : Int) := by omega
      have h2 : ¬ (s.size : Int) < 1 := by omega
      go_enter Tryz.func59, Tryz.ntmps59
      go_wp2
      go_ret
      exact ⟨by rw [HB.out]; rfl, rfl⟩
  · have h1 : ¬ (12 : Int) < (s.size : Int) := by omega
    have h2 : ¬ (s.size : Int) < 1 := by omega
    go_enter Tryz.func59, Tryz.ntmps59
    go_wp2
    go_loop [3] (fun i => ∃ k : Nat, k ≤ s.size ∧ i = .int .i64 k ∧ nameTo s k = true) (fun i => s.size - (intOf i).toNat)
    case atStart => exact ⟨0, Nat.zero_le _, rfl, rfl⟩
    case round =>
      obtain ⟨k, hk, rfl, hn⟩ := hrel
      have HN := Lib.hid hn; clear hn
      by_cases hlt : k < s.size
      · have hsc := nameTo_succ s k hlt
        have hbd := nameB_bad s k hlt
        have b1 : (s[k].toNat : Int) < 256 := by have := s[k].toNat_lt; omega
        have b2 : (0 : Int) ≤ (s[k].toNat : Int) := by omega
        have HS := Lib.hid hsc; clear hsc
        have HB := Lib.hid hbd; clear hbd
        generalize hc : (s[k].toNat : Int) = c at *
        rcases Nat.eq_zero_or_pos k with hk0 | hkp
        · subst hk0
          rcases class_zero c with ⟨h, h'⟩ | ⟨h, h', h1⟩ | ⟨h, h'⟩ | ⟨h, h', h1⟩ | ⟨h, h', h1, h2⟩
          all_goals go_wp2
          all_goals
            first
              | (go_round
                 case rel => exact ⟨1, by omega, by go_num, by rw [HS.out, HN.out, okC_true (by omega)]; rfl⟩
                 case measure => simp [intOf]; omega)
              | (go_ret; exact ⟨by rw [HB.out (okC_false (by omega))]; rfl, rfl⟩)
        · have e0 : ((k : Int) == 0) = false := by simp; omega
          rcases class_pos c with ⟨h, h'⟩ | ⟨h, h', h1⟩ | h | ⟨h, h', h1, h2, h3⟩ | ⟨h, h', h1, h3⟩ | ⟨h, h', h1, h2, h3⟩ | ⟨h, h', h1, h2, h4, h3⟩ | ⟨h, h', h1, h2, h4, h5, h3⟩
          all_goals try subst h
          all_goals go_wp2
          all_goals
            first
              | (go_round
                 case rel => exact ⟨k + 1, by omega, by go_num, by rw [HS.out, HN.out, okC_true (by omega)]; rfl⟩
                 case measure => simp [intOf]; omega)
              | (go_ret; exact ⟨by rw [HB.out (okC_false' hkp h3 (by omega))]; rfl, rfl⟩)
              | skip
          go_ways
      · go_wp2
        go_ret
        have : k = s.size := by omega
        subst this
        exact ⟨by rw [nameB_good s (by omega) HN.out]; rfl, rfl⟩
end Go.Proofs.YtfbdklminljecaaGreatDoor
namespace Go.Proofs.YtfbdklminljecaaGreatDoor
open Go.RowKit

theorem toList_nil (s : ByteArray) (h : s.size = 0) : s.toList = [] := by
  rw [Go.ByteArray.toList_eq, ← List.length_eq_zero_iff]; simpa using h
theorem toList_ne (s : ByteArray) (h : 0 < s.size) : ¬ s.toList = [] := by
  rw [Go.ByteArray.toList_eq, ← List.length_eq_zero_iff]
  have : s.data.toList.length = s.size := by simp
  omega
/-- The bytes of a text in a block of their own. -/
def Bytes (w : World) (b : Nat) (s : ByteArray) : Prop := ∀ (j : Nat) (h : j < s.size), w.cell? ⟨b, j, none⟩ = some (.int .u8 (s[j].toNat : Int))
theorem Bytes.made (w : World) (s : ByteArray) (cap : Nat) (T : TypeId) (m : Nat × Nat) : Bytes (w.alloc (.cells (bytesRow s cap) T m)) w.heap.size s := by
  intro j h
  rw [World.cell?_alloc_mark]
  exact bytesRow_at s cap j h

set_option maxHeartbeats 4000000 in
set_option maxRecDepth 100000 in
theorem isName_any (s : ByteArray) (w : World) (hs : s.size ≤ maxLen) :
    Calls Tryz.prog 78 #[.string s] w (Ret (.bool (nameB s)) w) := by
  unfold maxLen at hs
  have hcv := fun W => run_bytes_of_string (P := Tryz.prog) W 9 89 5 s Tryz.underlying9 Tryz.underlying89 Tryz.underlying5
  go_enter Tryz.func78, Tryz.ntmps78
  go_wp2
  clear hcv
  go_loopw [9] (fun i wr => ∃ k : Nat, k ≤ s.size ∧ i = .int .i64 k ∧ nameTo s k = true ∧ Bytes wr w.heap.size s ∧ Ext w wr) (fun i _ => s.size - (intOf i).toNat)
  case atStart => exact ⟨0, Nat.zero_le _, rfl, rfl, Bytes.made _ _ _ _ _, (by repeat (first | exact Ext.refl _ | assumption | refine Ext.alloc ?_ _ | refine Ext.drew ?_ | refine Ext.drewN ?_ _ | (refine Ext.setCell ?_ (by simp <;> omega) _) | refine Ext.trans ?_ (by assumption)))⟩
  case round =>
    obtain ⟨k, hk, rfl, hn, hB, hx⟩ := hrel
    have HN := Lib.hid hn; clear hn
    by_cases hlt : k < s.size
    · have hsc := nameTo_succ s k hlt
      have hbd := nameB_bad s k hlt
      have hcell := hB k hlt
      have b1 : (s[k].toNat : Int) < 256 := by have := s[k].toNat_lt; omega
      have b2 : (0 : Int) ≤ (s[k].toNat : Int) := by omega
      have HS := Lib.hid hsc; clear hsc
      have HB := Lib.hid hbd; clear hbd
      generalize hc : (s[k].toNat : Int) = c at *
      rcases Nat.eq_zero_or_pos k with hk0 | hkp
      · subst hk0
        rcases class_zero c with ⟨h, h'⟩ | ⟨h, h', h1⟩ | ⟨h, h'⟩ | ⟨h, h', h1⟩ | ⟨h, h', h1, h2⟩
        all_goals go_wp2
        all_goals
          first
            | (go_roundw
               case rel => exact ⟨1, by omega, by go_num, by rw [HS.out, HN.out, okC_true (by omega)]; rfl, hB, hx⟩
               case measure => simp [intOf]; omega)
            | (go_ret; exact Ret.mk' (by rw [HB.out (okC_false (by omega))]; rfl) hx)
      · have e0 : ((k : Int) == 0) = false := by simp; omega
        rcases class_pos c with ⟨h, h'⟩ | ⟨h, h', h1⟩ | h | ⟨h, h', h1, h2, h3⟩ | ⟨h, h', h1, h3⟩ | ⟨h, h', h1, h2, h3⟩ | ⟨h, h', h1, h2, h4, h3⟩ | ⟨h, h', h1, h2, h4, h5, h3⟩
        all_goals try subst h
        all_goals go_wp2
        all_goals
          first
            | (go_roundw
               case rel => exact ⟨k + 1, by omega, by go_num, by rw [HS.out, HN.out, okC_true (by omega)]; rfl, hB, hx⟩
               case measure => simp [intOf]; omega)
            | (go_ret; exact Ret.mk' (by rw [HB.out (okC_false' hkp h3 (by omega))]; rfl) hx)
    · obtain rfl : k = s.size := by omega
      by_cases h0 : s.size = 0
      · have e1 := toList_nil s h0
        have HC := Lib.hid (nameB_short s (by omega)); clear h0
        go_wp2
        go_ret
        exact Ret.mk' (by rw [HC.out]; rfl) hx
      · have e1 := toList_ne s (by omega)
        by_cases h1 : s.size ≤ 12
        · have HC := Lib.hid (nameB_good s ⟨by omega, h1⟩ HN.out)
          have h2 : (s.size : Int) ≤ 12 := by omega
          go_wp2
          go_ret
          exact Ret.mk' (by rw [HC.out]; simp [e1]) hx
        · have HC := Lib.hid (nameB_short s (by omega))
          have h2 : ¬ (s.size : Int) ≤ 12 := by omega
          go_wp2
          go_ret
          exact Ret.mk' (by rw [HC.out]; simp) hx
end Go.Proofs.YtfbdklminljecaaGreatDoor
namespace Go.Proofs.YtfbdklminljecaaGreatDoor
open Go.RowKit Go.Lib

def noPrint (r : Nat) : Bool := decide ((r : Int) < 33) || decide (126 < (r : Int))
theorem noPrint_iff (r : Nat) : noPrint r = true ↔ r < 33 ∨ 126 < r := by unfold noPrint; simp; omega
theorem idx_nonneg (p : Nat → Bool) (s : ByteArray) : ∀ (f pos : Nat), -1 ≤ Lib.idxFuncFrom p true s f pos
  | 0, pos => by simp [Lib.idxFuncFrom]
  | f + 1, pos => by
    unfold Lib.idxFuncFrom
    split
    · split
      · omega
      · exact idx_nonneg p s f _
    · omega
theorem idx_print (s : ByteArray) : ∀ (f pos : Nat), s.size ≤ pos + f → ((0 ≤ Lib.idxFuncFrom noPrint true s f pos) ↔ ∃ (j : Nat) (h : j < s.size), pos ≤ j ∧ noPrint s[j].toNat = true)
  | 0, pos => fun hf => by
    simp only [Lib.idxFuncFrom]
    constructor
    · intro h; omega
    · rintro ⟨j, h, hp, _⟩; omega
  | f + 1, pos => fun hf => by
    unfold Lib.idxFuncFrom
    by_cases hps : pos < s.size
    · rw [if_pos hps]
      by_cases hb : s[pos].toNat < 128
      · rw [decode_ascii s pos hps hb]
        simp only
        by_cases hn : noPrint s[pos].toNat = true
        · rw [if_pos hn]
          exact ⟨fun _ => ⟨pos, hps, Nat.le_refl _, hn⟩, fun _ => by omega⟩
        · rw [if_neg hn, idx_print s f (pos + 1) (by omega)]
          constructor
          · rintro ⟨j, h, hp, hj⟩; exact ⟨j, h, by omega, hj⟩
          · rintro ⟨j, h, hp, hj⟩
            refine ⟨j, h, ?_, hj⟩
            rcases Nat.eq_or_lt_of_le hp with e | e
            · subst e; exact absurd hj hn
            · omega
      · have hh := (decode_high s pos hps (by omega)).1
        rw [if_pos ((noPrint_iff _).2 (by omega))]
        exact ⟨fun _ => ⟨pos, hps, Nat.le_refl _, (noPrint_iff _).2 (by omega)⟩, fun _ => by omega⟩
    · rw [if_neg hps]
      constructor
      · intro h; omega
      · rintro ⟨j, h, hp, _⟩; omega
theorem printable_iff (s : ByteArray) : printable s = true ↔ ∀ (j : Nat) (h : j < s.size), noPrint s[j].toNat = false := by
  unfold printable
  rw [List.all_eq_true]
  constructor
  · intro h j hj
    have := h s[j] (by have e : s[j] = s.data.toList[j]'(by simpa using hj) := rfl; rw [e]; exact List.getElem_mem _)
    rw [Bool.and_eq_true, decide_eq_true_eq, decide_eq_true_eq] at this
    rw [Bool.eq_false_iff]; intro hn; rw [noPrint_iff] at hn; omega
  · intro h b hb
    obtain ⟨j, hj, rfl⟩ := List.getElem_of_mem hb
    have := h j (by simpa using hj)
    have e : s[j]'(by simpa using hj) = s.data.toList[j] := rfl
    rw [e, Bool.eq_false_iff] at this
    rw [Bool.and_eq_true, decide_eq_true_eq, decide_eq_true_eq]
    have h2 := mt (noPrint_iff _).2 this
    omega
theorem contains_print (s : ByteArray) : decide (0 ≤ Lib.idxFunc noPrint true s) = !printable s := by
  rw [Bool.eq_iff_iff]
  unfold Lib.idxFunc
  rw [decide_eq_true_eq, idx_print s s.size 0 (by omega), Bool.not_eq_true', Bool.eq_false_iff, Ne, printable_iff]
  constructor
  · rintro ⟨j, h, _, hj⟩ hall; rw [hall j h] at hj; cases hj
  · intro hn
    apply Classical.byContradiction
    intro hno
    apply hn
    intro j h
    rw [Bool.eq_false_iff]
    exact fun hj => hno ⟨j, h, Nat.zero_le _, hj⟩

theorem prints1_any (r : Nat) (hr : r ≤ 1114111) (w : World) :
    Calls Tryz.prog 106 #[.int .i32 r] w fun e w' => e = .returned (.bool (noPrint r)) ∧ w = w' := by
  by_cases h : (r : Int) < 33
  · go_enter Tryz.func106, Tryz.ntmps106
    go_wp2
    go_ret
    exact ⟨by simp [noPrint, h], rfl⟩
  · go_enter Tryz.func106, Tryz.ntmps106
    go_wp2
    go_ret
    have h' : decide ((r : Int) < 33) = false := decide_eq_false (by omega)
    exact ⟨by unfold noPrint; rw [h']; rfl, rfl⟩
theorem prints1_grows (w : World) : PredGrows Tryz.prog 106 #[] noPrint w :=
  fun W x hx _ => (prints1_any x hx W).mono fun _ _ ⟨he, hw⟩ => ⟨he, hw ▸ Below.refl _ _⟩
theorem contains_any (s : ByteArray) (w : World) :
    Calls Tryz.prog 105 #[.string s, .func (.func 106) #[] #[]] w (Ret (.bool (!printable s)) w) :=
  (Tryz.strings_ContainsFunc_grows 106 #[] (fun _ _ => by kernel_rfl) noPrint s w (prints1_grows w)).mono fun _ _ ⟨he, hb⟩ => ⟨by rw [he, contains_print], hb⟩

set_option maxHeartbeats 1000000 in
theorem prints_any (k : Int) (s : ByteArray) (w : World) (hk : 1 ≤ k ∧ k ≤ 3) (hs : s.size ≤ maxLen) :
    Calls Tryz.prog 102 #[.int .i64 k, .string s] w (Ret (.bool (printsB k s)) w) := by
  have hs' := hs
  unfold maxLen at hs'
  have i1 : ∀ w, (Instr.index 168 (.agg #[.int .i64 0, .int .i64 0, .int .i64 1, .int .i64 1, .int .i64 2, .int .i64 4, .int .i64 0, .int .i64 0]) (.int .i64 1)).run Tryz.prog w = .ok (.agg #[.int .i64 1, .int .i64 1]) w := fun _ => by kernel_rfl
  have i2 : ∀ w, (Instr.index 168 (.agg #[.int .i64 0, .int .i64 0, .int .i64 1, .int .i64 1, .int .i64 2, .int .i64 4, .int .i64 0, .int .i64 0]) (.int .i64 2)).run Tryz.prog w = .ok (.agg #[.int .i64 2, .int .i64 4]) w := fun _ => by kernel_rfl
  have i3 : ∀ w, (Instr.index 168 (.agg #[.int .i64 0, .int .i64 0, .int .i64 1, .int .i64 1, .int .i64 2, .int .i64 4, .int .i64 0, .int .i64 0]) (.int .i64 3)).run Tryz.prog w = .ok (.agg #[.int .i64 0, .int .i64 0]) w := fun _ => by kernel_rfl
  have hk3 : k = 1 ∨ k = 2 ∨ k = 3 := by omega
  by_cases hin : printLo k ≤ (s.size : Int) ∧ (s.size : Int) ≤ printHi k
  · have HP : Hid (printsB k s = printable s) := Lib.hid (by unfold printsB; simp [hin])
    rcases hk3 with rfl | rfl | rfl
    · replace hin : (1 : Int) ≤ (s.size : Int) ∧ (s.size : Int) ≤ 1 := hin
      go_enter Tryz.func102, Tryz.ntmps102
      go_wp2_with (first | (go_at_call 66; refine Calls.mono (within_yes _ _ _ _ ?_) ?_; (omega); rintro e w1 ⟨rfl, rfl⟩) | (go_at_call 66; refine Calls.mono (within_no _ _ _ _ ?_) ?_; (omega); rintro e w1 ⟨rfl, rfl⟩) | (go_at_call 105; refine Calls.mono (contains_any _ _) ?_; rintro e w1 ⟨rfl, hb⟩; obtain ⟨hc, hf⟩ := hb.rules; have hz := hb.size; (try simp only [World.size_alloc] at hz)))
      go_ret
      exact Ret.mk' (by rw [HP.out]; simp) (by repeat (first | exact Ext.refl _ | assumption | refine Ext.alloc ?_ _ | refine Ext.drew ?_ | refine Ext.drewN ?_ _ | (refine Ext.setCell ?_ (by simp <;> omega) _) | refine Ext.trans ?_ (by assumption)))
    · replace hin : (2 : Int) ≤ (s.size : Int) ∧ (s.size : Int) ≤ 4 := hin
      go_enter Tryz.func102, Tryz.ntmps102
      go_wp2_with (first | (go_at_call 66; refine Calls.mono (within_yes _ _ _ _ ?_) ?_; (omega); rintro e w1 ⟨rfl, rfl⟩) | (go_at_call 66; refine Calls.mono (within_no _ _ _ _ ?_) ?_; (omega); rintro e w1 ⟨rfl, rfl⟩) | (go_at_call 105; refine Calls.mono (contains_any _ _) ?_; rintro e w1 ⟨rfl, hb⟩; obtain ⟨hc, hf⟩ := hb.rules; have hz := hb.size; (try simp only [World.size_alloc] at hz)))
      go_ret
      exact Ret.mk' (by rw [HP.out]; simp) (by repeat (first | exact Ext.refl _ | assumption | refine Ext.alloc ?_ _ | refine Ext.drew ?_ | refine Ext.drewN ?_ _ | (refine Ext.setCell ?_ (by simp <;> omega) _) | refine Ext.trans ?_ (by assumption)))
    · replace hin : (0 : Int) ≤ (s.size : Int) ∧ (s.size : Int) ≤ 0 := hin
      go_enter Tryz.func102, Tryz.ntmps102
      go_wp2_with (first | (go_at_call 66; refine Calls.mono (within_yes _ _ _ _ ?_) ?_; (omega); rintro e w1 ⟨rfl, rfl⟩) | (go_at_call 66; refine Calls.mono (within_no _ _ _ _ ?_) ?_; (omega); rintro e w1 ⟨rfl, rfl⟩) | (go_at_call 105; refine Calls.mono (contains_any _ _) ?_; rintro e w1 ⟨rfl, hb⟩; obtain ⟨hc, hf⟩ := hb.rules; have hz := hb.size; (try simp only [World.size_alloc] at hz)))
      go_ret
      exact Ret.mk' (by rw [HP.out]; simp) (by repeat (first | exact Ext.refl _ | assumption | refine Ext.alloc ?_ _ | refine Ext.drew ?_ | refine Ext.drewN ?_ _ | (refine Ext.setCell ?_ (by simp <;> omega) _) | refine Ext.trans ?_ (by assumption)))
  · have HP : Hid (printsB k s = false) := Lib.hid (by unfold printsB; rw [Bool.and_eq_false_iff, Bool.and_eq_false_iff, decide_eq_false_iff_not, decide_eq_false_iff_not]; omega)
    rcases hk3 with rfl | rfl | rfl
    · replace hin : ¬ ((1 : Int) ≤ (s.size : Int) ∧ (s.size : Int) ≤ 1) := hin
      go_enter Tryz.func102, Tryz.ntmps102
      go_wp2_with (first | (go_at_call 66; refine Calls.mono (within_yes _ _ _ _ ?_) ?_; (omega); rintro e w1 ⟨rfl, rfl⟩) | (go_at_call 66; refine Calls.mono (within_no _ _ _ _ ?_) ?_; (omega); rintro e w1 ⟨rfl, rfl⟩) | (go_at_call 105; refine Calls.mono (contains_any _ _) ?_; rintro e w1 ⟨rfl, hb⟩; obtain ⟨hc, hf⟩ := hb.rules; have hz := hb.size; (try simp only [World.size_alloc] at hz)))
      go_ret
      exact Ret.mk' (by rw [HP.out]; rfl) (by repeat (first | exact Ext.refl _ | assumption | refine Ext.alloc ?_ _ | refine Ext.drew ?_ | refine Ext.drewN ?_ _ | (refine Ext.setCell ?_ (by simp <;> omega) _) | refine Ext.trans ?_ (by assumption)))
    · replace hin : ¬ ((2 : Int) ≤ (s.size : Int) ∧ (s.size : Int) ≤ 4) := hin
      go_enter Tryz.func102, Tryz.ntmps102
      go_wp2_with (first | (go_at_call 66; refine Calls.mono (within_yes _ _ _ _ ?_) ?_; (omega); rintro e w1 ⟨rfl, rfl⟩) | (go_at_call 66; refine Calls.mono (within_no _ _ _ _ ?_) ?_; (omega); rintro e w1 ⟨rfl, rfl⟩) | (go_at_call 105; refine Calls.mono (contains_any _ _) ?_; rintro e w1 ⟨rfl, hb⟩; obtain ⟨hc, hf⟩ := hb.rules; have hz := hb.size; (try simp only [World.size_alloc] at hz)))
      go_ret
      exact Ret.mk' (by rw [HP.out]; rfl) (by repeat (first | exact Ext.refl _ | assumption | refine Ext.alloc ?_ _ | refine Ext.drew ?_ | refine Ext.drewN ?_ _ | (refine Ext.setCell ?_ (by simp <;> omega) _) | refine Ext.trans ?_ (by assumption)))
    · replace hin : ¬ ((0 : Int) ≤ (s.size : Int) ∧ (s.size : Int) ≤ 0) := hin
      go_enter Tryz.func102, Tryz.ntmps102
      go_wp2_with (first | (go_at_call 66; refine Calls.mono (within_yes _ _ _ _ ?_) ?_; (omega); rintro e w1 ⟨rfl, rfl⟩) | (go_at_call 66; refine Calls.mono (within_no _ _ _ _ ?_) ?_; (omega); rintro e w1 ⟨rfl, rfl⟩) | (go_at_call 105; refine Calls.mono (contains_any _ _) ?_; rintro e w1 ⟨rfl, hb⟩; obtain ⟨hc, hf⟩ := hb.rules; have hz := hb.size; (try simp only [World.size_alloc] at hz)))
      go_ret
      exact Ret.mk' (by rw [HP.out]; rfl) (by repeat (first | exact Ext.refl _ | assumption | refine Ext.alloc ?_ _ | refine Ext.drew ?_ | refine Ext.drewN ?_ _ | (refine Ext.setCell ?_ (by simp <;> omega) _) | refine Ext.trans ?_ (by assumption)))
end Go.Proofs.YtfbdklminljecaaGreatDoor
namespace Go.Proofs.YtfbdklminljecaaGreatDoor
open Go.RowKit

/-- Two maps of this call's own. -/
def Known (w : World) (b1 b2 n : Nat) (f g : List UInt8 → Option Int) : Prop := KM w b1 n f ∧ KM w b2 n g
def knownV (b1 b2 : Nat) : Value := .agg #[.map (some b1), .map (some b2)]
theorem KM.mono {w : World} {b n m : Nat} {f : List UInt8 → Option Int} (h : KM w b n f) (hn : n ≤ m) : KM w b m f := by
  obtain ⟨D, ho, hm⟩ := h
  exact ⟨D, ho.mono hn, hm⟩

def NewKnown (w : World) (e : Ending) (w' : World) : Prop :=
  ∃ b1 b2, e = .returned (knownV b1 b2) ∧ b1 ≠ b2 ∧ w.heap.size ≤ b1 ∧ w.heap.size ≤ b2 ∧ KM w' b1 0 (fun _ => none) ∧ KM w' b2 0 (fun _ => none) ∧ Ext w w'
set_option maxHeartbeats 1000000 in
theorem newKnown_any (w : World) : Calls Tryz.prog 77 #[] w (NewKnown w) := by
  have hmm := @run_makeMap Tryz.prog
  go_enter Tryz.func77, Tryz.ntmps77
  go_wp2
  refine bodyPost_ret (v := knownV (w.heap.size + 1) (w.heap.size + 1 + 1)) (by simp [results, Tryz.results77, go_sem, knownV]) rfl ⟨_, _, rfl, by omega, by omega, by omega, ?_, ?_, (by repeat (first | exact Ext.refl _ | assumption | refine Ext.alloc ?_ _ | refine Ext.drew ?_ | refine Ext.drewN ?_ _ | (refine Ext.setCell ?_ (by simp <;> omega) _) | refine Ext.trans ?_ (by assumption)))⟩
  · have h := KM.made (w.alloc (.cells #[.map (some (w.heap.size + 1)), .map (some (w.heap.size + 1 + 1))] 123))
    rw [World.size_alloc] at h
    exact h.ext (by repeat (first | exact Ext.refl _ | assumption | refine Ext.alloc ?_ _ | refine Ext.drew ?_ | refine Ext.drewN ?_ _ | (refine Ext.setCell ?_ (by simp <;> omega) _) | refine Ext.trans ?_ (by assumption)))
  · have h := KM.made ((w.alloc (.cells #[.map (some (w.heap.size + 1)), .map (some (w.heap.size + 1 + 1))] 123)).alloc (.map #[] 0))
    rw [World.size_alloc, World.size_alloc] at h
    exact h

def nameE (f : List UInt8 → Option Int) (s : ByteArray) : Int := if nameB s = false then 4 else if (f s.data.toList).isSome = true then 5 else 0
def textE (g : List UInt8 → Option Int) (k : Int) (s : ByteArray) : Int := if printsB k s = false then 3 else if k ≠ 3 ∧ (g s.data.toList).isSome = true then 13 else 0
set_option maxHeartbeats 1000000 in
theorem name_any (b1 b2 n : Nat) (f : List UInt8 → Option Int) (s : ByteArray) (w : World) (h1 : KM w b1 n f) (hs : s.size ≤ maxLen) :
    Calls Tryz.prog 93 #[knownV b1 b2, .string s] w (Ret (.int .i64 (nameE f s)) w) := by
  unfold knownV
  by_cases hn : nameB s = true
  · have HV : Hid (nameE f s = if (f s.data.toList).isSome = true then 5 else 0) := Lib.hid (by unfold nameE; simp [hn])
    have HN := Lib.hid hn; clear hn
    cases hv : (f s.data.toList)
    all_goals
      rw [hv] at HV
      have HF := Lib.hid hv; clear hv
      go_enter Tryz.func93, Tryz.ntmps93
      go_wp2_with (first | (go_at_call 78; refine Calls.mono (isName_any _ _ hs) ?_; rw [HN.out]; rintro e w1 ⟨rfl, hb⟩; obtain ⟨hc, hf⟩ := hb.rules; have hl := (h1.ext (Ext.trans (by repeat (first | exact Ext.refl _ | assumption | refine Ext.alloc ?_ _ | refine Ext.drew ?_ | refine Ext.drewN ?_ _ | (refine Ext.setCell ?_ (by simp <;> omega) _) | refine Ext.trans ?_ (by assumption))) hb)).look s hs; rw [HF.out] at hl))
      go_ret
      exact Ret.mk' (by rw [HV.out]; rfl) (by repeat (first | exact Ext.refl _ | assumption | refine Ext.alloc ?_ _ | refine Ext.drew ?_ | refine Ext.drewN ?_ _ | (refine Ext.setCell ?_ (by simp <;> omega) _) | refine Ext.trans ?_ (by assumption)))
  · have HV : Hid (nameE f s = 4) := Lib.hid (by unfold nameE; simp [hn])
    have HN : Hid (nameB s = false) := Lib.hid (by simpa using hn)
    clear hn
    go_enter Tryz.func93, Tryz.ntmps93
    go_wp2_with (first | (go_at_call 78; refine Calls.mono (isName_any _ _ hs) ?_; rw [HN.out]; rintro e w1 ⟨rfl, hb⟩))
    go_ret
    exact Ret.mk' (by rw [HV.out]; rfl) (by repeat (first | exact Ext.refl _ | assumption | refine Ext.alloc ?_ _ | refine Ext.drew ?_ | refine Ext.drewN ?_ _ | (refine Ext.setCell ?_ (by simp <;> omega) _) | refine Ext.trans ?_ (by assumption)))

set_option maxHeartbeats 1000000 in
theorem text_any (b1 b2 n : Nat) (g : List UInt8 → Option Int) (k : Int) (s : ByteArray) (w : World) (hk : 1 ≤ k ∧ k ≤ 3) (h2 : KM w b2 n g) (hs : s.size ≤ maxLen) :
    Calls Tryz.prog 94 #[knownV b1 b2, .int .i64 k, .string s] w (Ret (.int .i64 (textE g k s)) w) := by
  unfold knownV
  by_cases hn : printsB k s = true
  · have HV : Hid (textE g k s = if k ≠ 3 ∧ (g s.data.toList).isSome = true then 13 else 0) := Lib.hid (by unfold textE; simp [hn])
    have HN := Lib.hid hn; clear hn
    cases hv : (g s.data.toList)
    · rw [hv] at HV
      have HF := Lib.hid hv; clear hv
      go_enter Tryz.func94, Tryz.ntmps94
      go_wp2_with (first | (go_at_call 102; refine Calls.mono (prints_any _ _ _ hk hs) ?_; rw [HN.out]; rintro e w1 ⟨rfl, hb⟩; obtain ⟨hc, hf⟩ := hb.rules; have hl := (h2.ext (Ext.trans (by repeat (first | exact Ext.refl _ | assumption | refine Ext.alloc ?_ _ | refine Ext.drew ?_ | refine Ext.drewN ?_ _ | (refine Ext.setCell ?_ (by simp <;> omega) _) | refine Ext.trans ?_ (by assumption))) hb)).look s hs; rw [HF.out] at hl))
      go_ret
      exact Ret.mk' (by rw [HV.out]; simp) (by repeat (first | exact Ext.refl _ | assumption | refine Ext.alloc ?_ _ | refine Ext.drew ?_ | refine Ext.drewN ?_ _ | (refine Ext.setCell ?_ (by simp <;> omega) _) | refine Ext.trans ?_ (by assumption)))
    · rw [hv] at HV
      have HF := Lib.hid hv; clear hv
      by_cases h3 : k = 3
      · subst h3
        go_enter Tryz.func94, Tryz.ntmps94
        go_wp2_with (first | (go_at_call 102; refine Calls.mono (prints_any _ _ _ hk hs) ?_; rw [HN.out]; rintro e w1 ⟨rfl, hb⟩; obtain ⟨hc, hf⟩ := hb.rules; have hl := (h2.ext (Ext.trans (by repeat (first | exact Ext.refl _ | assumption | refine Ext.alloc ?_ _ | refine Ext.drew ?_ | refine Ext.drewN ?_ _ | (refine Ext.setCell ?_ (by simp <;> omega) _) | refine Ext.trans ?_ (by assumption))) hb)).look s hs; rw [HF.out] at hl))
        go_ret
        exact Ret.mk' (by rw [HV.out]; simp) (by repeat (first | exact Ext.refl _ | assumption | refine Ext.alloc ?_ _ | refine Ext.drew ?_ | refine Ext.drewN ?_ _ | (refine Ext.setCell ?_ (by simp <;> omega) _) | refine Ext.trans ?_ (by assumption)))
      · have e3 : (k != 3) = true := by simpa using h3
        go_enter Tryz.func94, Tryz.ntmps94
        go_wp2_with (first | (go_at_call 102; refine Calls.mono (prints_any _ _ _ hk hs) ?_; rw [HN.out]; rintro e w1 ⟨rfl, hb⟩; obtain ⟨hc, hf⟩ := hb.rules; have hl := (h2.ext (Ext.trans (by repeat (first | exact Ext.refl _ | assumption | refine Ext.alloc ?_ _ | refine Ext.drew ?_ | refine Ext.drewN ?_ _ | (refine Ext.setCell ?_ (by simp <;> omega) _) | refine Ext.trans ?_ (by assumption))) hb)).look s hs; rw [HF.out] at hl))
        go_ret
        exact Ret.mk' (by rw [HV.out]; simp [h3]) (by repeat (first | exact Ext.refl _ | assumption | refine Ext.alloc ?_ _ | refine Ext.drew ?_ | refine Ext.drewN ?_ _ | (refine Ext.setCell ?_ (by simp <;> omega) _) | refine Ext.trans ?_ (by assumption)))
  · have HV : Hid (textE g k s = 3) := Lib.hid (by unfold textE; simp [hn])
    have HN : Hid (printsB k s = false) := Lib.hid (by simpa using hn)
    clear hn
    go_enter Tryz.func94, Tryz.ntmps94
    go_wp2_with (first | (go_at_call 102; refine Calls.mono (prints_any _ _ _ hk hs) ?_; rw [HN.out]; rintro e w1 ⟨rfl, hb⟩))
    go_ret
    exact Ret.mk' (by rw [HV.out]; rfl) (by repeat (first | exact Ext.refl _ | assumption | refine Ext.alloc ?_ _ | refine Ext.drew ?_ | refine Ext.drewN ?_ _ | (refine Ext.setCell ?_ (by simp <;> omega) _) | refine Ext.trans ?_ (by assumption)))

/-- The error of a sort, by what is known. -/
def knownErr (f g : List UInt8 → Option Int) (x : TS) : Int :=
  if nameE f x.name ≠ 0 then nameE f x.name else if ¬ (1 ≤ x.kind ∧ x.kind ≤ 3) then 15 else if ¬ (1 ≤ x.width ∧ x.width ≤ 100000) then 2 else textE g x.kind x.text
set_option maxHeartbeats 2000000 in
theorem sort_any (b1 b2 n : Nat) (f g : List UInt8 → Option Int) (x : TS) (w : World) (h1 : KM w b1 n f) (h2 : KM w b2 n g) (hn : x.name.size ≤ maxLen) (ht : x.text.size ≤ maxLen) :
    Calls Tryz.prog 79 #[knownV b1 b2, x.val] w (Ret (.int .i64 (knownErr f g x)) w) := by
  obtain ⟨nm, tx, k, wd⟩ := x
  simp only [TS.val, knownV] at *
  have HV : Hid (knownErr f g ⟨nm, tx, k, wd⟩ = if nameE f nm ≠ 0 then nameE f nm else if ¬ (1 ≤ k ∧ k ≤ 3) then 15 else if ¬ (1 ≤ wd ∧ wd ≤ 100000) then 2 else textE g k tx) := Lib.hid rfl
  have cn := fun W h => name_any b1 b2 n f nm W h hn
  have ct := fun W h hk => text_any b1 b2 n g k tx W hk h ht
  unfold knownV at cn ct
  generalize nameE f nm = z at *
  have CN := Lib.hid cn; clear cn
  have CT := Lib.hid ct; clear ct
  by_cases hz : z = 0
  · subst hz
    by_cases hk : 1 ≤ k ∧ k ≤ 3
    · by_cases hw : 1 ≤ wd ∧ wd ≤ 100000
      · go_enter Tryz.func79, Tryz.ntmps79
        go_wp2_with (first | (go_at_call 66; refine Calls.mono (within_yes _ _ _ _ ?_) ?_; (omega); rintro e w1 ⟨rfl, rfl⟩) | (go_at_call 66; refine Calls.mono (within_no _ _ _ _ ?_) ?_; (omega); rintro e w1 ⟨rfl, rfl⟩) | (go_at_call 93; refine Calls.mono (CN.out _ ?_) ?_; (exact h1.ext (by repeat (first | exact Ext.refl _ | assumption | refine Ext.alloc ?_ _ | refine Ext.drew ?_ | refine Ext.drewN ?_ _ | (refine Ext.setCell ?_ (by simp <;> omega) _) | refine Ext.trans ?_ (by assumption)))); rintro e w1 ⟨rfl, hb⟩; obtain ⟨hc, hf⟩ := hb.rules) | (go_at_call 94; refine Calls.mono (CT.out _ ?_ ?_) ?_; (exact h2.ext (Ext.trans (by repeat (first | exact Ext.refl _ | assumption | refine Ext.alloc ?_ _ | refine Ext.drew ?_ | refine Ext.drewN ?_ _ | (refine Ext.setCell ?_ (by simp <;> omega) _) | refine Ext.trans ?_ (by assumption))) hb)); (exact hk); rintro e w2 ⟨rfl, hb2⟩))
        go_ret
        exact Ret.mk' (by rw [HV.out]; simp [hk, hw]) ((Ext.trans (by repeat (first | exact Ext.refl _ | assumption | refine Ext.alloc ?_ _ | refine Ext.drew ?_ | refine Ext.drewN ?_ _ | (refine Ext.setCell ?_ (by simp <;> omega) _) | refine Ext.trans ?_ (by assumption))) hb).trans hb2)
      · go_enter Tryz.func79, Tryz.ntmps79
        go_wp2_with (first | (go_at_call 66; refine Calls.mono (within_yes _ _ _ _ ?_) ?_; (omega); rintro e w1 ⟨rfl, rfl⟩) | (go_at_call 66; refine Calls.mono (within_no _ _ _ _ ?_) ?_; (omega); rintro e w1 ⟨rfl, rfl⟩) | (go_at_call 93; refine Calls.mono (CN.out _ ?_) ?_; (exact h1.ext (by repeat (first | exact Ext.refl _ | assumption | refine Ext.alloc ?_ _ | refine Ext.drew ?_ | refine Ext.drewN ?_ _ | (refine Ext.setCell ?_ (by simp <;> omega) _) | refine Ext.trans ?_ (by assumption)))); rintro e w1 ⟨rfl, hb⟩; obtain ⟨hc, hf⟩ := hb.rules))
        go_ret
        exact Ret.mk' (by rw [HV.out]; simp [hk, hw]) (by repeat (first | exact Ext.refl _ | assumption | refine Ext.alloc ?_ _ | refine Ext.drew ?_ | refine Ext.drewN ?_ _ | (refine Ext.setCell ?_ (by simp <;> omega) _) | refine Ext.trans ?_ (by assumption)))
    · go_enter Tryz.func79, Tryz.ntmps79
      go_wp2_with (first | (go_at_call 66; refine Calls.mono (within_yes _ _ _ _ ?_) ?_; (omega); rintro e w1 ⟨rfl, rfl⟩) | (go_at_call 66; refine Calls.mono (within_no _ _ _ _ ?_) ?_; (omega); rintro e w1 ⟨rfl, rfl⟩) | (go_at_call 93; refine Calls.mono (CN.out _ ?_) ?_; (exact h1.ext (by repeat (first | exact Ext.refl _ | assumption | refine Ext.alloc ?_ _ | refine Ext.drew ?_ | refine Ext.drewN ?_ _ | (refine Ext.setCell ?_ (by simp <;> omega) _) | refine Ext.trans ?_ (by assumption)))); rintro e w1 ⟨rfl, hb⟩; obtain ⟨hc, hf⟩ := hb.rules))
      go_ret
      exact Ret.mk' (by rw [HV.out]; simp [hk]) (by repeat (first | exact Ext.refl _ | assumption | refine Ext.alloc ?_ _ | refine Ext.drew ?_ | refine Ext.drewN ?_ _ | (refine Ext.setCell ?_ (by simp <;> omega) _) | refine Ext.trans ?_ (by assumption)))
  · have e0 : (z != 0) = true := by simpa using hz
    go_enter Tryz.func79, Tryz.ntmps79
    go_wp2_with (first | (go_at_call 93; refine Calls.mono (CN.out _ ?_) ?_; (exact h1.ext (by repeat (first | exact Ext.refl _ | assumption | refine Ext.alloc ?_ _ | refine Ext.drew ?_ | refine Ext.drewN ?_ _ | (refine Ext.setCell ?_ (by simp <;> omega) _) | refine Ext.trans ?_ (by assumption)))); rintro e w1 ⟨rfl, hb⟩; obtain ⟨hc, hf⟩ := hb.rules))
    go_ret
    exact Ret.mk' (by rw [HV.out]; simp [hz]) (by repeat (first | exact Ext.refl _ | assumption | refine Ext.alloc ?_ _ | refine Ext.drew ?_ | refine Ext.drewN ?_ _ | (refine Ext.setCell ?_ (by simp <;> omega) _) | refine Ext.trans ?_ (by assumption)))

theorem knownErr_eq (ss : List TS) (n : Nat) (x : TS) (h : n ≤ ss.length) : knownErr (lookN ss n) (lookT ss n) x = sortErr ss n x := by
  unfold knownErr sortErr nameE textE textErr
  rw [lookN_some ss x.name n h, lookT_some ss x.text n h]
  by_cases h1 : nameB x.name = false
  · rw [if_pos h1, if_pos h1]; rfl
  · rw [if_neg h1, if_neg h1]
    by_cases h2 : hasName ss n x.name = true
    · rw [if_pos h2, if_pos h2]; rfl
    · rw [if_neg h2, if_neg h2]; rfl
end Go.Proofs.YtfbdklminljecaaGreatDoor
namespace Go.Proofs.YtfbdklminljecaaGreatDoor
open Go.RowKit

def putF (f : List UInt8 → Option Int) (s : ByteArray) (z : Int) : List UInt8 → Option Int := fun t => if t = s.data.toList then some z else f t
def putT (g : List UInt8 → Option Int) (x : TS) (z : Int) : List UInt8 → Option Int := if x.kind = 3 then g else putF g x.text z
def AddPost (b1 b2 n : Nat) (f g : List UInt8 → Option Int) (w : World) (e : Ending) (w' : World) : Prop :=
  e = .returned (.tuple #[]) ∧ KM w' b1 n f ∧ KM w' b2 n g ∧ But [b1, b2] w w'
theorem cell_grown {w w' : World} {r k i : Nat} (hg : w.grownBy w' (some r)) (hk : k < w.heap.size) (hne : k ≠ r) : w'.cell? ⟨k, i, none⟩ = w.cell? ⟨k, i, none⟩ :=
  World.cell?_of_block (hg.block k hk (by simpa using hne))

set_option maxHeartbeats 2000000 in
theorem add_any (b1 b2 n : Nat) (f g : List UInt8 → Option Int) (x : TS) (z : Int) (w : World) (h1 : KM w b1 n f) (h2 : KM w b2 n g) (hne : b1 ≠ b2) (hn : x.name.size ≤ maxLen) (ht : x.text.size ≤ maxLen) (hz : I64 z) (hm : n + 1 < maxLen) :
    Calls Tryz.prog 80 #[knownV b1 b2, x.val, .int .i64 z] w (AddPost b1 b2 (n + 1) (putF f x.name z) (putT g x z) w) := by
  obtain ⟨nm, tx, k, wd⟩ := x
  simp only [TS.val, knownV] at *
  have l1 := h1.lt
  have l2 := h2.lt
  have hW : Ext w ((w.alloc (.cells #[.map (some b1), .map (some b2)] 123)).alloc (.cells #[.string nm, .string tx, .int .i64 k, .int .i64 wd] 57)) := (by repeat (first | exact Ext.refl _ | assumption | refine Ext.alloc ?_ _ | refine Ext.drew ?_ | refine Ext.drewN ?_ _ | (refine Ext.setCell ?_ (by simp <;> omega) _) | refine Ext.trans ?_ (by assumption)))
  obtain ⟨w1, hrun1, k1, g1⟩ := (h1.ext hW).put nm hn z hz (by omega)
  have B1 := (But.of_ext hW [b1, b2]).trans (But.grown (L := [b1, b2]) g1 (by simp))
  have k2 : KM w1 b2 n g := (h2.ext hW).kept g1 (by simp; omega)
  have a0 : Blk w1 w.heap.size 123 #[.map (some b1), .map (some b2)] := (((Blk.new w _ _).alloc _).but (But.grown (L := [b1, b2]) g1 (by simp)) (by simp; omega))
  have a1 : Blk w1 (w.heap.size + 1) 57 #[.string nm, .string tx, .int .i64 k, .int .i64 wd] := by
    have h := Blk.new (w.alloc (.cells #[.map (some b1), .map (some b2)] 123)) 57 #[.string nm, .string tx, .int .i64 k, .int .i64 wd]
    rw [World.size_alloc] at h
    exact h.but (But.grown (L := [b1, b2]) g1 (by simp)) (by simp; omega)
  have d0 := a0.cell 1 _ rfl
  have d1 := a1.cell 1 _ rfl
  have d2 := a1.cell 2 _ rfl
  clear a0 a1 hW
  have HT : Hid (putT g ⟨nm, tx, k, wd⟩ z = if k = 3 then g else putF g tx z) := Lib.hid rfl
  generalize putT g ⟨nm, tx, k, wd⟩ z = g' at *
  have K1 := Lib.hid k1; have K2 := Lib.hid k2; have b1' := Lib.hid B1; clear k1 k2 B1 g1 h1 h2
  by_cases h3 : k = 3
  · subst h3
    go_enter Tryz.func80, Tryz.ntmps80
    go_wp2
    go_end0
    exact ⟨rfl, K1.out, by rw [HT.out]; simpa using K2.out.mono (by omega), b1'.out⟩
  · have e3 : (k != 3) = true := by simpa using h3
    obtain ⟨w2, hrun2, k3, g2⟩ := K2.out.put tx ht z hz (by omega)
    have B2 := Lib.hid (b1'.out.trans (But.grown (L := [b1, b2]) g2 (by simp)))
    have K4 := Lib.hid (K1.out.kept g2 (by simp; omega))
    have K3 := Lib.hid k3; clear k3 g2
    go_enter Tryz.func80, Tryz.ntmps80
    go_wp2
    go_end0
    exact ⟨rfl, K4.out, by rw [HT.out, if_neg h3]; exact K3.out, B2.out⟩
end Go.Proofs.YtfbdklminljecaaGreatDoor
namespace Go.Proofs.YtfbdklminljecaaGreatDoor
open Go.RowKit

def ReadPost (f : FT) (n z : Int) (w : World) (e : Ending) (w' : World) : Prop :=
  ∃ b1 b2, e = .returned (.tuple #[knownV b1 b2, .int .i64 n, .int .i64 z]) ∧ Ext w w' ∧ (z = 0 → KM w' b1 f.sorts.length (lookN f.sorts f.sorts.length) ∧ KM w' b2 f.sorts.length (lookT f.sorts f.sorts.length))
set_option maxHeartbeats 4000000 in
set_option maxRecDepth 100000 in
theorem read_early (f : FT) (A : Option Addr) (c : Nat) (w : World) (hf : FR w A c f) (hbad : nameB f.name = false ∨ ¬ (1 ≤ f.body ∧ f.body ≤ 144) ∨ f.sorts.length = 0 ∨ 120 < f.sorts.length) :
    Calls Tryz.prog 62 #[f.val A c] w (ReadPost f (chk f).1 (chk f).2 w) := by
  obtain ⟨name, body, ss⟩ := f
  have hnm := hf.nm
  have hbig := hf.rt.big
  simp only [FT.val] at *
  by_cases h1 : nameB name = false
  · have HC : Hid (chk ⟨name, body, ss⟩ = (0, 4)) := Lib.hid (by unfold chk; simp [h1])
    rw [HC.out]
    have HN := Lib.hid h1; clear h1 hbad hf
    go_enter Tryz.func62, Tryz.ntmps62
    go_wp2_with (first | (go_at_call 77; refine Calls.mono (newKnown_any _) ?_; rintro e w1 ⟨b1, b2, rfl, hne, l1, l2, k1, k2, hb⟩; unfold knownV; have F1 := ((Blk.new _ _ _).alloc _).ext hb; have R1 := (Blk.new1 _ _ _ _).ext hb; have l1' := k1.lt; have l2' := k2.lt; obtain ⟨f0, f1, f2, fl⟩ := F1.c3; obtain ⟨r0, r1, r2, r3, rl⟩ := R1.c2) | (go_at_call 78; refine Calls.mono (isName_any _ _ hnm) ?_; rw [HN.out]; rintro e w2 ⟨rfl, hb2⟩; have F2 := (F1.alloc _).ext hb2; have R2 := (R1.alloc _).ext hb2; have K2 := (Blk.new _ _ _).ext hb2; obtain ⟨f0', f1', f2', fl'⟩ := F2.c3; obtain ⟨r0', r1', r2', r3', rl'⟩ := R2.c2; obtain ⟨k0', k1', k2', k3', kl'⟩ := K2.c2))
    refine bodyPost_ret (v := .tuple #[knownV b1 b2, .int .i64 0, .int .i64 4]) (by simp [results, Tryz.results62, go_sem, knownV, r0', r1']) rfl ⟨b1, b2, rfl, ?_, fun h => absurd h (by omega)⟩
    exact Ext.setCell (Ext.setCell (Ext.trans (Ext.alloc (Ext.trans (by repeat (first | exact Ext.refl _ | assumption | refine Ext.alloc ?_ _ | refine Ext.drew ?_ | refine Ext.drewN ?_ _ | (refine Ext.setCell ?_ (by simp <;> omega) _) | refine Ext.trans ?_ (by assumption))) hb) _) hb2) (by simp) _) (by simp) _
  have HN : Hid (nameB name = true) := Lib.hid (by simpa using h1)
  have e1 : ¬ nameB name = false := h1
  by_cases hb0 : 1 ≤ body ∧ body ≤ 144
  · rcases (show ss.length = 0 ∨ 120 < ss.length by rcases hbad with h | h | h | h; exact absurd h h1; exact absurd hb0 h; exact .inl h; exact .inr h) with hl | hl
    · have HC : Hid (chk ⟨name, body, ss⟩ = (0, 10)) := Lib.hid (by unfold chk; simp [e1, hb0, hl])
      rw [HC.out]
      clear h1 e1 hbad hf HC
      rw [hl]; clear hl hbig
      go_enter Tryz.func62, Tryz.ntmps62
      go_wp2_with (first | (go_at_call 66; refine Calls.mono (within_yes _ _ _ _ ?_) ?_; (omega); rintro e w1 ⟨rfl, rfl⟩) | (go_at_call 66; refine Calls.mono (within_no _ _ _ _ ?_) ?_; (omega); rintro e w1 ⟨rfl, rfl⟩) | (go_at_call 77; refine Calls.mono (newKnown_any _) ?_; rintro e w1 ⟨b1, b2, rfl, hne, l1, l2, k1, k2, hb⟩; unfold knownV; have F1 := ((Blk.new _ _ _).alloc _).ext hb; have R1 := (Blk.new1 _ _ _ _).ext hb; have l1' := k1.lt; have l2' := k2.lt; obtain ⟨f0, f1, f2, fl⟩ := F1.c3; obtain ⟨r0, r1, r2, r3, rl⟩ := R1.c2) | (go_at_call 78; refine Calls.mono (isName_any _ _ hnm) ?_; rw [HN.out]; rintro e w2 ⟨rfl, hb2⟩; have F2 := (F1.alloc _).ext hb2; have R2 := (R1.alloc _).ext hb2; have K2 := (Blk.new _ _ _).ext hb2; obtain ⟨f0', f1', f2', fl'⟩ := F2.c3; obtain ⟨r0', r1', r2', r3', rl'⟩ := R2.c2; obtain ⟨k0', k1', k2', k3', kl'⟩ := K2.c2))
      refine bodyPost_ret (v := .tuple #[knownV b1 b2, .int .i64 0, .int .i64 10]) (by simp [results, Tryz.results62, go_sem, knownV, r0', r1']) rfl ⟨b1, b2, rfl, ?_, fun h => absurd h (by omega)⟩
      exact Ext.setCell (Ext.setCell (Ext.trans (Ext.alloc (Ext.trans (by repeat (first | exact Ext.refl _ | assumption | refine Ext.alloc ?_ _ | refine Ext.drew ?_ | refine Ext.drewN ?_ _ | (refine Ext.setCell ?_ (by simp <;> omega) _) | refine Ext.trans ?_ (by assumption))) hb) _) hb2) (by simp) _) (by simp) _
    · have HC : Hid (chk ⟨name, body, ss⟩ = (0, 8)) := Lib.hid (by unfold chk; simp only [if_neg e1, if_neg (show ¬ ¬ (1 ≤ body ∧ body ≤ 144) by simpa using hb0), if_neg (show ¬ ss.length = 0 by omega), if_pos hl])
      rw [HC.out]
      have hl1 : (120 : Int) < (ss.length : Int) := by omega
      have hl2 : ((ss.length : Int) == 0) = false := (by rw [beq_eq_false_iff_ne]; omega)
      clear h1 e1 hbad hf HC
      go_enter Tryz.func62, Tryz.ntmps62
      go_wp2_with (first | (go_at_call 66; refine Calls.mono (within_yes _ _ _ _ ?_) ?_; (omega); rintro e w1 ⟨rfl, rfl⟩) | (go_at_call 66; refine Calls.mono (within_no _ _ _ _ ?_) ?_; (omega); rintro e w1 ⟨rfl, rfl⟩) | (go_at_call 77; refine Calls.mono (newKnown_any _) ?_; rintro e w1 ⟨b1, b2, rfl, hne, l1, l2, k1, k2, hb⟩; unfold knownV; have F1 := ((Blk.new _ _ _).alloc _).ext hb; have R1 := (Blk.new1 _ _ _ _).ext hb; have l1' := k1.lt; have l2' := k2.lt; obtain ⟨f0, f1, f2, fl⟩ := F1.c3; obtain ⟨r0, r1, r2, r3, rl⟩ := R1.c2) | (go_at_call 78; refine Calls.mono (isName_any _ _ hnm) ?_; rw [HN.out]; rintro e w2 ⟨rfl, hb2⟩; have F2 := (F1.alloc _).ext hb2; have R2 := (R1.alloc _).ext hb2; have K2 := (Blk.new _ _ _).ext hb2; obtain ⟨f0', f1', f2', fl'⟩ := F2.c3; obtain ⟨r0', r1', r2', r3', rl'⟩ := R2.c2; obtain ⟨k0', k1', k2', k3', kl'⟩ := K2.c2))
      refine bodyPost_ret (v := .tuple #[knownV b1 b2, .int .i64 0, .int .i64 8]) (by simp [results, Tryz.results62, go_sem, knownV, r0', r1']) rfl ⟨b1, b2, rfl, ?_, fun h => absurd h (by omega)⟩
      exact Ext.setCell (Ext.setCell (Ext.trans (Ext.alloc (Ext.trans (by repeat (first | exact Ext.refl _ | assumption | refine Ext.alloc ?_ _ | refine Ext.drew ?_ | refine Ext.drewN ?_ _ | (refine Ext.setCell ?_ (by simp <;> omega) _) | refine Ext.trans ?_ (by assumption))) hb) _) hb2) (by simp) _) (by simp) _
  · have HC : Hid (chk ⟨name, body, ss⟩ = (0, 2)) := Lib.hid (by unfold chk; simp only [if_neg e1, if_pos hb0])
    rw [HC.out]
    clear h1 e1 hbad hf HC
    go_enter Tryz.func62, Tryz.ntmps62
    go_wp2_with (first | (go_at_call 66; refine Calls.mono (within_yes _ _ _ _ ?_) ?_; (omega); rintro e w1 ⟨rfl, rfl⟩) | (go_at_call 66; refine Calls.mono (within_no _ _ _ _ ?_) ?_; (omega); rintro e w1 ⟨rfl, rfl⟩) | (go_at_call 77; refine Calls.mono (newKnown_any _) ?_; rintro e w1 ⟨b1, b2, rfl, hne, l1, l2, k1, k2, hb⟩; unfold knownV; have F1 := ((Blk.new _ _ _).alloc _).ext hb; have R1 := (Blk.new1 _ _ _ _).ext hb; have l1' := k1.lt; have l2' := k2.lt; obtain ⟨f0, f1, f2, fl⟩ := F1.c3; obtain ⟨r0, r1, r2, r3, rl⟩ := R1.c2) | (go_at_call 78; refine Calls.mono (isName_any _ _ hnm) ?_; rw [HN.out]; rintro e w2 ⟨rfl, hb2⟩; have F2 := (F1.alloc _).ext hb2; have R2 := (R1.alloc _).ext hb2; have K2 := (Blk.new _ _ _).ext hb2; obtain ⟨f0', f1', f2', fl'⟩ := F2.c3; obtain ⟨r0', r1', r2', r3', rl'⟩ := R2.c2; obtain ⟨k0', k1', k2', k3', kl'⟩ := K2.c2))
    refine bodyPost_ret (v := .tuple #[knownV b1 b2, .int .i64 0, .int .i64 2]) (by simp [results, Tryz.results62, go_sem, knownV, r0', r1']) rfl ⟨b1, b2, rfl, ?_, fun h => absurd h (by omega)⟩
    exact Ext.setCell (Ext.setCell (Ext.trans (Ext.alloc (Ext.trans (by repeat (first | exact Ext.refl _ | assumption | refine Ext.alloc ?_ _ | refine Ext.drew ?_ | refine Ext.drewN ?_ _ | (refine Ext.setCell ?_ (by simp <;> omega) _) | refine Ext.trans ?_ (by assumption))) hb) _) hb2) (by simp) _) (by simp) _

theorem knownErr_sort (ss : List TS) (n : Nat) (x : TS) (h : n ≤ ss.length) : Hid (knownErr (lookN ss n) (lookT ss n) x = sortErr ss n x) := knownErr_eq ss n x h
theorem chk_ok {f : FT} (h1 : nameB f.name = true) (h2 : 1 ≤ f.body ∧ f.body ≤ 144) (h3 : 1 ≤ f.sorts.length) (h4 : f.sorts.length ≤ 120) :
    chk f = match firstBad f.sorts f.sorts.length with | some k => ((k : Int), sortErr f.sorts k (f.sorts.getD k TS.zero)) | none => (0, 0) := by
  unfold chk
  rw [if_neg (by simp [h1]), if_neg (by simpa using h2), if_neg (by omega), if_neg (by omega)]
  all_goals rfl

/-- What holds at each round's head. -/
structure ReadRel (w : World) (F K b1 b2 : Nat) (name : ByteArray) (body : Int) (ss : List TS) (A : Option Addr) (c k : Nat) (wr : World) : Prop where
  ext : Ext w wr
  fb : Blk wr w.heap.size F #[.string name, .int .i64 body, .slice A ss.length c]
  rb : Blk wr (w.heap.size + 1) K #[.map none, .map none]
  m1 : KM wr b1 k (lookN ss k)
  m2 : KM wr b2 k (lookT ss k)

set_option maxHeartbeats 4000000 in
set_option maxRecDepth 100000 in
theorem read_loop (f : FT) (A : Option Addr) (c : Nat) (w : World) (hf : FR w A c f) (h1 : nameB f.name = true) (h2 : 1 ≤ f.body ∧ f.body ≤ 144) (h3 : 1 ≤ f.sorts.length) (h4 : f.sorts.length ≤ 120) :
    Calls Tryz.prog 62 #[f.val A c] w (ReadPost f (chk f).1 (chk f).2 w) := by
  obtain ⟨name, body, ss⟩ := f
  have hnm := hf.nm
  have HC := Lib.hid (chk_ok h1 h2 h3 h4)
  simp only [FT.val] at *
  have HN := Lib.hid h1; clear h1
  have HF := Lib.hid hf; clear hf
  have hl1 : ¬ (120 : Int) < (ss.length : Int) := by omega
  have hl2 : ((ss.length : Int) == 0) = false := (by rw [beq_eq_false_iff_ne]; omega)
  generalize chk ⟨name, body, ss⟩ = ch at *
  go_enter Tryz.func62, Tryz.ntmps62
  go_wp2_with (first | (go_at_call 66; refine Calls.mono (within_yes _ _ _ _ ?_) ?_; (omega); rintro e w1 ⟨rfl, rfl⟩) | (go_at_call 66; refine Calls.mono (within_no _ _ _ _ ?_) ?_; (omega); rintro e w1 ⟨rfl, rfl⟩) | (go_at_call 77; refine Calls.mono (newKnown_any _) ?_; rintro e w1 ⟨b1, b2, rfl, hne, l1, l2, k1, k2, hb⟩; unfold knownV; have F1 := ((Blk.new _ _ _).alloc _).ext hb; have R1 := (Blk.new1 _ _ _ _).ext hb; have l1' := k1.lt; have l2' := k2.lt; obtain ⟨f0, f1, f2, fl⟩ := F1.c3; obtain ⟨r0, r1, r2, r3, rl⟩ := R1.c2) | (go_at_call 78; refine Calls.mono (isName_any _ _ hnm) ?_; rw [HN.out]; rintro e w2 ⟨rfl, hb2⟩; have F2 := (F1.alloc _).ext hb2; have R2 := (R1.alloc _).ext hb2; have K2 := (Blk.new _ _ _).ext hb2; obtain ⟨f0', f1', f2', fl'⟩ := F2.c3; obtain ⟨r0', r1', r2', r3', rl'⟩ := R2.c2; obtain ⟨k0', k1', k2', k3', kl'⟩ := K2.c2))
  have lb1 : w.heap.size + 1 + 1 ≤ b1 := by simpa using l1
  have lb2 : w.heap.size + 1 + 1 ≤ b2 := by simpa using l2
  have hx2 : Ext w w2 := (by repeat (first | exact Ext.refl _ | assumption | refine Ext.alloc ?_ _ | refine Ext.drew ?_ | refine Ext.drewN ?_ _ | (refine Ext.setCell ?_ (by simp <;> omega) _) | refine Ext.trans ?_ (by assumption)))
  have hx1 : w.heap.size + 1 + 1 ≤ w1.heap.size := by have := hb.size; simpa using this
  have hM := w1.heap.size
  clear f0 f1 f2 fl r0 r1 r2 r3 rl F1 R1 l1 l2 f0' f1' f2' fl' r0' r1' r2' r3' rl' k0' k1' k2' k3'
  go_loopw [37] (fun i wr => ∃ k : Nat, k ≤ ss.length ∧ i = .int .i64 k ∧ cleanTo ss k ∧ ReadRel w 24 123 b1 b2 name body ss A c k wr ∧ Blk wr w1.heap.size 123 #[.map (some b1), .map (some b2)]) (fun i _ => ss.length - (intOf i).toNat)
  case atStart => exact ⟨0, Nat.zero_le _, rfl, fun k hk => absurd hk (by omega), ⟨hx2, F2, R2, (k1.ext (Ext.trans (Ext.alloc (Ext.refl _) _) hb2)), (k2.ext (Ext.trans (Ext.alloc (Ext.refl _) _) hb2))⟩, K2⟩
  case round =>
    obtain ⟨k, hk, rfl, hcl, hR, hK⟩ := hrel
    have HCL := Lib.hid hcl; clear hcl
    have HR := Lib.hid hR
    obtain ⟨kc0, kc1, _, _, kl⟩ := hK.c2
    by_cases hlt : k < ss.length
    · obtain ⟨hn, ht, _, _⟩ := HF.out.sz k hlt
      obtain ⟨b, off, rfl, hbw, hcell⟩ := (HF.out.rt.ext hR.ext).2.2 (by show 0 < ss.length; omega)
      obtain ⟨c1, c2, c3, c4⟩ := hcell k hlt
      have HX := Lib.hid (knownErr_eq ss k (ss.getD k TS.zero) hk)
      have HZ : Hid (putF (lookN ss k) (ss.getD k TS.zero).name k = lookN ss (k + 1) ∧ putT (lookT ss k) (ss.getD k TS.zero) k = lookT ss (k + 1)) := Lib.hid ⟨rfl, rfl⟩
      generalize hxd : ss.getD k TS.zero = x at *
      have HXD := Lib.hid hxd; clear hxd
      have HE := Lib.hid hR.ext; have HFb := Lib.hid hR.fb; have HRb := Lib.hid hR.rb; have HM1 := Lib.hid hR.m1; have HM2 := Lib.hid hR.m2; have HKb := Lib.hid hK
      have l1'' := hR.m1.lt
      have l2'' := hR.m2.lt
      clear F2 R2 K2 k1 k2 hb hb2 hK hR hcell
      have cS := fun W a1 a2 => sort_any b1 b2 k (lookN ss k) (lookT ss k) x W a1 a2 hn ht
      have cA := fun W a1 a2 => add_any b1 b2 k (lookN ss k) (lookT ss k) x (k : Int) W a1 a2 hne hn ht (by unfold I64; omega) (by unfold maxLen; omega)
      simp only [knownV, TS.val] at cS cA
      generalize knownErr (lookN ss k) (lookT ss k) x = z at *
      have CS := Lib.hid cS; clear cS
      have CA := Lib.hid cA; clear cA
      by_cases hz : z = 0
      · subst hz
        go_wp2_with (first | (go_at_call 79; refine Calls.mono (CS.out _ ?_ ?_) ?_; (exact HM1.out.ext (by repeat (first | exact Ext.refl _ | assumption | refine Ext.alloc ?_ _ | refine Ext.drew ?_ | refine Ext.drewN ?_ _ | (refine Ext.setCell ?_ (by simp <;> omega) _) | refine Ext.trans ?_ (by assumption)))); (exact HM2.out.ext (by repeat (first | exact Ext.refl _ | assumption | refine Ext.alloc ?_ _ | refine Ext.drew ?_ | refine Ext.drewN ?_ _ | (refine Ext.setCell ?_ (by simp <;> omega) _) | refine Ext.trans ?_ (by assumption)))); rintro e w3 ⟨rfl, hb3⟩; have S3 := (Blk.new _ _ _).ext hb3; have K3 := (HKb.out.alloc _).ext hb3; obtain ⟨kk0, kk1, _, _, _⟩ := K3.c2; obtain ⟨s0, s1, s2, s3, sl⟩ := S3.c4) | (go_at_call 80; refine Calls.mono (CA.out _ ?_ ?_) ?_; (exact HM1.out.ext (Ext.trans (by repeat (first | exact Ext.refl _ | assumption | refine Ext.alloc ?_ _ | refine Ext.drew ?_ | refine Ext.drewN ?_ _ | (refine Ext.setCell ?_ (by simp <;> omega) _) | refine Ext.trans ?_ (by assumption))) hb3)); (exact HM2.out.ext (Ext.trans (by repeat (first | exact Ext.refl _ | assumption | refine Ext.alloc ?_ _ | refine Ext.drew ?_ | refine Ext.drewN ?_ _ | (refine Ext.setCell ?_ (by simp <;> omega) _) | refine Ext.trans ?_ (by assumption))) hb3)); rintro e w4 ⟨rfl, m1, m2, hB⟩))
        go_roundw
        case rel =>
          rw [HZ.out.1] at m1; rw [HZ.out.2] at m2
          have hy : Ext wr w3 := Ext.trans (by repeat (first | exact Ext.refl _ | assumption | refine Ext.alloc ?_ _ | refine Ext.drew ?_ | refine Ext.drewN ?_ _ | (refine Ext.setCell ?_ (by simp <;> omega) _) | refine Ext.trans ?_ (by assumption))) hb3
          refine ⟨k + 1, by omega, by go_num, cleanTo_succ HCL.out (by rw [HXD.out]; exact HX.out.symm), ⟨But.ext (HE.out.trans hy) hB (by simp; omega), (HFb.out.ext hy).but hB (by simp; omega), (HRb.out.ext hy).but hB (by simp; omega), m1, m2⟩, (HKb.out.ext hy).but hB (by simp; omega)⟩
        case measure => simp [intOf]; omega
      · have e0 : (z != 0) = true := by simpa using hz
        obtain ⟨r0, r1, r2, r3, rl⟩ := HRb.out.c2
        go_wp2_with (first | (go_at_call 79; refine Calls.mono (CS.out _ ?_ ?_) ?_; (exact HM1.out.ext (by repeat (first | exact Ext.refl _ | assumption | refine Ext.alloc ?_ _ | refine Ext.drew ?_ | refine Ext.drewN ?_ _ | (refine Ext.setCell ?_ (by simp <;> omega) _) | refine Ext.trans ?_ (by assumption)))); (exact HM2.out.ext (by repeat (first | exact Ext.refl _ | assumption | refine Ext.alloc ?_ _ | refine Ext.drew ?_ | refine Ext.drewN ?_ _ | (refine Ext.setCell ?_ (by simp <;> omega) _) | refine Ext.trans ?_ (by assumption)))); rintro e w3 ⟨rfl, hb3⟩; have S3 := (Blk.new _ _ _).ext hb3; have K3 := (HKb.out.alloc _).ext hb3; obtain ⟨kk0, kk1, _, _, _⟩ := K3.c2; have R3 := (HRb.out.alloc _).ext hb3; obtain ⟨rr0, rr1, rr2, rr3, _⟩ := R3.c2; obtain ⟨s0, s1, s2, s3, sl⟩ := S3.c4))
        have hch : ch = ((k : Int), z) := by
          rw [HC.out, firstBad_some HCL.out hlt (by rw [HXD.out, ← HX.out]; exact hz)]
          simp only
          rw [HXD.out, ← HX.out]
        rw [hch]
        refine bodyPost_ret (v := .tuple #[knownV b1 b2, .int .i64 k, .int .i64 z]) (by simp [results, Tryz.results62, go_sem, knownV, rr0, rr1]) rfl ⟨b1, b2, rfl, ?_, fun h => absurd h hz⟩
        exact Ext.setCell (Ext.setCell (HE.out.trans (Ext.trans (by repeat (first | exact Ext.refl _ | assumption | refine Ext.alloc ?_ _ | refine Ext.drew ?_ | refine Ext.drewN ?_ _ | (refine Ext.setCell ?_ (by simp <;> omega) _) | refine Ext.trans ?_ (by assumption))) hb3)) (by simp) _) (by simp) _
    · obtain rfl : k = ss.length := by omega
      have hrb := hR.rb
      obtain ⟨r0, r1, r2, r3, rl⟩ := hrb.c2
      clear F2 R2 K2 k1 k2 hb hb2 hK hR hrb
      go_wp2
      have hch : ch = (0, 0) := by rw [HC.out, firstBad_none HCL.out]
      rw [hch]
      refine bodyPost_ret (v := .tuple #[knownV b1 b2, .int .i64 0, .int .i64 0]) (by simp [results, Tryz.results62, go_sem, knownV, r0, r1]) rfl ⟨b1, b2, rfl, ?_, fun _ => ⟨?_, ?_⟩⟩
      · exact Ext.setCell (Ext.setCell HR.out.ext (by simp) _) (by simp) _
      · exact (HR.out.m1.but (But.setCell _ _ _) (by simp; omega)).but (But.setCell _ _ _) (by simp; omega)
      · exact (HR.out.m2.but (But.setCell _ _ _) (by simp; omega)).but (But.setCell _ _ _) (by simp; omega)

theorem read_any (f : FT) (A : Option Addr) (c : Nat) (w : World) (hf : FR w A c f) :
    Calls Tryz.prog 62 #[f.val A c] w (ReadPost f (chk f).1 (chk f).2 w) := by
  by_cases h1 : nameB f.name = true
  · by_cases h2 : 1 ≤ f.body ∧ f.body ≤ 144
    · by_cases h3 : 1 ≤ f.sorts.length ∧ f.sorts.length ≤ 120
      · exact read_loop f A c w hf h1 h2 h3.1 h3.2
      · exact read_early f A c w hf (by omega)
    · exact read_early f A c w hf (by omega)
  · exact read_early f A c w hf (.inl (by simpa using h1))

/-- What CheckFount returns. -/
def ChkV (f : FT) : Value := .tuple #[.int .i64 (chk f).1, .int .i64 (chk f).2]
set_option maxHeartbeats 1000000 in
theorem checkFount_any (f : FT) (A : Option Addr) (c : Nat) (w : World) (hf : FR w A c f) :
    Calls Tryz.prog 43 #[f.val A c] w (Ret (ChkV f) w) := by
  have cR := fun W h => read_any f A c W h
  unfold ChkV
  generalize (chk f).1 = n at *
  generalize (chk f).2 = z at *
  have HF := Lib.hid hf; clear hf
  obtain ⟨name, body, ss⟩ := f
  simp only [FT.val] at *
  have CR := Lib.hid cR; clear cR
  go_enter Tryz.func43, Tryz.ntmps43
  go_wp2_with (first | (go_at_call 62; refine Calls.mono (CR.out _ ?_) ?_; (exact HF.out.ext (by repeat (first | exact Ext.refl _ | assumption | refine Ext.alloc ?_ _ | refine Ext.drew ?_ | refine Ext.drewN ?_ _ | (refine Ext.setCell ?_ (by simp <;> omega) _) | refine Ext.trans ?_ (by assumption)))); rintro e w1 ⟨b1, b2, rfl, hb, hk⟩; unfold knownV; have F1 := (Blk.new _ _ _).ext hb; clear hk))
  go_ret2
  exact Ret.mk' rfl (by repeat (first | exact Ext.refl _ | assumption | refine Ext.alloc ?_ _ | refine Ext.drew ?_ | refine Ext.drewN ?_ _ | (refine Ext.setCell ?_ (by simp <;> omega) _) | refine Ext.trans ?_ (by assumption)))
end Go.Proofs.YtfbdklminljecaaGreatDoor
