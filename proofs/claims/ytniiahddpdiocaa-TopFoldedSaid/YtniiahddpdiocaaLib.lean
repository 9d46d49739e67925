/-
  Plain words about worlds, slices and structs for the walks of this seat: no program text in sight.
-/
import Derived.WalkKit
import Derived.WalkLawsBesides
import Derived.Deep.QuietTactic
import Derived.BigQuiet
import Derived.Lib.Hide
import Derived.IntWalk
namespace Go.Proofs.Ytniiahddpdiocaa
open Go.RowKit

/-- What lay in w when it began, lies in w'. -/
def Ext (w w' : World) : Prop := Below w.heap.size w w'
section
variable {a b c w w' : World}
theorem Ext.refl (w : World) : Ext w w := Below.refl _ _
theorem Ext.trans (h : Ext a b) (k : Ext b c) : Ext a c := Below.trans h (Below.mono k h.size)
theorem Ext.alloc (h : Ext a b) (o : Obj) : Ext a (b.alloc o) := Below.alloc h h.size o
theorem Ext.drew (h : Ext a b) : Ext a b.drew := Below.drew h
theorem Ext.drewN (h : Ext a b) (n : Nat) : Ext a (b.drewN n) := ⟨h.os, h.tape, h.output, h.size, h.block⟩
theorem Ext.setCell (h : Ext a b) {p : Addr} (hp : a.heap.size ≤ p.block) (v : Value) : Ext a (b.setCell p v) := Below.setCell h hp v
theorem Ext.size (h : Ext a b) : a.heap.size ≤ b.heap.size := Below.size h
theorem Ext.block (h : Ext a b) {k : Nat} (hk : k < a.heap.size) : b.heap[k]? = a.heap[k]? := Below.block h k hk
theorem Ext.grown {row : Option Nat} (h : Ext a b) (hg : b.grownBy c row) (hr : ∀ k, row = some k → a.heap.size ≤ k) : Ext a c := Below.grown h hg h.size hr
theorem Ext.below (h : Ext a b) : Below a.heap.size a b := h
theorem Below.ext (h : Below a.heap.size a b) : Ext a b := h
theorem Ext.cell (h : Ext a b) {p : Addr} (hp : p.block < a.heap.size) : b.cell? p = a.cell? p := Below.cell h hp
/-- Cells and marks below, as rules of the walk. -/
theorem Ext.rules (h : Ext a b) : (∀ k o, k < a.heap.size → b.cell? ⟨k, o, none⟩ = a.cell? ⟨k, o, none⟩) ∧ (∀ k o, k < a.heap.size → b.frozen? ⟨k, o, none⟩ = a.frozen? ⟨k, o, none⟩) :=
  ⟨fun k o hk => Below.cell (p := ⟨k, o, none⟩) h hk, fun k o hk => Below.frozen (p := ⟨k, o, none⟩) h hk⟩
end

/-- The call returns V; whatever lay, lies. -/
def Ret (V : Value) (w : World) (e : Ending) (w' : World) : Prop := e = .returned V ∧ Ext w w'
theorem Ret.mk' {V V' : Value} {w w' : World} (h : V' = V) (hx : Ext w w') : Ret V w (.returned V') w' := ⟨by rw [h], hx⟩
/-- The call returns V and leaves the world as it is. -/
def Same (V : Value) (w : World) (e : Ending) (w' : World) : Prop := e = .returned V ∧ w = w'

/-- Numbers that an int holds. -/
def I64 (z : Int) : Prop := -9223372036854775808 ≤ z ∧ z ≤ 9223372036854775807

/-- A slice of ints reads as zs. -/
def RI (w : World) (A : Option Addr) (n : Nat) (zs : List Int) : Prop :=
  zs.length = n ∧ n ≤ 9223372036854775807 ∧ (0 < n → ∃ b off, A = some ⟨b, off, none⟩ ∧ b < w.heap.size ∧ ∀ k, k < n → w.cell? ⟨b, off + k, none⟩ = some (.int .i64 (zs.getD k 0)))
/-- A slice of strings reads as ss. -/
def RS (w : World) (A : Option Addr) (n : Nat) (ss : List ByteArray) : Prop :=
  ss.length = n ∧ n ≤ 9223372036854775807 ∧ (0 < n → ∃ b off, A = some ⟨b, off, none⟩ ∧ b < w.heap.size ∧ ∀ k, k < n → w.cell? ⟨b, off + k, none⟩ = some (.string (ss.getD k ByteArray.empty)))
/-- A sort. -/
structure TS where
  name : ByteArray
  text : ByteArray
  kind : Int
  width : Int
def TS.zero : TS := ⟨ByteArray.empty, ByteArray.empty, 0, 0⟩
def TS.val (s : TS) : Value := .agg #[.string s.name, .string s.text, .int .i64 s.kind, .int .i64 s.width]
/-- A slice of sorts reads as ss. -/
def RT (w : World) (A : Option Addr) (n : Nat) (ss : List TS) : Prop :=
  ss.length = n ∧ n ≤ 9223372036854775807 ∧ (0 < n → ∃ b off, A = some ⟨b, off, none⟩ ∧ b < w.heap.size ∧ ∀ k, k < n →
    w.cell? ⟨b, off + k * 4, none⟩ = some (.string (ss.getD k TS.zero).name) ∧ w.cell? ⟨b, off + k * 4 + 1, none⟩ = some (.string (ss.getD k TS.zero).text) ∧
    w.cell? ⟨b, off + k * 4 + 2, none⟩ = some (.int .i64 (ss.getD k TS.zero).kind) ∧ w.cell? ⟨b, off + k * 4 + 3, none⟩ = some (.int .i64 (ss.getD k TS.zero).width))
/-- A fount. -/
structure FT where
  name : ByteArray
  body : Int
  sorts : List TS
def FT.val (f : FT) (A : Option Addr) (c : Nat) : Value := .agg #[.string f.name, .int .i64 f.body, .slice A f.sorts.length c]

section
variable {w w' : World} {A : Option Addr} {n : Nat}
theorem RI.ext {zs : List Int} (h : RI w A n zs) (hx : Ext w w') : RI w' A n zs :=
  ⟨h.1, h.2.1, fun hn => let ⟨b, off, ha, hb, hc⟩ := h.2.2 hn; ⟨b, off, ha, Nat.lt_of_lt_of_le hb hx.size, fun k hk => (hx.cell (p := ⟨b, off + k, none⟩) hb).trans (hc k hk)⟩⟩
theorem RS.ext {zs : List ByteArray} (h : RS w A n zs) (hx : Ext w w') : RS w' A n zs :=
  ⟨h.1, h.2.1, fun hn => let ⟨b, off, ha, hb, hc⟩ := h.2.2 hn; ⟨b, off, ha, Nat.lt_of_lt_of_le hb hx.size, fun k hk => (hx.cell (p := ⟨b, off + k, none⟩) hb).trans (hc k hk)⟩⟩
theorem RT.ext {zs : List TS} (h : RT w A n zs) (hx : Ext w w') : RT w' A n zs :=
  ⟨h.1, h.2.1, fun hn => let ⟨b, off, ha, hb, hc⟩ := h.2.2 hn; ⟨b, off, ha, Nat.lt_of_lt_of_le hb hx.size, fun k hk => by
    rw [hx.cell (p := ⟨b, _, none⟩) hb, hx.cell (p := ⟨b, _, none⟩) hb, hx.cell (p := ⟨b, _, none⟩) hb, hx.cell (p := ⟨b, _, none⟩) hb]; exact hc k hk⟩⟩
theorem RI.len {zs : List Int} (h : RI w A n zs) : zs.length = n := h.1
theorem RI.nil : RI w none 0 [] := ⟨rfl, by omega, fun h => absurd h (by omega)⟩
theorem RI.big {zs : List Int} (h : RI w A n zs) : n ≤ 9223372036854775807 := h.2.1
theorem RT.big {zs : List TS} (h : RT w A n zs) : n ≤ 9223372036854775807 := h.2.1
theorem RS.big {zs : List ByteArray} (h : RS w A n zs) : n ≤ 9223372036854775807 := h.2.1
end

/-- A block that was laid reads so in every later world. -/
theorem boxed {w wr : World} {cs : Array Value} {T : TypeId} (hx : Ext (w.alloc (.cells cs T)) wr) (i : Nat) (v : Value) (hv : cs[i]? = some v) : wr.cell? ⟨w.heap.size, i, none⟩ = some v := by
  rw [hx.cell (p := ⟨w.heap.size, i, none⟩) (by simp), World.cell?_alloc_new, hv]
theorem Ext.of_alloc {w wr : World} {o : Obj} (hx : Ext (w.alloc o) wr) : Ext w wr := ((Ext.refl _).alloc _).trans hx
theorem mul_bd {a b M N : Int} (ha : 0 ≤ a ∧ a ≤ M) (hb : 0 ≤ b ∧ b ≤ N) : 0 ≤ a * b ∧ a * b ≤ M * N :=
  ⟨Int.mul_nonneg ha.1 hb.1, Int.mul_le_mul ha.2 hb.2 hb.1 (Int.le_trans ha.1 ha.2)⟩
theorem Ext.lt_of_alloc {w wr : World} {o : Obj} (hx : Ext (w.alloc o) wr) : w.heap.size < wr.heap.size := by
  have := hx.size; simp at this; omega

/-- Block g is just the cells cs of type t, none frozen. -/
def Blk (w : World) (g : Nat) (t : TypeId) (cs : Array Value) : Prop := w.heap[g]? = some (.cells cs t (0, 0))
section
variable {w w' : World} {g : Nat} {t : TypeId} {cs : Array Value}
theorem Blk.lt (h : Blk w g t cs) : g < w.heap.size := by
  rcases Nat.lt_or_ge g w.heap.size with hlt | hge
  · exact hlt
  · unfold Blk at h; rw [Array.getElem?_eq_none hge] at h; cases h
theorem Blk.cell (h : Blk w g t cs) (i : Nat) (v : Value) (hv : cs[i]? = some v) : w.cell? ⟨g, i, none⟩ = some v := by
  unfold Blk at h; simp [World.cell?, h, hv]
theorem Blk.frozen (h : Blk w g t cs) (i : Nat) : w.frozen? ⟨g, i, none⟩ = false := by
  unfold Blk at h; simp [World.frozen?, h]
theorem Blk.new (w : World) (t : TypeId) (cs : Array Value) : Blk (w.alloc (.cells cs t)) w.heap.size t cs := by
  show (w.heap.push _)[w.heap.size]? = _; simp
theorem Blk.drew (h : Blk w g t cs) : Blk w.drew g t cs := h
theorem Blk.drewN (h : Blk w g t cs) (n : Nat) : Blk (w.drewN n) g t cs := h
theorem Blk.alloc (h : Blk w g t cs) (o : Obj) : Blk (w.alloc o) g t cs := (Below.heap_alloc w o g h.lt).trans h
theorem Blk.set_ (h : Blk w g t cs) (i : Nat) (u : Value) : Blk (w.setCell ⟨g, i, none⟩ u) g t (cs.setIfInBounds i u) := by
  unfold Blk at h ⊢
  simp [World.setCell, Array.getElem?_modify, h]
theorem Blk.far (h : Blk w g t cs) {p : Addr} (hp : g ≠ p.block) (u : Value) : Blk (w.setCell p u) g t cs := (Below.heap_setCell w p u g hp).trans h
theorem Blk.ext (h : Blk w g t cs) (hx : Ext w w') : Blk w' g t cs := (hx.block h.lt).trans h
end
/-- Of what lay, only the blocks in L may have turned. -/
structure But (L : List Nat) (w w' : World) : Prop where
  os : w'.os = w.os
  tape : w'.tape = w.tape
  output : w'.output = w.output
  size : w.heap.size ≤ w'.heap.size
  block : ∀ k, k < w.heap.size → k ∉ L → w'.heap[k]? = w.heap[k]?
section
variable {a b c : World} {L : List Nat}
theorem But.of_ext (h : Ext a b) (L : List Nat) : But L a b := ⟨h.os, h.tape, h.output, h.size, fun _ hk _ => h.block hk⟩
theorem But.trans (h : But L a b) (k : But L b c) : But L a c :=
  ⟨k.os.trans h.os, k.tape.trans h.tape, k.output.trans h.output, Nat.le_trans h.size k.size, fun i hi hn => (k.block i (Nat.lt_of_lt_of_le hi h.size) hn).trans (h.block i hi hn)⟩
theorem But.grown {row : Nat} (h : a.grownBy b (some row)) (hr : row ∈ L) : But L a b :=
  ⟨h.os, h.tape, h.output, h.size, fun i hi hn => h.block i hi (fun e => by injection e with e; subst e; exact hn hr)⟩
theorem But.ext (h : Ext a b) (k : But L b c) (hL : ∀ g ∈ L, a.heap.size ≤ g) : Ext a c :=
  ⟨k.os.trans h.os, k.tape.trans h.tape, k.output.trans h.output, Nat.le_trans h.size k.size, fun i hi => (k.block i (Nat.lt_of_lt_of_le hi h.size) (fun hm => by have := hL i hm; omega)).trans (h.block hi)⟩
theorem Blk.but {g : Nat} {t : TypeId} {cs : Array Value} (h : Blk a g t cs) (k : But L a b) (hg : g ∉ L) : Blk b g t cs := (k.block g h.lt hg).trans h
end

/-- A fount as it lies in memory. -/
structure FR (w : World) (A : Option Addr) (c : Nat) (f : FT) : Prop where
  rt : RT w A f.sorts.length f.sorts
  nm : f.name.size ≤ maxLen
  sz : ∀ k, k < f.sorts.length → (f.sorts.getD k TS.zero).name.size ≤ maxLen ∧ (f.sorts.getD k TS.zero).text.size ≤ maxLen ∧ I64 (f.sorts.getD k TS.zero).kind ∧ I64 (f.sorts.getD k TS.zero).width
  body : I64 f.body
  cap : f.sorts.length ≤ c ∧ c ≤ maxLen
theorem FR.ext {w w' : World} {A : Option Addr} {c : Nat} {f : FT} (h : FR w A c f) (hx : Ext w w') : FR w' A c f := ⟨h.rt.ext hx, h.nm, h.sz, h.body, h.cap⟩

section
variable {w : World} {g : Nat} {t : TypeId} {a b c d : Value}
theorem Blk.new1 (w : World) (o : Obj) (t : TypeId) (cs : Array Value) : Blk ((w.alloc o).alloc (.cells cs t)) (w.heap.size + 1) t cs := by
  have h := Blk.new (w.alloc o) t cs; rwa [World.size_alloc] at h
theorem Blk.new2 (w : World) (o o' : Obj) (t : TypeId) (cs : Array Value) : Blk (((w.alloc o).alloc o').alloc (.cells cs t)) (w.heap.size + 1 + 1) t cs := by
  have h := Blk.new ((w.alloc o).alloc o') t cs; rwa [World.size_alloc, World.size_alloc] at h
theorem Blk.c1 (h : Blk w g t #[a]) : w.cell? ⟨g, 0, none⟩ = some a ∧ w.frozen? ⟨g, 0, none⟩ = false ∧ g < w.heap.size := ⟨h.cell 0 _ rfl, h.frozen 0, h.lt⟩
theorem Blk.c2 (h : Blk w g t #[a, b]) : w.cell? ⟨g, 0, none⟩ = some a ∧ w.cell? ⟨g, 1, none⟩ = some b ∧ w.frozen? ⟨g, 0, none⟩ = false ∧ w.frozen? ⟨g, 1, none⟩ = false ∧ g < w.heap.size :=
  ⟨h.cell 0 _ rfl, h.cell 1 _ rfl, h.frozen 0, h.frozen 1, h.lt⟩
theorem Blk.c3 (h : Blk w g t #[a, b, c]) : w.cell? ⟨g, 0, none⟩ = some a ∧ w.cell? ⟨g, 1, none⟩ = some b ∧ w.cell? ⟨g, 2, none⟩ = some c ∧ g < w.heap.size :=
  ⟨h.cell 0 _ rfl, h.cell 1 _ rfl, h.cell 2 _ rfl, h.lt⟩
theorem Blk.c4 (h : Blk w g t #[a, b, c, d]) : w.cell? ⟨g, 0, none⟩ = some a ∧ w.cell? ⟨g, 1, none⟩ = some b ∧ w.cell? ⟨g, 2, none⟩ = some c ∧ w.cell? ⟨g, 3, none⟩ = some d ∧ g < w.heap.size :=
  ⟨h.cell 0 _ rfl, h.cell 1 _ rfl, h.cell 2 _ rfl, h.cell 3 _ rfl, h.lt⟩
end

theorem But.setCell (w : World) (p : Addr) (v : Value) : But [p.block] w (w.setCell p v) :=
  ⟨rfl, rfl, rfl, by simp [World.setCell], fun k _ hn => Below.heap_setCell w p v k (by simpa using hn)⟩
end Go.Proofs.Ytniiahddpdiocaa
