/-
  Plain words about worlds, slices and structs for the walks of this seat: no program text in sight.
  A map from strings to ints that the call itself has made, told by a plain function.
  What the functions of chapter 1 compute, in plain words: no program in sight.
  Walks: whether a text is a name (the program's and the reference's).
  Walk: the program's isName.
  Walks: what sorts of a kind print (the program's prints).
-/
import Derived.WalkKit
import Derived.WalkLawsBesides
import Derived.Deep.QuietTactic
import Derived.BigQuiet
import Derived.Lib.Hide
import Derived.IntWalk
import Derived.Test.YtccdnieoaejgdaaGreatDoorProg
import Derived.Maps.Own
import Derived.Maps.OwnOps
import Derived.Maps.Views
import Derived.OwnWalk
import Derived.Test.YtccdnieoaejgdaaGreatDoorShelf
import Derived.Shelf.GgClosure.StringsIndexFunc
set_option linter.unusedVariables false
set_option linter.unusedSimpArgs false
set_option linter.unusedSectionVars false
namespace Go.Proofs.YtccdnieoaejgdaaGreatDoor
open Go.RowKit

/-- What lay in w when it began, lies in w'. -/
def Ext (w w' : World) : Prop := Below w.heap.size w w'
section
variable {a b c w w' : World}
theorem Ext.refl (w : World) : Ext w w := Below.refl _ _
theorem Ext.trans (h : Ext a b) (k : Ext b c) : Ext a c := Below.trans h (Below.mono k h.size)
theorem Ext.alloc (h : Ext a b) (o : Obj) : Ext a (b.alloc o) := Below.alloc h h.size o
theorem Ext.drew (h : Ext a b) : Ext a b.drew := Below.drew h
theorem Ext.drewN (h : Ext a b) (n : Nat) : Ext a (b.drewN n) := ⟨h.os, h.tape, h.output, h.size, h.block⟩
theorem Ext.setCell (h : Ext a b) {p : Addr} (hp : a.heap.size ≤ p.block) (v : Value) : Ext a (b.setCell p v) := Below.setCell h hp v
theorem Ext.size (h : Ext a b) : a.heap.size ≤ b.heap.size := Below.size h
theorem Ext.block (h : Ext a b) {k : Nat} (hk : k < a.heap.size) : b.heap[k]? = a.heap[k]? := Below.block h k hk
theorem Ext.grown {row : Option Nat} (h : Ext a b) (hg : b.grownBy c row) (hr : ∀ k, row = some k → a.heap.size ≤ k) : Ext a c := Below.grown h hg h.size hr
theorem Ext.cell (h : Ext a b) {p : Addr} (hp : p.block < a.heap.size) : b.cell? p = a.cell? p := Below.cell h hp
/-- Cells and marks below, as rules of the walk. -/
theorem Ext.rules (h : Ext a b) : (∀ k o, k < a.heap.size → b.cell? ⟨k, o, none⟩ = a.cell? ⟨k, o, none⟩) ∧ (∀ k o, k < a.heap.size → b.frozen? ⟨k, o, none⟩ = a.frozen? ⟨k, o, none⟩) :=
  ⟨fun k o hk => Below.cell (p := ⟨k, o, none⟩) h hk, fun k o hk => Below.frozen (p := ⟨k, o, none⟩) h hk⟩
end

/-- The call returns V; whatever lay, lies. -/
def Ret (V : Value) (w : World) (e : Ending) (w' : World) : Prop := e = .returned V ∧ Ext w w'
theorem Ret.mk' {V V' : Value} {w w' : World} (h : V' = V) (hx : Ext w w') : Ret V w (.returned V') w' := ⟨by rw [h], hx⟩
/-- The call returns V and leaves the world as it is. -/
def Same (V : Value) (w : World) (e : Ending) (w' : World) : Prop := e = .returned V ∧ w = w'

/-- Numbers that an int holds. -/
def I64 (z : Int) : Prop := -9223372036854775808 ≤ z ∧ z ≤ 9223372036854775807

/-- A slice of ints reads as zs. -/
def RI (w : World) (A : Option Addr) (n : Nat) (zs : List Int) : Prop :=
  zs.length = n ∧ n ≤ 9223372036854775807 ∧ (0 < n → ∃ b off, A = some ⟨b, off, none⟩ ∧ b < w.heap.size ∧ ∀ k, k < n → w.cell? ⟨b, off + k, none⟩ = some (.int .i64 (zs.getD k 0)))
/-- A slice of strings reads as ss. -/
def RS (w : World) (A : Option Addr) (n : Nat) (ss : List ByteArray) : Prop :=
  ss.length = n ∧ n ≤ 9223372036854775807 ∧ (0 < n → ∃ b off, A = some ⟨b, off, none⟩ ∧ b < w.heap.size ∧ ∀ k, k < n → w.cell? ⟨b, off + k, none⟩ = some (.string (ss.getD k ByteArray.empty)))
/-- A sort. -/
structure TS where
  name : ByteArray
  text : ByteArray
  kind : Int
  width : Int
def TS.zero : TS := ⟨ByteArray.empty, ByteArray.empty, 0, 0⟩
def TS.val (s : TS) : Value := .agg #[.string s.name, .string s.text, .int .i64 s.kind, .int .i64 s.width]
/-- A slice of sorts reads as ss. -/
def RT (w : World) (A : Option Addr) (n : Nat) (ss : List TS) : Prop :=
  ss.length = n ∧ n ≤ 9223372036854775807 ∧ (0 < n → ∃ b off, A = some ⟨b, off, none⟩ ∧ b < w.heap.size ∧ ∀ k, k < n →
    w.cell? ⟨b, off + k * 4, none⟩ = some (.string (ss.getD k TS.zero).name) ∧ w.cell? ⟨b, off + k * 4 + 1, none⟩ = some (.string (ss.getD k TS.zero).text) ∧
    w.cell? ⟨b, off + k * 4 + 2, none⟩ = some (.int .i64 (ss.getD k TS.zero).kind) ∧ w.cell? ⟨b, off + k * 4 + 3, none⟩ = some (.int .i64 (ss.getD k TS.zero).width))
/-- A fount. -/
structure FT where
  name : ByteArray
  body : Int
  sorts : List TS
def FT.val (f : FT) (A : Option Addr) (c : Nat) : Value := .agg #[.string f.name, .int .i64 f.body, .slice A f.sorts.length c]

section
variable {w w' : World} {A : Option Addr} {n : Nat}
theorem RI.ext {zs : List Int} (h : RI w A n zs) (hx : Ext w w') : RI w' A n zs :=
  ⟨h.1, h.2.1, fun hn => let ⟨b, off, ha, hb, hc⟩ := h.2.2 hn; ⟨b, off, ha, Nat.lt_of_lt_of_le hb hx.size, fun k hk => (hx.cell (p := ⟨b, off + k, none⟩) hb).trans (hc k hk)⟩⟩
theorem RS.ext {zs : List ByteArray} (h : RS w A n zs) (hx : Ext w w') : RS w' A n zs :=
  ⟨h.1, h.2.1, fun hn => let ⟨b, off, ha, hb, hc⟩ := h.2.2 hn; ⟨b, off, ha, Nat.lt_of_lt_of_le hb hx.size, fun k hk => (hx.cell (p := ⟨b, off + k, none⟩) hb).trans (hc k hk)⟩⟩
theorem RT.ext {zs : List TS} (h : RT w A n zs) (hx : Ext w w') : RT w' A n zs :=
  ⟨h.1, h.2.1, fun hn => let ⟨b, off, ha, hb, hc⟩ := h.2.2 hn; ⟨b, off, ha, Nat.lt_of_lt_of_le hb hx.size, fun k hk => by
    rw [hx.cell (p := ⟨b, _, none⟩) hb, hx.cell (p := ⟨b, _, none⟩) hb, hx.cell (p := ⟨b, _, none⟩) hb, hx.cell (p := ⟨b, _, none⟩) hb]; exact hc k hk⟩⟩
theorem RI.nil : RI w none 0 [] := ⟨rfl, by omega, fun h => absurd h (by omega)⟩
theorem RI.big {zs : List Int} (h : RI w A n zs) : n ≤ 9223372036854775807 := h.2.1
theorem RT.big {zs : List TS} (h : RT w A n zs) : n ≤ 9223372036854775807 := h.2.1
theorem RS.big {zs : List ByteArray} (h : RS w A n zs) : n ≤ 9223372036854775807 := h.2.1
end

/-- A block that was laid reads so in every later world. -/
theorem boxed {w wr : World} {cs : Array Value} {T : TypeId} (hx : Ext (w.alloc (.cells cs T)) wr) (i : Nat) (v : Value) (hv : cs[i]? = some v) : wr.cell? ⟨w.heap.size, i, none⟩ = some v := by
  rw [hx.cell (p := ⟨w.heap.size, i, none⟩) (by simp), World.cell?_alloc_new, hv]
/-- Block g is just the cells cs of type t, none frozen. -/
def Blk (w : World) (g : Nat) (t : TypeId) (cs : Array Value) : Prop := w.heap[g]? = some (.cells cs t (0, 0))
section
variable {w w' : World} {g : Nat} {t : TypeId} {cs : Array Value}
theorem Blk.lt (h : Blk w g t cs) : g < w.heap.size := by
  rcases Nat.lt_or_ge g w.heap.size with hlt | hge
  · exact hlt
  · unfold Blk at h; rw [Array.getElem?_eq_none hge] at h; cases h
theorem Blk.cell (h : Blk w g t cs) (i : Nat) (v : Value) (hv : cs[i]? = some v) : w.cell? ⟨g, i, none⟩ = some v := by
  unfold Blk at h; simp [World.cell?, h, hv]
theorem Blk.frozen (h : Blk w g t cs) (i : Nat) : w.frozen? ⟨g, i, none⟩ = false := by
  unfold Blk at h; simp [World.frozen?, h]
theorem Blk.new (w : World) (t : TypeId) (cs : Array Value) : Blk (w.alloc (.cells cs t)) w.heap.size t cs := by
  show (w.heap.push _)[w.heap.size]? = _; simp
theorem Blk.drew (h : Blk w g t cs) : Blk w.drew g t cs := h
theorem Blk.alloc (h : Blk w g t cs) (o : Obj) : Blk (w.alloc o) g t cs := (Below.heap_alloc w o g h.lt).trans h
theorem Blk.set_ (h : Blk w g t cs) (i : Nat) (u : Value) : Blk (w.setCell ⟨g, i, none⟩ u) g t (cs.setIfInBounds i u) := by
  unfold Blk at h ⊢
  simp [World.setCell, Array.getElem?_modify, h]
theorem Blk.far (h : Blk w g t cs) {p : Addr} (hp : g ≠ p.block) (u : Value) : Blk (w.setCell p u) g t cs := (Below.heap_setCell w p u g hp).trans h
theorem Blk.ext (h : Blk w g t cs) (hx : Ext w w') : Blk w' g t cs := (hx.block h.lt).trans h
end
/-- Of what lay, only the blocks in L may have turned. -/
structure But (L : List Nat) (w w' : World) : Prop where
  os : w'.os = w.os
  tape : w'.tape = w.tape
  output : w'.output = w.output
  size : w.heap.size ≤ w'.heap.size
  block : ∀ k, k < w.heap.size → k ∉ L → w'.heap[k]? = w.heap[k]?
section
variable {a b c : World} {L : List Nat}
theorem But.of_ext (h : Ext a b) (L : List Nat) : But L a b := ⟨h.os, h.tape, h.output, h.size, fun _ hk _ => h.block hk⟩
theorem But.trans (h : But L a b) (k : But L b c) : But L a c :=
  ⟨k.os.trans h.os, k.tape.trans h.tape, k.output.trans h.output, Nat.le_trans h.size k.size, fun i hi hn => (k.block i (Nat.lt_of_lt_of_le hi h.size) hn).trans (h.block i hi hn)⟩
theorem But.grown {row : Nat} (h : a.grownBy b (some row)) (hr : row ∈ L) : But L a b :=
  ⟨h.os, h.tape, h.output, h.size, fun i hi hn => h.block i hi (fun e => by injection e with e; subst e; exact hn hr)⟩
theorem But.ext (h : Ext a b) (k : But L b c) (hL : ∀ g ∈ L, a.heap.size ≤ g) : Ext a c :=
  ⟨k.os.trans h.os, k.tape.trans h.tape, k.output.trans h.output, Nat.le_trans h.size k.size, fun i hi => (k.block i (Nat.lt_of_lt_of_le hi h.size) (fun hm => by have := hL i hm; omega)).trans (h.block hi)⟩
theorem Blk.but {g : Nat} {t : TypeId} {cs : Array Value} (h : Blk a g t cs) (k : But L a b) (hg : g ∉ L) : Blk b g t cs := (k.block g h.lt hg).trans h
end

/-- A fount as it lies in memory. -/
structure FR (w : World) (A : Option Addr) (c : Nat) (f : FT) : Prop where
  rt : RT w A f.sorts.length f.sorts
  nm : f.name.size ≤ maxLen
  sz : ∀ k, k < f.sorts.length → (f.sorts.getD k TS.zero).name.size ≤ maxLen ∧ (f.sorts.getD k TS.zero).text.size ≤ maxLen ∧ I64 (f.sorts.getD k TS.zero).kind ∧ I64 (f.sorts.getD k TS.zero).width
  body : I64 f.body
  cap : f.sorts.length ≤ c ∧ c ≤ maxLen
theorem FR.ext {w w' : World} {A : Option Addr} {c : Nat} {f : FT} (h : FR w A c f) (hx : Ext w w') : FR w' A c f := ⟨h.rt.ext hx, h.nm, h.sz, h.body, h.cap⟩

section
variable {w : World} {g : Nat} {t : TypeId} {a b c d : Value}
theorem Blk.new1 (w : World) (o : Obj) (t : TypeId) (cs : Array Value) : Blk ((w.alloc o).alloc (.cells cs t)) (w.heap.size + 1) t cs := by
  have h := Blk.new (w.alloc o) t cs; rwa [World.size_alloc] at h
theorem Blk.new2 (w : World) (o o' : Obj) (t : TypeId) (cs : Array Value) : Blk (((w.alloc o).alloc o').alloc (.cells cs t)) (w.heap.size + 1 + 1) t cs := by
  have h := Blk.new ((w.alloc o).alloc o') t cs; rwa [World.size_alloc, World.size_alloc] at h
theorem Blk.c1 (h : Blk w g t #[a]) : w.cell? ⟨g, 0, none⟩ = some a ∧ w.frozen? ⟨g, 0, none⟩ = false ∧ g < w.heap.size := ⟨h.cell 0 _ rfl, h.frozen 0, h.lt⟩
theorem Blk.c2 (h : Blk w g t #[a, b]) : w.cell? ⟨g, 0, none⟩ = some a ∧ w.cell? ⟨g, 1, none⟩ = some b ∧ w.frozen? ⟨g, 0, none⟩ = false ∧ w.frozen? ⟨g, 1, none⟩ = false ∧ g < w.heap.size :=
  ⟨h.cell 0 _ rfl, h.cell 1 _ rfl, h.frozen 0, h.frozen 1, h.lt⟩
theorem Blk.c3 (h : Blk w g t #[a, b, c]) : w.cell? ⟨g, 0, none⟩ = some a ∧ w.cell? ⟨g, 1, none⟩ = some b ∧ w.cell? ⟨g, 2, none⟩ = some c ∧ g < w.heap.size :=
  ⟨h.cell 0 _ rfl, h.cell 1 _ rfl, h.cell 2 _ rfl, h.lt⟩
theorem Blk.c4 (h : Blk w g t #[a, b, c, d]) : w.cell? ⟨g, 0, none⟩ = some a ∧ w.cell? ⟨g, 1, none⟩ = some b ∧ w.cell? ⟨g, 2, none⟩ = some c ∧ w.cell? ⟨g, 3, none⟩ = some d ∧ g < w.heap.size :=
  ⟨h.cell 0 _ rfl, h.cell 1 _ rfl, h.cell 2 _ rfl, h.cell 3 _ rfl, h.lt⟩
end

theorem But.setCell (w : World) (p : Addr) (v : Value) : But [p.block] w (w.setCell p v) :=
  ⟨rfl, rfl, rfl, by simp [World.setCell], fun k _ hn => Below.heap_setCell w p v k (by simpa using hn)⟩
end Go.Proofs.YtccdnieoaejgdaaGreatDoor
namespace Go.Proofs.YtccdnieoaejgdaaGreatDoor
open Go.RowKit Go.WideMaps Go.Maps

theorem strKeyed : Keyed Tryz.prog 9 := string_keyed Tryz.underlying9
theorem zeroInt (w : World) : (zeroValue 3).run Tryz.prog w = .ok (.int .i64 0) w := by kernel_rfl

/-- Block b is a map of at most n entries that answers as f. -/
def KM (w : World) (b n : Nat) (f : List UInt8 → Option Int) : Prop :=
  ∃ D : DataW Unit, w.ownsMap Tryz.prog 9 (plainElem Tryz.prog 3) b n D ∧ (∃ l, D = .map l) ∧ ∀ s zd, D.atKey (.string s) zd = match f s with | some z => .lit (.int .i64 z) | none => zd

theorem KM.ext {w w' : World} {b n : Nat} {f : List UInt8 → Option Int} (h : KM w b n f) (hx : Ext w w') : KM w' b n f := by
  obtain ⟨D, ho, hm, hf⟩ := h
  have hlt := ho.lt
  obtain ⟨es, clock, hb, F, hs, hD⟩ := ho
  exact ⟨D, ⟨es, clock, (hx.block hlt).trans hb, F, hs, hD⟩, hm, hf⟩
theorem KM.lt {w : World} {b n : Nat} {f : List UInt8 → Option Int} (h : KM w b n f) : b < w.heap.size := by
  obtain ⟨D, ho, _⟩ := h
  exact ho.lt
theorem KM.kept {w w' : World} {b n : Nat} {row : Option Nat} {f : List UInt8 → Option Int} (h : KM w b n f) (hg : w.grownBy w' row) (hne : some b ≠ row) : KM w' b n f := by
  obtain ⟨D, ho, hm, hf⟩ := h
  exact ⟨D, ho.kept hg hne, hm, hf⟩
theorem KM.made (w : World) : KM (w.alloc (.map #[] 0)) w.heap.size 0 (fun _ => none) :=
  ⟨.map [], World.ownsMap_made _ _ _ _, ⟨_, rfl⟩, fun _ _ => rfl⟩
theorem KM.look {w : World} {b n : Nat} {f : List UInt8 → Option Int} (h : KM w b n f) (s : ByteArray) (hs : s.size ≤ maxLen) :
    (Instr.lookup 166 (.map (some b)) (.string s) true).run Tryz.prog w = .ok (.tuple #[.int .i64 ((f s.data.toList).getD 0), .bool (f s.data.toList).isSome]) w := by
  obtain ⟨D, ⟨es, clock, hb, F, _, rfl⟩, _, hf⟩ := h
  have hk := keyOf_string_mk (P := Tryz.prog) Tryz.underlying9 hs
  have h1 := hf s.data.toList .nil
  rcases Maps.fit_look true strKeyed Tryz.underlying166 (zeroInt w) hb F hk with ⟨hrun, _, hat⟩ | ⟨e0, y, _, _, hrun, hRv, hat, _⟩
  · rw [hat] at h1
    cases hfs : f s.data.toList with
    | none => simpa using hrun
    | some z => rw [hfs] at h1; cases h1
  · rw [hat] at h1
    obtain ⟨z, hz, hy, _⟩ := plainElem_int_inv Tryz.underlying3 hRv
    subst hy
    cases hfs : f s.data.toList with
    | none => rw [hfs] at h1; cases h1
    | some z' => rw [hfs] at h1; cases h1; rw [hz] at hrun; simpa using hrun
set_option maxRecDepth 100000 in
theorem KM.put {w : World} {b n : Nat} {f : List UInt8 → Option Int} (h : KM w b n f) (s : ByteArray) (hs : s.size ≤ maxLen) (z : Int) (hz : I64 z) (hn : n < maxLen) :
    ∃ w', (Instr.mapUpdate 166 (.map (some b)) (.string s) (.int .i64 z)).run Tryz.prog w = .ok () w' ∧ KM w' b (n + 1) (fun t => if t = s.data.toList then some z else f t) ∧ w.grownBy w' (some b) := by
  obtain ⟨D, ho, ⟨l, rfl⟩, hf⟩ := h
  have hk := keyOf_string_mk (P := Tryz.prog) Tryz.underlying9 hs
  have hw : (Lit.int .i64 z).wf = true := by unfold I64 at hz; exact WalkArith.wf_i64 (by omega)
  obtain ⟨w', hrun, ho', hg⟩ := ho.update strKeyed Tryz.underlying166 hn hk (plainElem_int Tryz.underlying3 hw)
  refine ⟨w', hrun, ⟨_, ho', ⟨_, rfl⟩, fun t zd => ?_⟩, hg⟩
  by_cases ht : t = s.data.toList
  · subst ht
    simp only [if_pos]
    exact atKey_put_same ⟨_, rfl⟩ (strKeyed.key hk) _ _
  · simp only [if_neg ht]
    rw [atKey_put_other (by intro e; injection e with e; exact ht e)]
    exact hf t zd
theorem KM.but {w w' : World} {b n : Nat} {L : List Nat} {f : List UInt8 → Option Int} (h : KM w b n f) (hk : But L w w') (hb : b ∉ L) : KM w' b n f := by
  obtain ⟨D, ho, hm, hf⟩ := h
  have hlt := ho.lt
  obtain ⟨es, clock, hb', F, hs, hD⟩ := ho
  exact ⟨D, ⟨es, clock, (hk.block b hlt hb).trans hb', F, hs, hD⟩, hm, hf⟩
end Go.Proofs.YtccdnieoaejgdaaGreatDoor
namespace Go.Proofs.YtccdnieoaejgdaaGreatDoor

def letC (c : Int) : Bool := (decide (97 ≤ c) && decide (c ≤ 122)) || (decide (65 ≤ c) && decide (c ≤ 90))
def okC (k : Nat) (c : Int) : Bool := letC c || (k != 0 && (c == 45 || (decide (48 ≤ c) && decide (c ≤ 57))))
theorem okC_true {k : Nat} {c : Int} (h : (97 ≤ c ∧ c ≤ 122) ∨ (65 ≤ c ∧ c ≤ 90) ∨ (k ≠ 0 ∧ (c = 45 ∨ (48 ≤ c ∧ c ≤ 57)))) : okC k c = true := by
  simp [okC, letC]; omega
theorem okC_false {k : Nat} {c : Int} (h : ¬ ((97 ≤ c ∧ c ≤ 122) ∨ (65 ≤ c ∧ c ≤ 90) ∨ (k ≠ 0 ∧ (c = 45 ∨ (48 ≤ c ∧ c ≤ 57))))) : okC k c = false := by
  rw [Bool.eq_false_iff]; intro hh; apply h; simp [okC, letC] at hh; omega
/-- The first n bytes are such as a name has them. -/
def nameTo (s : ByteArray) (n : Nat) : Bool := (List.range n).all fun k => okC k ((s.data.toList.getD k 0).toNat : Int)
def nameB (s : ByteArray) : Bool := decide (1 ≤ s.size) && decide (s.size ≤ 12) && nameTo s s.size
theorem byteAt (s : ByteArray) (k : Nat) (h : k < s.size) : s.data.toList.getD k 0 = s[k] := by
  rw [List.getD_eq_getElem?_getD, List.getElem?_eq_getElem (by simpa using h)]; rfl
theorem nameTo_succ (s : ByteArray) (k : Nat) (h : k < s.size) : nameTo s (k + 1) = (nameTo s k && okC k (s[k].toNat : Int)) := by
  unfold nameTo; rw [List.range_succ, List.all_append]; simp only [List.all_cons, List.all_nil, Bool.and_true]; rw [byteAt s k h]
theorem nameTo_bad (s : ByteArray) (k : Nat) (h : k < s.size) (hb : okC k (s[k].toNat : Int) = false) : nameTo s s.size = false := by
  unfold nameTo; rw [List.all_eq_false]; exact ⟨k, by simpa using h, by rw [byteAt s k h, hb]; simp⟩
theorem nameB_short (s : ByteArray) (h : s.size < 1 ∨ 12 < s.size) : nameB s = false := by
  unfold nameB; rw [Bool.and_eq_false_iff, Bool.and_eq_false_iff]; left; rw [decide_eq_false_iff_not, decide_eq_false_iff_not]; omega
theorem nameB_bad (s : ByteArray) (k : Nat) (h : k < s.size) (hb : okC k (s[k].toNat : Int) = false) : nameB s = false := by
  unfold nameB; rw [nameTo_bad s k h hb, Bool.and_false]
theorem nameB_good (s : ByteArray) (h : 1 ≤ s.size ∧ s.size ≤ 12) (hb : nameTo s s.size = true) : nameB s = true := by
  unfold nameB; simp [h, hb]

/-- What a sort of a kind may print. -/
def printable (s : ByteArray) : Bool := s.data.toList.all fun b => decide (33 ≤ (b.toNat : Int)) && decide ((b.toNat : Int) ≤ 126)
def printLo (k : Int) : Int := if k = 1 then 1 else if k = 2 then 2 else 0
def printHi (k : Int) : Int := if k = 1 then 1 else if k = 2 then 4 else 0
def printsB (k : Int) (s : ByteArray) : Bool := decide (printLo k ≤ (s.size : Int)) && decide ((s.size : Int) ≤ printHi k) && printable s

/-- Some of the first n sorts bears a name; some that is no space prints a text. -/
def hasName (ss : List TS) (n : Nat) (s : ByteArray) : Bool := (ss.take n).any fun x => decide (x.name = s)
def hasText (ss : List TS) (n : Nat) (s : ByteArray) : Bool := (ss.take n).any fun x => decide (x.kind ≠ 3) && decide (x.text = s)
def textErr (ss : List TS) (n : Nat) (k : Int) (t : ByteArray) : Int := if printsB k t = false then 3 else if k ≠ 3 ∧ hasText ss n t = true then 13 else 0
/-- The error of sort n. -/
def sortErr (ss : List TS) (n : Nat) (x : TS) : Int :=
  if nameB x.name = false then 4 else if hasName ss n x.name = true then 5 else if ¬ (1 ≤ x.kind ∧ x.kind ≤ 3) then 15 else if ¬ (1 ≤ x.width ∧ x.width ≤ 100000) then 2 else textErr ss n x.kind x.text
/-- No error among the first n sorts. -/
def cleanTo (ss : List TS) (n : Nat) : Prop := ∀ k, k < n → sortErr ss k (ss.getD k TS.zero) = 0
def firstBad (ss : List TS) : Nat → Option Nat
  | 0 => none
  | n + 1 => match firstBad ss n with | some k => some k | none => if sortErr ss n (ss.getD n TS.zero) = 0 then none else some n
/-- The number of a sort, and the error, of a fount. -/
def chk (f : FT) : Int × Int :=
  if nameB f.name = false then (0, 4) else if ¬ (1 ≤ f.body ∧ f.body ≤ 144) then (0, 2) else if f.sorts.length = 0 then (0, 10) else if 120 < f.sorts.length then (0, 8)
  else match firstBad f.sorts f.sorts.length with | some k => ((k : Int), sortErr f.sorts k (f.sorts.getD k TS.zero)) | none => (0, 0)

theorem firstBad_none {ss : List TS} : ∀ {n : Nat}, cleanTo ss n → firstBad ss n = none
  | 0, _ => rfl
  | n + 1, h => by rw [firstBad, firstBad_none (fun k hk => h k (by omega))]; simp only; rw [if_pos (h n (by omega))]
theorem firstBad_some {ss : List TS} {k : Nat} : ∀ {n : Nat}, cleanTo ss k → k < n → sortErr ss k (ss.getD k TS.zero) ≠ 0 → firstBad ss n = some k
  | n + 1, hc, hk, hb => by
    rw [firstBad]
    by_cases h : k < n
    · rw [firstBad_some hc h hb]
    · obtain rfl : k = n := by omega
      rw [firstBad_none hc]; simp only; rw [if_neg hb]
theorem cleanTo_succ {ss : List TS} {n : Nat} (h : cleanTo ss n) (hb : sortErr ss n (ss.getD n TS.zero) = 0) : cleanTo ss (n + 1) := by
  intro k hk
  by_cases h' : k < n
  · exact h k h'
  · obtain rfl : k = n := by omega
    exact hb

/-- What the maps of the names, and of the texts, answer behind the first n sorts. -/
def lookN (ss : List TS) : Nat → List UInt8 → Option Int
  | 0 => fun _ => none
  | n + 1 => fun s => if s = (ss.getD n TS.zero).name.data.toList then some (n : Int) else lookN ss n s
def lookT (ss : List TS) : Nat → List UInt8 → Option Int
  | 0 => fun _ => none
  | n + 1 => if (ss.getD n TS.zero).kind = 3 then lookT ss n else fun s => if s = (ss.getD n TS.zero).text.data.toList then some (n : Int) else lookT ss n s
theorem bytes_ext {a b : ByteArray} (h : a.data.toList = b.data.toList) : a = b := by
  obtain ⟨⟨a⟩⟩ := a; obtain ⟨⟨b⟩⟩ := b; simpa using h
theorem take_getD (ss : List TS) (n : Nat) (h : n < ss.length) : ss.take (n + 1) = ss.take n ++ [ss.getD n TS.zero] := by
  rw [List.take_succ_eq_append_getElem h, List.getD_eq_getElem?_getD, List.getElem?_eq_getElem h]; rfl
theorem lookN_some (ss : List TS) (s : ByteArray) : ∀ n, n ≤ ss.length → (lookN ss n s.data.toList).isSome = hasName ss n s
  | 0, _ => rfl
  | n + 1, h => by
    have ih := lookN_some ss s n (by omega)
    unfold hasName at ih ⊢
    rw [take_getD ss n (by omega), List.any_append, ← ih]
    simp only [lookN, List.any_cons, List.any_nil, Bool.or_false]
    generalize ss.getD n TS.zero = x
    by_cases e : x.name = s
    · subst e; simp
    · rw [if_neg (fun hh => e (bytes_ext hh).symm), decide_eq_false e, Bool.or_false]
theorem lookT_some (ss : List TS) (s : ByteArray) : ∀ n, n ≤ ss.length → (lookT ss n s.data.toList).isSome = hasText ss n s
  | 0, _ => rfl
  | n + 1, h => by
    have ih := lookT_some ss s n (by omega)
    unfold hasText at ih ⊢
    rw [take_getD ss n (by omega), List.any_append, ← ih]
    simp only [lookT, List.any_cons, List.any_nil, Bool.or_false]
    generalize ss.getD n TS.zero = x
    by_cases hk : x.kind = 3
    · rw [if_pos hk]; simp [hk]
    · rw [if_neg hk]
      by_cases e : x.text = s
      · subst e; simp [hk]
      · rw [if_neg (fun hh => e (bytes_ext hh).symm), decide_eq_false e]; simp
end Go.Proofs.YtccdnieoaejgdaaGreatDoor
namespace Go.Proofs.YtccdnieoaejgdaaGreatDoor
open Go.RowKit

theorem within_any (n lo hi : Int) (w : World) :
    Calls Tryz.prog 132 #[.int .i64 n, .int .i64 lo, .int .i64 hi] w (Same (.bool (decide (lo ≤ n) && decide (n ≤ hi))) w) := by
  go_enter Tryz.func132, Tryz.ntmps132
  go_wp2 <;> go_ret <;> refine ⟨?_, rfl⟩ <;> simp_all
  omega
theorem bWithin_any (n lo hi : Int) (w : World) :
    Calls Tryz.prog 57 #[.int .i64 n, .int .i64 lo, .int .i64 hi] w (Same (.bool (decide (lo ≤ n) && decide (n ≤ hi))) w) := by
  go_enter Tryz.func57, Tryz.ntmps57
  go_wp2 <;> go_ret <;> refine ⟨?_, rfl⟩ <;> simp_all
  omega

theorem within_yes (n lo hi : Int) (w : World) (h : lo ≤ n ∧ n ≤ hi) : Calls Tryz.prog 132 #[.int .i64 n, .int .i64 lo, .int .i64 hi] w (Same (.bool true) w) :=
  (within_any n lo hi w).mono fun _ _ ⟨he, hw⟩ => ⟨by rw [he]; simp [h], hw⟩
theorem within_no (n lo hi : Int) (w : World) (h : ¬ (lo ≤ n ∧ n ≤ hi)) : Calls Tryz.prog 132 #[.int .i64 n, .int .i64 lo, .int .i64 hi] w (Same (.bool false) w) :=
  (within_any n lo hi w).mono fun _ _ ⟨he, hw⟩ => ⟨by rw [he]; congr 2; rw [Bool.and_eq_false_iff, decide_eq_false_iff_not, decide_eq_false_iff_not]; omega, hw⟩
theorem bWithin_yes (n lo hi : Int) (w : World) (h : lo ≤ n ∧ n ≤ hi) : Calls Tryz.prog 57 #[.int .i64 n, .int .i64 lo, .int .i64 hi] w (Same (.bool true) w) :=
  (bWithin_any n lo hi w).mono fun _ _ ⟨he, hw⟩ => ⟨by rw [he]; simp [h], hw⟩
theorem bWithin_no (n lo hi : Int) (w : World) (h : ¬ (lo ≤ n ∧ n ≤ hi)) : Calls Tryz.prog 57 #[.int .i64 n, .int .i64 lo, .int .i64 hi] w (Same (.bool false) w) :=
  (bWithin_any n lo hi w).mono fun _ _ ⟨he, hw⟩ => ⟨by rw [he]; congr 2; rw [Bool.and_eq_false_iff, decide_eq_false_iff_not, decide_eq_false_iff_not]; omega, hw⟩
theorem class_zero (c : Int) : (97 ≤ c ∧ c ≤ 122) ∨ (¬ 97 ≤ c ∧ 65 ≤ c ∧ c ≤ 90) ∨ (¬ 97 ≤ c ∧ ¬ 65 ≤ c) ∨ (¬ 97 ≤ c ∧ 65 ≤ c ∧ ¬ c ≤ 90) ∨ (97 ≤ c ∧ ¬ c ≤ 122 ∧ 65 ≤ c ∧ ¬ c ≤ 90) := by omega
theorem class_pos (c : Int) : (97 ≤ c ∧ c ≤ 122) ∨ (¬ 97 ≤ c ∧ 65 ≤ c ∧ c ≤ 90) ∨ c = 45 ∨ (¬ 97 ≤ c ∧ ¬ 65 ≤ c ∧ ¬ c < 48 ∧ ¬ 57 < c ∧ (c != 45) = true) ∨ (¬ 97 ≤ c ∧ ¬ 65 ≤ c ∧ c < 48 ∧ (c != 45) = true) ∨
    (¬ 97 ≤ c ∧ ¬ 65 ≤ c ∧ ¬ c < 48 ∧ 57 < c ∧ (c != 45) = true) ∨ (¬ 97 ≤ c ∧ 65 ≤ c ∧ ¬ c ≤ 90 ∧ ¬ c < 48 ∧ 57 < c ∧ (c != 45) = true) ∨ (97 ≤ c ∧ ¬ c ≤ 122 ∧ 65 ≤ c ∧ ¬ c ≤ 90 ∧ ¬ c < 48 ∧ 57 < c ∧ (c != 45) = true) := by
  have : (c != 45) = true ↔ c ≠ 45 := by simp
  rw [this]; omega
theorem okC_false' {k : Nat} {c : Int} (hk : 0 < k) (e : (c != 45) = true) (h : ¬ ((97 ≤ c ∧ c ≤ 122) ∨ (65 ≤ c ∧ c ≤ 90) ∨ (48 ≤ c ∧ c ≤ 57))) : okC k c = false := by
  have : c ≠ 45 := by simpa using e
  exact okC_false (by omega)
set_option maxHeartbeats 4000000 in
set_option maxRecDepth 100000 in
theorem bIsName_any (s : ByteArray) (w : World) (hs : s.size ≤ maxLen) :
    Calls Tryz.prog 114 #[.string s] w (Same (.bool (nameB s)) w) := by
  unfold maxLen at hs
  by_cases h0 : s.size < 1 ∨ 12 < s.size
  · have HB := Lib.hid (nameB_short s h0)
    rcases h0 with h0 | h0
    · have h1 : (s.size : Int) < 1 := by omega
      go_enter Tryz.func114, Tryz.ntmps114
      go_wp2
      go_ret
      exact ⟨by rw [HB.out]; rfl, rfl⟩
    · have h1 : (12 : Int) < (s.size : Int) := by omega
      have h2 : ¬ (s.size : Int) < 1 := by omega
      go_enter Tryz.func114, Tryz.ntmps114
      go_wp2
      go_ret
      exact ⟨by rw [HB.out]; rfl, rfl⟩
  · have h1 : ¬ (12 : Int) < (s.size : Int) := by omega
    have h2 : ¬ (s.size : Int) < 1 := by omega
    go_enter Tryz.func114, Tryz.ntmps114
    go_wp2
    go_loop [3] (fun i => ∃ k : Nat, k ≤ s.size ∧ i = .int .i64 k ∧ nameTo s k = true) (fun i => s.size - (intOf i).toNat)
    case atStart => exact ⟨0, Nat.zero_le _, rfl, rfl⟩
    case round =>
      obtain ⟨k, hk, rfl, hn⟩ := hrel
      have HN := Lib.hid hn; clear hn
      by_cases hlt : k < s.size
      · have hsc := nameTo_succ s k hlt
        have hbd := nameB_bad s k hlt
        have b1 : (s[k].toNat : Int) < 256 := by have := s[k].toNat_lt; omega
        have b2 : (0 : Int) ≤ (s[k].toNat : Int) := by omega
        have HS := Lib.hid hsc; clear hsc
        have HB := Lib.hid hbd; clear hbd
        generalize hc : (s[k].toNat : Int) = c at *
        rcases Nat.eq_zero_or_pos k with hk0 | hkp
        · subst hk0
          rcases class_zero c with ⟨h, h'⟩ | ⟨h, h', h1⟩ | ⟨h, h'⟩ | ⟨h, h', h1⟩ | ⟨h, h', h1, h2⟩
          all_goals go_wp2
          all_goals
            first
              | (go_round
                 case rel => exact ⟨1, by omega, by go_num, by rw [HS.out, HN.out, okC_true (by omega)]; rfl⟩
                 case measure => simp [intOf]; omega)
              | (go_ret; exact ⟨by rw [HB.out (okC_false (by omega))]; rfl, rfl⟩)
        · have e0 : ((k : Int) == 0) = false := by simp; omega
          rcases class_pos c with ⟨h, h'⟩ | ⟨h, h', h1⟩ | h | ⟨h, h', h1, h2, h3⟩ | ⟨h, h', h1, h3⟩ | ⟨h, h', h1, h2, h3⟩ | ⟨h, h', h1, h2, h4, h3⟩ | ⟨h, h', h1, h2, h4, h5, h3⟩
          all_goals try subst h
          all_goals go_wp2
          all_goals
            first
              | (go_round
                 case rel => exact ⟨k + 1, by omega, by go_num, by rw [HS.out, HN.out, okC_true (by omega)]; rfl⟩
                 case measure => simp [intOf]; omega)
              | (go_ret; exact ⟨by rw [HB.out (okC_false' hkp h3 (by omega))]; rfl, rfl⟩)
              | skip
          go_ways
      · go_wp2
        go_ret
        have : k = s.size := by omega
        subst this
        exact ⟨by rw [nameB_good s (by omega) HN.out]; rfl, rfl⟩
end Go.Proofs.YtccdnieoaejgdaaGreatDoor
namespace Go.Proofs.YtccdnieoaejgdaaGreatDoor
open Go.RowKit

theorem toList_nil (s : ByteArray) (h : s.size = 0) : s.toList = [] := by
  rw [Go.ByteArray.toList_eq, ← List.length_eq_zero_iff]; simpa using h
theorem toList_ne (s : ByteArray) (h : 0 < s.size) : ¬ s.toList = [] := by
  rw [Go.ByteArray.toList_eq, ← List.length_eq_zero_iff]
  have : s.data.toList.length = s.size := by simp
  omega
/-- The bytes of a text in a block of their own. -/
def Bytes (w : World) (b : Nat) (s : ByteArray) : Prop := ∀ (j : Nat) (h : j < s.size), w.cell? ⟨b, j, none⟩ = some (.int .u8 (s[j].toNat : Int))
theorem Bytes.made (w : World) (s : ByteArray) (cap : Nat) (T : TypeId) (m : Nat × Nat) : Bytes (w.alloc (.cells (bytesRow s cap) T m)) w.heap.size s := by
  intro j h
  rw [World.cell?_alloc_mark]
  exact bytesRow_at s cap j h

set_option maxHeartbeats 4000000 in
set_option maxRecDepth 100000 in
theorem isName_any (s : ByteArray) (w : World) (hs : s.size ≤ maxLen) :
    Calls Tryz.prog 131 #[.string s] w (Ret (.bool (nameB s)) w) := by
  unfold maxLen at hs
  have hcv := fun W => run_bytes_of_string (P := Tryz.prog) W 9 157 5 s Tryz.underlying9 Tryz.underlying157 Tryz.underlying5
  go_enter Tryz.func131, Tryz.ntmps131
  go_wp2
  clear hcv
  go_loopw [9] (fun i wr => ∃ k : Nat, k ≤ s.size ∧ i = .int .i64 k ∧ nameTo s k = true ∧ Bytes wr w.heap.size s ∧ Ext w wr) (fun i _ => s.size - (intOf i).toNat)
  case atStart => exact ⟨0, Nat.zero_le _, rfl, rfl, Bytes.made _ _ _ _ _, (by repeat (first | exact Ext.refl _ | assumption | refine Ext.alloc ?_ _ | refine Ext.drew ?_ | refine Ext.drewN ?_ _ | (refine Ext.setCell ?_ (by simp <;> omega) _) | refine Ext.trans ?_ (by assumption)))⟩
  case round =>
    obtain ⟨k, hk, rfl, hn, hB, hx⟩ := hrel
    have HN := Lib.hid hn; clear hn
    by_cases hlt : k < s.size
    · have hsc := nameTo_succ s k hlt
      have hbd := nameB_bad s k hlt
      have hcell := hB k hlt
      have b1 : (s[k].toNat : Int) < 256 := by have := s[k].toNat_lt; omega
      have b2 : (0 : Int) ≤ (s[k].toNat : Int) := by omega
      have HS := Lib.hid hsc; clear hsc
      have HB := Lib.hid hbd; clear hbd
      generalize hc : (s[k].toNat : Int) = c at *
      rcases Nat.eq_zero_or_pos k with hk0 | hkp
      · subst hk0
        rcases class_zero c with ⟨h, h'⟩ | ⟨h, h', h1⟩ | ⟨h, h'⟩ | ⟨h, h', h1⟩ | ⟨h, h', h1, h2⟩
        all_goals go_wp2
        all_goals
          first
            | (go_roundw
               case rel => exact ⟨1, by omega, by go_num, by rw [HS.out, HN.out, okC_true (by omega)]; rfl, hB, hx⟩
               case measure => simp [intOf]; omega)
            | (go_ret; exact Ret.mk' (by rw [HB.out (okC_false (by omega))]; rfl) hx)
      · have e0 : ((k : Int) == 0) = false := by simp; omega
        rcases class_pos c with ⟨h, h'⟩ | ⟨h, h', h1⟩ | h | ⟨h, h', h1, h2, h3⟩ | ⟨h, h', h1, h3⟩ | ⟨h, h', h1, h2, h3⟩ | ⟨h, h', h1, h2, h4, h3⟩ | ⟨h, h', h1, h2, h4, h5, h3⟩
        all_goals try subst h
        all_goals go_wp2
        all_goals
          first
            | (go_roundw
               case rel => exact ⟨k + 1, by omega, by go_num, by rw [HS.out, HN.out, okC_true (by omega)]; rfl, hB, hx⟩
               case measure => simp [intOf]; omega)
            | (go_ret; exact Ret.mk' (by rw [HB.out (okC_false' hkp h3 (by omega))]; rfl) hx)
    · obtain rfl : k = s.size := by omega
      by_cases h0 : s.size = 0
      · have e1 := toList_nil s h0
        have HC := Lib.hid (nameB_short s (by omega)); clear h0
        go_wp2
        go_ret
        exact Ret.mk' (by rw [HC.out]; rfl) hx
      · have e1 := toList_ne s (by omega)
        by_cases h1 : s.size ≤ 12
        · have HC := Lib.hid (nameB_good s ⟨by omega, h1⟩ HN.out)
          have h2 : (s.size : Int) ≤ 12 := by omega
          go_wp2
          go_ret
          exact Ret.mk' (by rw [HC.out]; simp [e1]) hx
        · have HC := Lib.hid (nameB_short s (by omega))
          have h2 : ¬ (s.size : Int) ≤ 12 := by omega
          go_wp2
          go_ret
          exact Ret.mk' (by rw [HC.out]; simp) hx
end Go.Proofs.YtccdnieoaejgdaaGreatDoor
namespace Go.Proofs.YtccdnieoaejgdaaGreatDoor
open Go.RowKit Go.Lib

def noPrint (r : Nat) : Bool := decide ((r : Int) < 33) || decide (126 < (r : Int))
theorem noPrint_iff (r : Nat) : noPrint r = true ↔ r < 33 ∨ 126 < r := by unfold noPrint; simp; omega
theorem idx_nonneg (p : Nat → Bool) (s : ByteArray) : ∀ (f pos : Nat), -1 ≤ Lib.idxFuncFrom p true s f pos
  | 0, pos => by simp [Lib.idxFuncFrom]
  | f + 1, pos => by
    unfold Lib.idxFuncFrom
    split
    · split
      · omega
      · exact idx_nonneg p s f _
    · omega
theorem idx_print (s : ByteArray) : ∀ (f pos : Nat), s.size ≤ pos + f → ((0 ≤ Lib.idxFuncFrom noPrint true s f pos) ↔ ∃ (j : Nat) (h : j < s.size), pos ≤ j ∧ noPrint s[j].toNat = true)
  | 0, pos => fun hf => by
    simp only [Lib.idxFuncFrom]
    constructor
    · intro h; omega
    · rintro ⟨j, h, hp, _⟩; omega
  | f + 1, pos => fun hf => by
    unfold Lib.idxFuncFrom
    by_cases hps : pos < s.size
    · rw [if_pos hps]
      by_cases hb : s[pos].toNat < 128
      · rw [decode_ascii s pos hps hb]
        simp only
        by_cases hn : noPrint s[pos].toNat = true
        · rw [if_pos hn]
          exact ⟨fun _ => ⟨pos, hps, Nat.le_refl _, hn⟩, fun _ => by omega⟩
        · rw [if_neg hn, idx_print s f (pos + 1) (by omega)]
          constructor
          · rintro ⟨j, h, hp, hj⟩; exact ⟨j, h, by omega, hj⟩
          · rintro ⟨j, h, hp, hj⟩
            refine ⟨j, h, ?_, hj⟩
            rcases Nat.eq_or_lt_of_le hp with e | e
            · subst e; exact absurd hj hn
            · omega
      · have hh := (decode_high s pos hps (by omega)).1
        rw [if_pos ((noPrint_iff _).2 (by omega))]
        exact ⟨fun _ => ⟨pos, hps, Nat.le_refl _, (noPrint_iff _).2 (by omega)⟩, fun _ => by omega⟩
    · rw [if_neg hps]
      constructor
      · intro h; omega
      · rintro ⟨j, h, hp, _⟩; omega
theorem printable_iff (s : ByteArray) : printable s = true ↔ ∀ (j : Nat) (h : j < s.size), noPrint s[j].toNat = false := by
  unfold printable
  rw [List.all_eq_true]
  constructor
  · intro h j hj
    have := h s[j] (by have e : s[j] = s.data.toList[j]'(by simpa using hj) := rfl; rw [e]; exact List.getElem_mem _)
    rw [Bool.and_eq_true, decide_eq_true_eq, decide_eq_true_eq] at this
    rw [Bool.eq_false_iff]; intro hn; rw [noPrint_iff] at hn; omega
  · intro h b hb
    obtain ⟨j, hj, rfl⟩ := List.getElem_of_mem hb
    have := h j (by simpa using hj)
    have e : s[j]'(by simpa using hj) = s.data.toList[j] := rfl
    rw [e, Bool.eq_false_iff] at this
    rw [Bool.and_eq_true, decide_eq_true_eq, decide_eq_true_eq]
    have h2 := mt (noPrint_iff _).2 this
    omega
theorem contains_print (s : ByteArray) : decide (0 ≤ Lib.idxFunc noPrint true s) = !printable s := by
  rw [Bool.eq_iff_iff]
  unfold Lib.idxFunc
  rw [decide_eq_true_eq, idx_print s s.size 0 (by omega), Bool.not_eq_true', Bool.eq_false_iff, Ne, printable_iff]
  constructor
  · rintro ⟨j, h, _, hj⟩ hall; rw [hall j h] at hj; cases hj
  · intro hn
    apply Classical.byContradiction
    intro hno
    apply hn
    intro j h
    rw [Bool.eq_false_iff]
    exact fun hj => hno ⟨j, h, Nat.zero_le _, hj⟩

theorem prints1_any (r : Nat) (hr : r ≤ 1114111) (w : World) :
    Calls Tryz.prog 166 #[.int .i32 r] w fun e w' => e = .returned (.bool (noPrint r)) ∧ w = w' := by
  by_cases h : (r : Int) < 33
  · go_enter Tryz.func166, Tryz.ntmps166
    go_wp2
    go_ret
    exact ⟨by simp [noPrint, h], rfl⟩
  · go_enter Tryz.func166, Tryz.ntmps166
    go_wp2
    go_ret
    have h' : decide ((r : Int) < 33) = false := decide_eq_false (by omega)
    exact ⟨by unfold noPrint; rw [h']; rfl, rfl⟩
theorem prints1_grows (w : World) : PredGrows Tryz.prog 166 #[] noPrint w :=
  fun W x hx _ => (prints1_any x hx W).mono fun _ _ ⟨he, hw⟩ => ⟨he, hw ▸ Below.refl _ _⟩
theorem contains_any (s : ByteArray) (w : World) :
    Calls Tryz.prog 165 #[.string s, .func (.func 166) #[] #[]] w (Ret (.bool (!printable s)) w) :=
  (Tryz.strings_ContainsFunc_grows 166 #[] (fun _ _ => by kernel_rfl) noPrint s w (prints1_grows w)).mono fun _ _ ⟨he, hb⟩ => ⟨by rw [he, contains_print], hb⟩

set_option maxHeartbeats 1000000 in
theorem prints_any (k : Int) (s : ByteArray) (w : World) (hk : 1 ≤ k ∧ k ≤ 3) (hs : s.size ≤ maxLen) :
    Calls Tryz.prog 161 #[.int .i64 k, .string s] w (Ret (.bool (printsB k s)) w) := by
  have hs' := hs
  unfold maxLen at hs'
  have i1 : ∀ w, (Instr.index 223 (.agg #[.int .i64 0, .int .i64 0, .int .i64 1, .int .i64 1, .int .i64 2, .int .i64 4, .int .i64 0, .int .i64 0]) (.int .i64 1)).run Tryz.prog w = .ok (.agg #[.int .i64 1, .int .i64 1]) w := fun _ => by kernel_rfl
  have i2 : ∀ w, (Instr.index 223 (.agg #[.int .i64 0, .int .i64 0, .int .i64 1, .int .i64 1, .int .i64 2, .int .i64 4, .int .i64 0, .int .i64 0]) (.int .i64 2)).run Tryz.prog w = .ok (.agg #[.int .i64 2, .int .i64 4]) w := fun _ => by kernel_rfl
  have i3 : ∀ w, (Instr.index 223 (.agg #[.int .i64 0, .int .i64 0, .int .i64 1, .int .i64 1, .int .i64 2, .int .i64 4, .int .i64 0, .int .i64 0]) (.int .i64 3)).run Tryz.prog w = .ok (.agg #[.int .i64 0, .int .i64 0]) w := fun _ => by kernel_rfl
  have hk3 : k = 1 ∨ k = 2 ∨ k = 3 := by omega
  by_cases hin : printLo k ≤ (s.size : Int) ∧ (s.size : Int) ≤ printHi k
  · have HP : Hid (printsB k s = printable s) := Lib.hid (by unfold printsB; simp [hin])
    rcases hk3 with rfl | rfl | rfl
    · replace hin : (1 : Int) ≤ (s.size : Int) ∧ (s.size : Int) ≤ 1 := hin
      go_enter Tryz.func161, Tryz.ntmps161
      go_wp2_with (first | (go_at_call 132; refine Calls.mono (within_yes _ _ _ _ ?_) ?_; (omega); rintro e w1 ⟨rfl, rfl⟩) | (go_at_call 132; refine Calls.mono (within_no _ _ _ _ ?_) ?_; (omega); rintro e w1 ⟨rfl, rfl⟩) | (go_at_call 165; refine Calls.mono (contains_any _ _) ?_; rintro e w1 ⟨rfl, hb⟩; obtain ⟨hc, hf⟩ := hb.rules; have hz := hb.size; (try simp only [World.size_alloc] at hz)))
      go_ret
      exact Ret.mk' (by rw [HP.out]; simp) (by repeat (first | exact Ext.refl _ | assumption | refine Ext.alloc ?_ _ | refine Ext.drew ?_ | refine Ext.drewN ?_ _ | (refine Ext.setCell ?_ (by simp <;> omega) _) | refine Ext.trans ?_ (by assumption)))
    · replace hin : (2 : Int) ≤ (s.size : Int) ∧ (s.size : Int) ≤ 4 := hin
      go_enter Tryz.func161, Tryz.ntmps161
      go_wp2_with (first | (go_at_call 132; refine Calls.mono (within_yes _ _ _ _ ?_) ?_; (omega); rintro e w1 ⟨rfl, rfl⟩) | (go_at_call 132; refine Calls.mono (within_no _ _ _ _ ?_) ?_; (omega); rintro e w1 ⟨rfl, rfl⟩) | (go_at_call 165; refine Calls.mono (contains_any _ _) ?_; rintro e w1 ⟨rfl, hb⟩; obtain ⟨hc, hf⟩ := hb.rules; have hz := hb.size; (try simp only [World.size_alloc] at hz)))
      go_ret
      exact Ret.mk' (by rw [HP.out]; simp) (by repeat (first | exact Ext.refl _ | assumption | refine Ext.alloc ?_ _ | refine Ext.drew ?_ | refine Ext.drewN ?_ _ | (refine Ext.setCell ?_ (by simp <;> omega) _) | refine Ext.trans ?_ (by assumption)))
    · replace hin : (0 : Int) ≤ (s.size : Int) ∧ (s.size : Int) ≤ 0 := hin
      go_enter Tryz.func161, Tryz.ntmps161
      go_wp2_with (first | (go_at_call 132; refine Calls.mono (within_yes _ _ _ _ ?_) ?_; (omega); rintro e w1 ⟨rfl, rfl⟩) | (go_at_call 132; refine Calls.mono (within_no _ _ _ _ ?_) ?_; (omega); rintro e w1 ⟨rfl, rfl⟩) | (go_at_call 165; refine Calls.mono (contains_any _ _) ?_; rintro e w1 ⟨rfl, hb⟩; obtain ⟨hc, hf⟩ := hb.rules; have hz := hb.size; (try simp only [World.size_alloc] at hz)))
      go_ret
      exact Ret.mk' (by rw [HP.out]; simp) (by repeat (first | exact Ext.refl _ | assumption | refine Ext.alloc ?_ _ | refine Ext.drew ?_ | refine Ext.drewN ?_ _ | (refine Ext.setCell ?_ (by simp <;> omega) _) | refine Ext.trans ?_ (by assumption)))
  · have HP : Hid (printsB k s = false) := Lib.hid (by unfold printsB; rw [Bool.and_eq_false_iff, Bool.and_eq_false_iff, decide_eq_false_iff_not, decide_eq_false_iff_not]; omega)
    rcases hk3 with rfl | rfl | rfl
    · replace hin : ¬ ((1 : Int) ≤ (s.size : Int) ∧ (s.size : Int) ≤ 1) := hin
      go_enter Tryz.func161, Tryz.ntmps161
      go_wp2_with (first | (go_at_call 132; refine Calls.mono (within_yes _ _ _ _ ?_) ?_; (omega); rintro e w1 ⟨rfl, rfl⟩) | (go_at_call 132; refine Calls.mono (within_no _ _ _ _ ?_) ?_; (omega); rintro e w1 ⟨rfl, rfl⟩) | (go_at_call 165; refine Calls.mono (contains_any _ _) ?_; rintro e w1 ⟨rfl, hb⟩; obtain ⟨hc, hf⟩ := hb.rules; have hz := hb.size; (try simp only [World.size_alloc] at hz)))
      go_ret
      exact Ret.mk' (by rw [HP.out]; rfl) (by repeat (first | exact Ext.refl _ | assumption | refine Ext.alloc ?_ _ | refine Ext.drew ?_ | refine Ext.drewN ?_ _ | (refine Ext.setCell ?_ (by simp <;> omega) _) | refine Ext.trans ?_ (by assumption)))
    · replace hin : ¬ ((2 : Int) ≤ (s.size : Int) ∧ (s.size : Int) ≤ 4) := hin
      go_enter Tryz.func161, Tryz.ntmps161
      go_wp2_with (first | (go_at_call 132; refine Calls.mono (within_yes _ _ _ _ ?_) ?_; (omega); rintro e w1 ⟨rfl, rfl⟩) | (go_at_call 132; refine Calls.mono (within_no _ _ _ _ ?_) ?_; (omega); rintro e w1 ⟨rfl, rfl⟩) | (go_at_call 165; refine Calls.mono (contains_any _ _) ?_; rintro e w1 ⟨rfl, hb⟩; obtain ⟨hc, hf⟩ := hb.rules; have hz := hb.size; (try simp only [World.size_alloc] at hz)))
      go_ret
      exact Ret.mk' (by rw [HP.out]; rfl) (by repeat (first | exact Ext.refl _ | assumption | refine Ext.alloc ?_ _ | refine Ext.drew ?_ | refine Ext.drewN ?_ _ | (refine Ext.setCell ?_ (by simp <;> omega) _) | refine Ext.trans ?_ (by assumption)))
    · replace hin : ¬ ((0 : Int) ≤ (s.size : Int) ∧ (s.size : Int) ≤ 0) := hin
      go_enter Tryz.func161, Tryz.ntmps161
      go_wp2_with (first | (go_at_call 132; refine Calls.mono (within_yes _ _ _ _ ?_) ?_; (omega); rintro e w1 ⟨rfl, rfl⟩) | (go_at_call 132; refine Calls.mono (within_no _ _ _ _ ?_) ?_; (omega); rintro e w1 ⟨rfl, rfl⟩) | (go_at_call 165; refine Calls.mono (contains_any _ _) ?_; rintro e w1 ⟨rfl, hb⟩; obtain ⟨hc, hf⟩ := hb.rules; have hz := hb.size; (try simp only [World.size_alloc] at hz)))
      go_ret
      exact Ret.mk' (by rw [HP.out]; rfl) (by repeat (first | exact Ext.refl _ | assumption | refine Ext.alloc ?_ _ | refine Ext.drew ?_ | refine Ext.drewN ?_ _ | (refine Ext.setCell ?_ (by simp <;> omega) _) | refine Ext.trans ?_ (by assumption)))
end Go.Proofs.YtccdnieoaejgdaaGreatDoor
