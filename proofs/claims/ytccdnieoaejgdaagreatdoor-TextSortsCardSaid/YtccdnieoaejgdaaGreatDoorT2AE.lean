/-
  Plain law: the shares of a bill, what remains of it, and the steps up.
  What BillFor's loops keep in memory.
  Walks: the fount of the examples, and which founts a statement looks at.
  Arguments opened: a fount, a slice of ints, a slice of slices of ints, as they lie in memory when the call begins.
  Plain law: a case parted by several needs and joined again is the case, and its metal is that of all parts together.
-/
import Derived.Test.YtccdnieoaejgdaaGreatDoorT2AD
import Derived.ProofKit
import Derived.OpenShut
import Derived.ShutString
import Derived.ChangeOld
import Derived.ChangeSame
import Derived.Lib.SmallJoins
import Derived.Deep.Slices
import Derived.Deep.Fields
import Derived.Deep.Matrix
set_option linter.unusedVariables false
set_option linter.unusedSimpArgs false
set_option linter.unusedSectionVars false
namespace Go.Proofs.YtccdnieoaejgdaaGreatDoor
open Go.RowKit

section
variable {total all : Int} {ns : List Int} (hall : all = sumZ ns ns.length) (ha : 1 ≤ all) (ht : 0 ≤ total) (hns : ∀ k, k < ns.length → 0 ≤ ns.getD k 0)
include ha ht hns in
end
section
variable {ord outs : List Int} (hord : ∀ k, k < outs.length → ∃ j : Nat, j < outs.length ∧ ord.getD k 0 = j)
include hord in
end
end Go.Proofs.YtccdnieoaejgdaaGreatDoor
namespace Go.Proofs.YtccdnieoaejgdaaGreatDoor
open Go.RowKit

section
variable {a b : World} {base : Nat} {v : Value} {zs : List Int}
end

/-- The closure's cells and all that lay, in a later world; what is made from block B on is the call's own. -/
structure BH (w : World) (b4 b5 b9 B : Nat) (total all : Int) (X : Option Addr) (n cx : Nat) (a : World) : Prop where
  ext : Ext w a
  c4 : a.cell? ⟨b4, 0, none⟩ = some (.slice X n cx)
  c5 : a.cell? ⟨b5, 0, none⟩ = some (.int .i64 total)
  c9 : a.cell? ⟨b9, 0, none⟩ = some (.int .i64 all)
  lt4 : b4 < B
  lt5 : b5 < B
  lt9 : b9 < B
  base : w.heap.size ≤ B
  here : B ≤ a.heap.size
section
variable {w : World} {b4 b5 b9 B : Nat} {total all : Int} {X : Option Addr} {n cx : Nat} {a b : World}
end
/-- Two rows of the call's own, apart. -/
structure Two (w : World) (b4 b5 b9 B : Nat) (total all : Int) (X : Option Addr) (n cx : Nat) (a : World) (v u : Value) (l k : List Int) : Prop where
  bh : BH w b4 b5 b9 B total all X n cx a
  one : Own a B v l
  two : Own a B u k
  far : ∀ g, v.ownBlock = some g → u.ownBlock ≠ some g
section
variable {w : World} {b4 b5 b9 B : Nat} {total all : Int} {X : Option Addr} {n cx : Nat} {a W W' : World} {v u t : Value} {l k m : List Int}
end
section
variable {w : World} {b4 b5 b9 B : Nat} {total all : Int} {X : Option Addr} {n cx : Nat} {a b : World} {h g capo : Nat} {l ord : List Int}
end
end Go.Proofs.YtccdnieoaejgdaaGreatDoor
namespace Go.Proofs.YtccdnieoaejgdaaGreatDoor
open Go.RowKit

def roman : FT := ⟨⟨#[114, 111, 109]⟩, 10, [⟨⟨#[97]⟩, ⟨#[97]⟩, 1, 300⟩, ⟨⟨#[98]⟩, ⟨#[98]⟩, 1, 330⟩, ⟨⟨#[102, 105]⟩, ⟨#[102, 105]⟩, 2, 360⟩, ⟨⟨#[116, 104, 105, 99, 107]⟩, ⟨#[]⟩, 3, 200⟩, ⟨⟨#[116, 104, 105, 110]⟩, ⟨#[]⟩, 3, 120⟩]⟩
/-- The call hands back a fount that reads as f. -/
def RetF (f : FT) (w : World) (e : Ending) (w' : World) : Prop := ∃ A c, e = .returned (f.val A c) ∧ FR w' A c f ∧ Ext w w'
end Go.Proofs.YtccdnieoaejgdaaGreatDoor
namespace Go.Proofs.YtccdnieoaejgdaaGreatDoor
open Go.ChangeShapes Go.WideShapes Go.ChangeAt Go.RowKit Go.Joins Go.Deep

section
variable {H : Type} {enc : TypeId × Value → H} {P : Program} {w : World} {base : Nat} {spare : Nat → Bool} {held : Bool}
end
theorem wf_i64 {z : Int} (h : (Lit.int .i64 z).wf = true) : I64 z := by
  have := bounds_i64 h
  unfold I64; omega

theorem cell_add {w : World} {a : Addr} {k : Nat} {v : Value} (h : w.cell? (a.add k) = some v) : w.cell? ⟨a.block, a.off + k, none⟩ = some v := by
  obtain ⟨b, off, spot⟩ := a
  unfold Addr.add at h
  by_cases hk : k = 0
  · rw [if_pos hk] at h
    have hs : spot = none := by simpa using World.cell?_spot h
    subst hs hk
    exact h
  · rw [if_neg hk] at h; exact h
theorem cell_lt {w : World} {b o : Nat} {v : Value} (h : w.cell? ⟨b, o, none⟩ = some v) : b < w.heap.size := by
  rcases Nat.lt_or_ge b w.heap.size with hl | hl
  · exact hl
  · simp [World.cell?, Array.getElem?_eq_none hl] at h
theorem spot_none {w : World} {a : Addr} {v : Value} (h : w.cell? (a.add 0) = some v) : a = ⟨a.block, a.off, none⟩ := by
  obtain ⟨b, off, spot⟩ := a
  unfold Addr.add at h
  rw [if_pos rfl] at h
  have hs : spot = none := by simpa using World.cell?_spot h
  subst hs; rfl

section
variable {H : Type} {enc : TypeId × Value → H} {w : World} {held : Bool} {b0 : Nat} {d : DataW H} {p : List MemPlace} {v : Value} {r : Reach}
end
end Go.Proofs.YtccdnieoaejgdaaGreatDoor
namespace Go.Proofs.YtccdnieoaejgdaaGreatDoor.parted
open Go.RowKit

section
variable {f : FT} {xs ls : List Int} {tk : List SI} {m : Int}
end
end Go.Proofs.YtccdnieoaejgdaaGreatDoor.parted
