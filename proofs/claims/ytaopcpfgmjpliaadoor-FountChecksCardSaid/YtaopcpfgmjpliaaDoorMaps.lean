/-
  A map from strings to ints that the call itself has made, told by a plain function.
-/
import Derived.Test.YtaopcpfgmjpliaaDoorLib
import Derived.Test.YtaopcpfgmjpliaaDoorProg
import Derived.Maps.Own
import Derived.Maps.OwnOps
import Derived.Maps.Views
import Derived.OwnWalk
namespace Go.Proofs.YtaopcpfgmjpliaaDoor
open Go.RowKit Go.WideMaps Go.Maps

theorem strKeyed : Keyed Tryd.prog 9 := string_keyed Tryd.underlying9
theorem zeroInt (w : World) : (zeroValue 3).run Tryd.prog w = .ok (.int .i64 0) w := by kernel_rfl

/-- Block b is a map of at most n entries that answers as f. -/
def KM (w : World) (b n : Nat) (f : List UInt8 → Option Int) : Prop :=
  ∃ D : DataW Unit, w.ownsMap Tryd.prog 9 (plainElem Tryd.prog 3) b n D ∧ (∃ l, D = .map l) ∧ ∀ s zd, D.atKey (.string s) zd = match f s with | some z => .lit (.int .i64 z) | none => zd

theorem KM.ext {w w' : World} {b n : Nat} {f : List UInt8 → Option Int} (h : KM w b n f) (hx : Ext w w') : KM w' b n f := by
  obtain ⟨D, ho, hm, hf⟩ := h
  have hlt := ho.lt
  obtain ⟨es, clock, hb, F, hs, hD⟩ := ho
  exact ⟨D, ⟨es, clock, (hx.block hlt).trans hb, F, hs, hD⟩, hm, hf⟩
theorem KM.lt {w : World} {b n : Nat} {f : List UInt8 → Option Int} (h : KM w b n f) : b < w.heap.size := by
  obtain ⟨D, ho, _⟩ := h
  exact ho.lt
theorem KM.kept {w w' : World} {b n : Nat} {row : Option Nat} {f : List UInt8 → Option Int} (h : KM w b n f) (hg : w.grownBy w' row) (hne : some b ≠ row) : KM w' b n f := by
  obtain ⟨D, ho, hm, hf⟩ := h
  exact ⟨D, ho.kept hg hne, hm, hf⟩
theorem KM.made (w : World) : KM (w.alloc (.map #[] 0)) w.heap.size 0 (fun _ => none) :=
  ⟨.map [], World.ownsMap_made _ _ _ _, ⟨_, rfl⟩, fun _ _ => rfl⟩
theorem KM.look {w : World} {b n : Nat} {f : List UInt8 → Option Int} (h : KM w b n f) (s : ByteArray) (hs : s.size ≤ maxLen) :
    (Instr.lookup 49 (.map (some b)) (.string s) true).run Tryd.prog w = .ok (.tuple #[.int .i64 ((f s.data.toList).getD 0), .bool (f s.data.toList).isSome]) w := by
  obtain ⟨D, ⟨es, clock, hb, F, _, rfl⟩, _, hf⟩ := h
  have hk := keyOf_string_mk (P := Tryd.prog) Tryd.underlying9 hs
  have h1 := hf s.data.toList .nil
  rcases Maps.fit_look true strKeyed Tryd.underlying49 (zeroInt w) hb F hk with ⟨hrun, _, hat⟩ | ⟨e0, y, _, _, hrun, hRv, hat, _⟩
  · rw [hat] at h1
    cases hfs : f s.data.toList with
    | none => simpa using hrun
    | some z => rw [hfs] at h1; cases h1
  · rw [hat] at h1
    obtain ⟨z, hz, hy, _⟩ := plainElem_int_inv Tryd.underlying3 hRv
    subst hy
    cases hfs : f s.data.toList with
    | none => rw [hfs] at h1; cases h1
    | some z' => rw [hfs] at h1; cases h1; rw [hz] at hrun; simpa using hrun
set_option maxRecDepth 100000 in
theorem KM.put {w : World} {b n : Nat} {f : List UInt8 → Option Int} (h : KM w b n f) (s : ByteArray) (hs : s.size ≤ maxLen) (z : Int) (hz : I64 z) (hn : n < maxLen) :
    ∃ w', (Instr.mapUpdate 49 (.map (some b)) (.string s) (.int .i64 z)).run Tryd.prog w = .ok () w' ∧ KM w' b (n + 1) (fun t => if t = s.data.toList then some z else f t) ∧ w.grownBy w' (some b) := by
  obtain ⟨D, ho, ⟨l, rfl⟩, hf⟩ := h
  have hk := keyOf_string_mk (P := Tryd.prog) Tryd.underlying9 hs
  have hw : (Lit.int .i64 z).wf = true := by unfold I64 at hz; exact WalkArith.wf_i64 (by omega)
  obtain ⟨w', hrun, ho', hg⟩ := ho.update strKeyed Tryd.underlying49 hn hk (plainElem_int Tryd.underlying3 hw)
  refine ⟨w', hrun, ⟨_, ho', ⟨_, rfl⟩, fun t zd => ?_⟩, hg⟩
  by_cases ht : t = s.data.toList
  · subst ht
    simp only [if_pos]
    exact atKey_put_same ⟨_, rfl⟩ (strKeyed.key hk) _ _
  · simp only [if_neg ht]
    rw [atKey_put_other (by intro e; injection e with e; exact ht e)]
    exact hf t zd
theorem KM.but {w w' : World} {b n : Nat} {L : List Nat} {f : List UInt8 → Option Int} (h : KM w b n f) (hk : But L w w') (hb : b ∉ L) : KM w' b n f := by
  obtain ⟨D, ho, hm, hf⟩ := h
  have hlt := ho.lt
  obtain ⟨es, clock, hb', F, hs, hD⟩ := ho
  exact ⟨D, ⟨es, clock, (hk.block b hlt hb).trans hb', F, hs, hD⟩, hm, hf⟩
end Go.Proofs.YtaopcpfgmjpliaaDoor
