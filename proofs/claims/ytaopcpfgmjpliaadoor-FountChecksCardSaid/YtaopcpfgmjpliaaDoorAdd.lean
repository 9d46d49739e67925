/-
  Walk: a sort is made known.
-/
import Derived.Test.YtaopcpfgmjpliaaDoorKnown
namespace Go.Proofs.YtaopcpfgmjpliaaDoor
open Go.RowKit

def putF (f : List UInt8 → Option Int) (s : ByteArray) (z : Int) : List UInt8 → Option Int := fun t => if t = s.data.toList then some z else f t
def putT (g : List UInt8 → Option Int) (x : TS) (z : Int) : List UInt8 → Option Int := if x.kind = 3 then g else putF g x.text z
def AddPost (b1 b2 n : Nat) (f g : List UInt8 → Option Int) (w : World) (e : Ending) (w' : World) : Prop :=
  e = .returned (.tuple #[]) ∧ KM w' b1 n f ∧ KM w' b2 n g ∧ But [b1, b2] w w'
theorem cell_grown {w w' : World} {r k i : Nat} (hg : w.grownBy w' (some r)) (hk : k < w.heap.size) (hne : k ≠ r) : w'.cell? ⟨k, i, none⟩ = w.cell? ⟨k, i, none⟩ :=
  World.cell?_of_block (hg.block k hk (by simpa using hne))

set_option maxHeartbeats 2000000 in
theorem add_any (b1 b2 n : Nat) (f g : List UInt8 → Option Int) (x : TS) (z : Int) (w : World) (h1 : KM w b1 n f) (h2 : KM w b2 n g) (hne : b1 ≠ b2) (hn : x.name.size ≤ maxLen) (ht : x.text.size ≤ maxLen) (hz : I64 z) (hm : n + 1 < maxLen) :
    Calls Tryd.prog 43 #[knownV b1 b2, x.val, .int .i64 z] w (AddPost b1 b2 (n + 1) (putF f x.name z) (putT g x z) w) := by
  obtain ⟨nm, tx, k, wd⟩ := x
  simp only [TS.val, knownV] at *
  have l1 := h1.lt
  have l2 := h2.lt
  have hW : Ext w ((w.alloc (.cells #[.map (some b1), .map (some b2)] 51)).alloc (.cells #[.string nm, .string tx, .int .i64 k, .int .i64 wd] 48)) := (by repeat (first | exact Ext.refl _ | assumption | refine Ext.alloc ?_ _ | refine Ext.drew ?_ | refine Ext.drewN ?_ _ | (refine Ext.setCell ?_ (by simp <;> omega) _) | refine Ext.trans ?_ (by assumption)))
  obtain ⟨w1, hrun1, k1, g1⟩ := (h1.ext hW).put nm hn z hz (by omega)
  have B1 := (But.of_ext hW [b1, b2]).trans (But.grown (L := [b1, b2]) g1 (by simp))
  have k2 : KM w1 b2 n g := (h2.ext hW).kept g1 (by simp; omega)
  have a0 : Blk w1 w.heap.size 51 #[.map (some b1), .map (some b2)] := (((Blk.new w _ _).alloc _).but (But.grown (L := [b1, b2]) g1 (by simp)) (by simp; omega))
  have a1 : Blk w1 (w.heap.size + 1) 48 #[.string nm, .string tx, .int .i64 k, .int .i64 wd] := by
    have h := Blk.new (w.alloc (.cells #[.map (some b1), .map (some b2)] 51)) 48 #[.string nm, .string tx, .int .i64 k, .int .i64 wd]
    rw [World.size_alloc] at h
    exact h.but (But.grown (L := [b1, b2]) g1 (by simp)) (by simp; omega)
  have d0 := a0.cell 1 _ rfl
  have d1 := a1.cell 1 _ rfl
  have d2 := a1.cell 2 _ rfl
  clear a0 a1 hW
  have HT : Hid (putT g ⟨nm, tx, k, wd⟩ z = if k = 3 then g else putF g tx z) := Lib.hid rfl
  generalize putT g ⟨nm, tx, k, wd⟩ z = g' at *
  have K1 := Lib.hid k1; have K2 := Lib.hid k2; have b1' := Lib.hid B1; clear k1 k2 B1 g1 h1 h2
  by_cases h3 : k = 3
  · subst h3
    go_enter Tryd.func43, Tryd.ntmps43
    go_wp2
    go_end0
    exact ⟨rfl, K1.out, by rw [HT.out]; simpa using K2.out.mono (by omega), b1'.out⟩
  · have e3 : (k != 3) = true := by simpa using h3
    obtain ⟨w2, hrun2, k3, g2⟩ := K2.out.put tx ht z hz (by omega)
    have B2 := Lib.hid (b1'.out.trans (But.grown (L := [b1, b2]) g2 (by simp)))
    have K4 := Lib.hid (K1.out.kept g2 (by simp; omega))
    have K3 := Lib.hid k3; clear k3 g2
    go_enter Tryd.func43, Tryd.ntmps43
    go_wp2
    go_end0
    exact ⟨rfl, K4.out, by rw [HT.out, if_neg h3]; exact K3.out, B2.out⟩
end Go.Proofs.YtaopcpfgmjpliaaDoor
