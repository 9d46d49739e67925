/-
  A stand in memory: a case and what the pages need.
-/
import Derived.Test.YtfbdklminljecaaGreatDoorColMem
import Derived.Test.YtfbdklminljecaaGreatDoorStandRight
import Derived.Test.YtfbdklminljecaaGreatDoorOpenCol
namespace Go.Proofs.YtfbdklminljecaaGreatDoor
open Go.ChangeShapes Go.WideShapes Go.ChangeAt Go.RowKit Go.Joins Go.Deep

theorem yx0 (w : World) : Ext w w := Ext.refl w
theorem yxa {a b : World} (h : Ext a b) (o : Obj) : Ext a (b.alloc o) := h.alloc o
theorem yxd {a b : World} (h : Ext a b) : Ext a b.drew := h.drew
theorem yxn {a b : World} (h : Ext a b) (n : Nat) : Ext a (b.drewN n) := h.drewN n
theorem yxs {a b : World} (h : Ext a b) {p : Addr} (hp : a.heap.size ≤ p.block) (v : Value) : Ext a (b.setCell p v) := h.setCell hp v
theorem yxt {a b c : World} (h : Ext a b) (k : Ext b c) : Ext a c := h.trans k
theorem yxx {w a b c : World} (_ : Ext w a) (h : Ext a b) (k : Ext b c) : Ext a c := h.trans k
structure ST where
  A : Option Addr
  c : Nat
  cs : List Int
  B : Option Addr
  d : Nat
  ns : List SI
def ST.val (s : ST) : Value := .agg #[.slice s.A s.cs.length s.c, .slice s.B s.ns.length s.d]
def ST.zs (s : ST) : List (List Int) := s.ns.map SI.zs
/-- The stand lies in memory. -/
structure SR (w : World) (s : ST) : Prop where
  rc : RI w s.A s.cs.length s.cs
  rn : RL w s.B s.ns.length s.ns
theorem SR.ext {w w' : World} {s : ST} (h : SR w s) (hx : Ext w w') : SR w' s := ⟨h.rc.ext hx, h.rn.ext hx⟩
theorem ST.zlen (s : ST) : s.zs.length = s.ns.length := by unfold ST.zs; simp
theorem ST.zat (s : ST) (k : Nat) : s.zs.getD k [] = (s.ns.getD k SI.none_).zs := by
  rcases Nat.lt_or_ge k s.ns.length with h | h
  · exact zs_at s.ns k h
  · rw [List.getD_eq_getElem?_getD, List.getD_eq_getElem?_getD, List.getElem?_eq_none (by rw [s.zlen]; exact h), List.getElem?_eq_none h]; rfl
theorem ST.need (s : ST) (n : Int) (k : Nat) : needAt s.zs n k = ((s.ns.getD n.toNat SI.none_).zs).getD k 0 := by unfold needAt; rw [s.zat]
/-- A stand without an error. -/
structure Right (s : ST) : Prop where
  few : s.ns.length ≤ 12
  lens : ∀ i, i < s.ns.length → (s.ns.getD i SI.none_).zs.length = s.cs.length
  need : ∀ n k, 0 ≤ needAt s.zs n k ∧ needAt s.zs n k ≤ 1000000
  case_ : ∀ k, k < s.cs.length → 0 ≤ s.cs.getD k 0 ∧ s.cs.getD k 0 ≤ 1000000
theorem Right.of {f : FT} {s : ST} (h : standE f s.cs s.zs = 0) : Right s := by
  obtain ⟨h1, h2, h3⟩ := standE_zero h
  rw [s.zlen] at h2 h3
  refine ⟨h2, fun i hi => ?_, fun n k => stand_need h n k, (caseErr_counts h1).2⟩
  have h4 := (caseErr_counts (h3 i hi)).1
  rw [s.zat] at h4
  rw [h4, (caseErr_counts h1).1]
section
variable {f : FT} {s : ST}
theorem stE1 (h : caseErr f s.cs ≠ 0) : standE f s.cs s.zs = caseErr f s.cs := by unfold standE; rw [if_pos h]
theorem stE2 (h : caseErr f s.cs = 0) (h2 : 12 < s.ns.length) : standE f s.cs s.zs = 8 := by unfold standE; rw [if_neg (by simpa using h), if_pos (by rw [s.zlen]; exact h2)]
theorem stE3 (h : caseErr f s.cs = 0) (h2 : ¬ 12 < s.ns.length) {k : Nat} (h0 : ∀ j, j < k → caseErr f (s.ns.getD j SI.none_).zs = 0) (hk : k < s.ns.length) (hb : caseErr f (s.ns.getD k SI.none_).zs ≠ 0) : standE f s.cs s.zs = caseErr f (s.ns.getD k SI.none_).zs := by
  unfold standE
  rw [if_neg (by simpa using h), if_neg (by rw [s.zlen]; exact h2), s.zlen, ← s.zat k]
  exact firstE_hit (g := fun i => caseErr f (s.zs.getD i [])) (fun j hj => by have h9 := h0 j hj; rw [← s.zat j] at h9; exact h9) (by rw [← s.zat k] at hb; exact hb) hk
theorem stE4 (h : caseErr f s.cs = 0) (h2 : ¬ 12 < s.ns.length) (h0 : ∀ j, j < s.ns.length → caseErr f (s.ns.getD j SI.none_).zs = 0) : standE f s.cs s.zs = 0 := by
  unfold standE
  rw [if_neg (by simpa using h), if_neg (by rw [s.zlen]; exact h2), s.zlen]
  exact firstE_none fun j hj => by have h9 := h0 j hj; rw [← s.zat j] at h9; exact h9
end
/-- What a part of a set needs: not negative, nor too much. -/
theorem Right.use {s : ST} (h : Right s) (set : List Int) (k : Nat) : ∀ i : Nat, 0 ≤ useK s.zs set k i ∧ useK s.zs set k i ≤ 1000000 * (i : Int)
  | 0 => by unfold useK sumTo; omega
  | i + 1 => by
    have h1 := h.use set k i
    have h2 := h.need (set.getD i 0) k
    unfold useK at h1 ⊢
    rw [sumTo]
    omega
section
variable {H : Type} {enc : TypeId × Value → H} {w : World} {held : Bool} {b0 : Nat} {d : DataW H} {p : List MemPlace} {v : Value} {r : Reach}
set_option maxRecDepth 100000 in
/-- A stand that came in. -/
theorem open_ST (hv : Value.okWide Tryz.prog w r b0 32 v) (h : DataW.Trod enc Tryz.prog w 0 (fun _ => true) held 32 v d p) :
    ∃ s : ST, v = s.val ∧ SR w s := by
  obtain ⟨v0, v1, y0, y1, n, rfl, _, _, t0, t1⟩ := open_agg2 Tryz.underlying32 (by kernel_rfl) (by kernel_rfl) hv h
  obtain ⟨A, c, zs, e0, hr0, _⟩ := open_RI_cells t0
  obtain ⟨B, e, rows, e1, hr1⟩ := open_RL_cells t1
  simp only [List.cons.injEq, and_true] at e0 e1
  subst e0 e1
  exact ⟨⟨A, c, zs, B, e, rows⟩, rfl, ⟨hr0, hr1⟩⟩
end
end Go.Proofs.YtfbdklminljecaaGreatDoor
