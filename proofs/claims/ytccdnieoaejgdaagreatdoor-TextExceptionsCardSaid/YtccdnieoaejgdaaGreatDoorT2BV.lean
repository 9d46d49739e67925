/-
  Arguments opened: two texts, as they lie in memory when the call begins.
-/
import Derived.Test.YtccdnieoaejgdaaGreatDoorT2AP
set_option linter.unusedVariables false
set_option linter.unusedSimpArgs false
set_option linter.unusedSectionVars false
namespace Go.Proofs.YtccdnieoaejgdaaGreatDoor
open Go.ChangeShapes Go.WideShapes Go.ChangeAt Go.RowKit Go.Joins Go.Deep

section
variable {H : Type} {enc : TypeId × Value → H} {w : World} {held : Bool} {b0 : Nat} {d : DataW H} {p : List MemPlace} {v : Value} {r : Reach}
theorem okWide_array {P : Program} {n : Nat} {t e : TypeId} (ht : P.underlying t = some (.array n e)) (h : Value.okWide P w r b0 t v) : ∃ cs, v = .agg cs ∧ cs.size = P.cellsOf t := by
  simp only [Value.okWide, ht] at h
  obtain ⟨cs, h1, h2, _⟩ := h
  exact ⟨cs, h1, h2⟩
theorem arr_two {α : Type} {cs : Array α} (h : cs.size = 2) : ∃ a b, cs = #[a, b] := by
  obtain ⟨l⟩ := cs
  match l, h with
  | [a, b], _ => exact ⟨a, b, rfl⟩
set_option maxRecDepth 100000 in
/-- Two texts that came in. -/
theorem open_S2 (hv : Value.okWide Tryz.prog w r b0 55 v) (h : DataW.Trod enc Tryz.prog w 0 (fun _ => true) held 55 v d p) :
    ∃ x y : ByteArray, v = .agg #[.string x, .string y] ∧ x.size ≤ maxLen ∧ y.size ≤ maxLen := by
  obtain ⟨cs, rfl, hsz⟩ := okWide_array Tryz.underlying55 hv
  have hc2 : Tryz.prog.cellsOf 55 = 2 := by kernel_rfl
  have hc1 : Tryz.prog.cellsOf 9 = 1 := by kernel_rfl
  obtain ⟨v0, v1, rfl⟩ := arr_two (hsz.trans hc2)
  obtain ⟨fuel, hf⟩ := h
  obtain ⟨xs, m, _, _, _, hl, hat⟩ := DataW.trod_array Tryz.underlying55 hf
  have h0 := hat 0 (by decide)
  have h1 := hat 1 (by decide)
  rw [hc1, List.getElem?_eq_getElem (by omega)] at h0 h1
  have h0' : DataW.trod enc Tryz.prog w 0 (fun _ => true) held m 9 [v0] = some xs[0] := h0
  have h1' : DataW.trod enc Tryz.prog w 0 (fun _ => true) held m 9 [v1] = some xs[1] := h1
  obtain ⟨n0, e0, _, z0⟩ := DataW.trod_string Tryz.underlying9 h0'
  obtain ⟨n1, e1, _, z1⟩ := DataW.trod_string Tryz.underlying9 h1'
  simp only [List.cons.injEq, and_true] at e0 e1
  subst e0 e1
  exact ⟨n0, n1, rfl, z0, z1⟩
end
end Go.Proofs.YtccdnieoaejgdaaGreatDoor
