/-
  Arguments opened: lines, as they lie in memory when the call begins.
-/
import Derived.Test.YtpkmapngdkkglaaGreatDoorGE
import Derived.Test.YtpkmapngdkkglaaGreatDoorGJ
namespace Go.Proofs.YtpkmapngdkkglaaGreatDoor
open Go.ChangeShapes Go.WideShapes Go.ChangeAt Go.RowKit Go.Joins Go.Deep

section
variable {H : Type} {enc : TypeId × Value → H} {w : World} {held : Bool} {b0 : Nat} {d : DataW H} {p : List MemPlace} {v : Value} {r : Reach}
set_option maxRecDepth 100000 in
/-- Lines that came in. -/
theorem open_RLN (hv : Value.okWide Tryz.prog w r b0 49 v) (h : DataW.Trod enc Tryz.prog w 0 (fun _ => true) held 49 v d p) :
    ∃ A c ls, v = .slice A (List.length ls) c ∧ RLN w A ls.length ls ∧ ls.length ≤ c ∧ c ≤ maxLen := by
  obtain ⟨a0, l0, c0, rfl⟩ := okWide_slice Tryz.underlying49 hv
  obtain ⟨fuel, hf⟩ := h
  rcases open_slice_fields Tryz.underlying49 Tryz.underlying52 (by kernel_rfl) (by kernel_rfl) hf with hcs | ⟨a, l, c, m, hcs, hl, hm, hmm, hel⟩
  · have h1 : Value.slice a0 l0 c0 = .slice none 0 0 := (List.cons.inj (show [Value.slice a0 l0 c0] = [.slice none 0 0] from hcs)).1
    exact ⟨none, 0, [], h1, ⟨rfl, by simp, fun h => absurd h (by simp), fun k hk => absurd hk (by simp)⟩, Nat.le_refl _, by unfold maxLen; omega⟩
  · have h1 : Value.slice a0 l0 c0 = .slice (some a) l c := (List.cons.inj (show [Value.slice a0 l0 c0] = [.slice (some a) l c] from hcs)).1
    have hel' : ∀ i, i < l → ∃ s : LN, (w.cell? (a.add (i * 2 + 0)) = some (.int .i64 s.m) ∧ w.cell? (a.add (i * 2 + 1)) = some s.s.val) ∧ RI w s.s.A s.s.zs.length s.s.zs := fun i hi => by
      obtain ⟨n, hj⟩ := hel i (by simp only [if_true] at hmm; omega)
      obtain ⟨v0, y0, c0', t0⟩ := hj 0 _ rfl
      obtain ⟨v1, y1, c1', t1⟩ := hj 1 _ rfl
      obtain ⟨n0, e0, _, _⟩ := DataW.trod_int Tryz.underlying3 t0
      obtain ⟨A, e, zs, e1, hr, _⟩ := open_RI_cells t1
      simp only [List.cons.injEq, and_true] at e0 e1
      subst e0 e1
      exact ⟨⟨n0, A, e, zs⟩, ⟨c0', c1'⟩, hr⟩
    obtain ⟨g, hg⟩ : ∃ g : Nat → LN, ∀ i, i < l → (w.cell? (a.add (i * 2 + 0)) = some (.int .i64 (g i).m) ∧ w.cell? (a.add (i * 2 + 1)) = some (g i).s.val) ∧ RI w (g i).s.A (g i).s.zs.length (g i).s.zs :=
      ⟨fun i => if h : i < l then Classical.choose (hel' i h) else LN.zero, fun i hi => by simp only [dif_pos hi]; exact Classical.choose_spec (hel' i hi)⟩
    have hlen : ((List.range l).map g).length = l := by simp
    have hat : ∀ k, k < l → ((List.range l).map g).getD k LN.zero = g k := fun k hk => by
      rw [List.getD_eq_getElem?_getD, List.getElem?_map, List.getElem?_range hk]; rfl
    refine ⟨some a, c, (List.range l).map g, by rw [hlen]; exact h1, ⟨rfl, by rw [hlen]; unfold maxLen at hm; omega, fun hp => ?_, fun k hk => ?_⟩, by omega, hm⟩
    · rw [hlen] at hp
      refine ⟨a.block, a.off, by rw [spot_none (hg 0 hp).1.1], cell_lt (cell_add (hg 0 hp).1.1), fun k hk => ?_⟩
      rw [hlen] at hk
      obtain ⟨⟨q0, q1⟩, _⟩ := hg k hk
      rw [hat k hk, show a.off + k * 2 + 1 = a.off + (k * 2 + 1) by omega]
      exact ⟨cell_add q0, cell_add q1⟩
    · rw [hlen] at hk
      rw [hat k hk]; exact (hg k hk).2
end
end Go.Proofs.YtpkmapngdkkglaaGreatDoor
