/-
  Arguments opened: a galley, rules, a page's two places, as they lie in memory when the call begins.
-/
import Derived.Test.YtpkmapngdkkglaaGreatDoorGE
import Derived.Test.YtpkmapngdkkglaaGreatDoorGC
namespace Go.Proofs.YtpkmapngdkkglaaGreatDoor
open Go.ChangeShapes Go.WideShapes Go.ChangeAt Go.RowKit Go.Joins Go.Deep

section
variable {H : Type} {enc : TypeId × Value → H} {w : World} {held : Bool} {b0 : Nat} {d : DataW H} {p : List MemPlace} {v : Value} {r : Reach}
set_option maxRecDepth 100000 in
/-- Rules that came in. -/
theorem open_QT (hv : Value.okWide Tryz.prog w r b0 27 v) (h : DataW.Trod enc Tryz.prog w 0 (fun _ => true) held 27 v d p) :
    ∃ q : QT, v = q.val ∧ q.ok := by
  obtain ⟨v0, v1, v2, v3, y0, y1, y2, y3, n, rfl, _, _, t0, t1, t2, t3⟩ := open_agg4 Tryz.underlying27 (by kernel_rfl) (by kernel_rfl) hv h
  obtain ⟨n0, e0, _, z0⟩ := DataW.trod_int Tryz.underlying3 t0
  obtain ⟨n1, e1, _, z1⟩ := DataW.trod_int Tryz.underlying3 t1
  obtain ⟨n2, e2, _, z2⟩ := DataW.trod_int Tryz.underlying3 t2
  obtain ⟨n3, e3, _, z3⟩ := DataW.trod_int Tryz.underlying3 t3
  simp only [List.cons.injEq, and_true] at e0 e1 e2 e3
  subst e0 e1 e2 e3
  exact ⟨⟨n0, n1, n2, n3⟩, rfl, wf_i64 z0, wf_i64 z1, wf_i64 z2, wf_i64 z3⟩
/-- A slice of items that came in, by its cells. -/
theorem open_RP_cells {fuel : Nat} {cs : List Value} {x : DataW H × List MemPlace} (h : DataW.trod enc Tryz.prog w 0 (fun _ => true) held fuel 22 cs = some x) :
    ∃ A c ss, cs = [.slice A ss.length c] ∧ RP w A ss.length ss ∧ ss.length ≤ c ∧ c ≤ maxLen ∧ ∀ k, k < ss.length → (ss.getD k IT.zero).ok := by
  rcases open_slice_fields Tryz.underlying22 Tryz.underlying86 (by kernel_rfl) (by kernel_rfl) h with hcs | ⟨a, l, c, m, hcs, hl, hm, hmm, hel⟩
  · exact ⟨none, 0, [], hcs, ⟨rfl, by simp, fun h => absurd h (by simp)⟩, Nat.le_refl _, by unfold maxLen; omega, fun k hk => absurd hk (by simp)⟩
  · have hel' : ∀ i, i < l → ∃ s : IT, (w.cell? (a.add (i * 5 + 0)) = some (.int .i64 s.kind) ∧ w.cell? (a.add (i * 5 + 1)) = some (.int .i64 s.height) ∧ w.cell? (a.add (i * 5 + 2)) = some (.int .i64 s.note) ∧ w.cell? (a.add (i * 5 + 3)) = some (.int .i64 s.line) ∧ w.cell? (a.add (i * 5 + 4)) = some (.int .i64 s.many)) ∧ s.ok := fun i hi => by
      obtain ⟨n, hj⟩ := hel i (by simp only [if_true] at hmm; omega)
      obtain ⟨v0, y0, c0, t0⟩ := hj 0 _ rfl
      obtain ⟨v1, y1, c1, t1⟩ := hj 1 _ rfl
      obtain ⟨v2, y2, c2, t2⟩ := hj 2 _ rfl
      obtain ⟨v3, y3, c3, t3⟩ := hj 3 _ rfl
      obtain ⟨v4, y4, c4, t4⟩ := hj 4 _ rfl
      obtain ⟨n0, e0, _, z0⟩ := DataW.trod_int Tryz.underlying3 t0
      obtain ⟨n1, e1, _, z1⟩ := DataW.trod_int Tryz.underlying3 t1
      obtain ⟨n2, e2, _, z2⟩ := DataW.trod_int Tryz.underlying3 t2
      obtain ⟨n3, e3, _, z3⟩ := DataW.trod_int Tryz.underlying3 t3
      obtain ⟨n4, e4, _, z4⟩ := DataW.trod_int Tryz.underlying3 t4
      simp only [List.cons.injEq, and_true] at e0 e1 e2 e3 e4
      subst e0 e1 e2 e3 e4
      exact ⟨⟨n0, n1, n2, n3, n4⟩, ⟨c0, c1, c2, c3, c4⟩, wf_i64 z0, wf_i64 z1, wf_i64 z2, wf_i64 z3, wf_i64 z4⟩
    obtain ⟨g, hg⟩ : ∃ g : Nat → IT, ∀ i, i < l → (w.cell? (a.add (i * 5 + 0)) = some (.int .i64 (g i).kind) ∧ w.cell? (a.add (i * 5 + 1)) = some (.int .i64 (g i).height) ∧ w.cell? (a.add (i * 5 + 2)) = some (.int .i64 (g i).note) ∧ w.cell? (a.add (i * 5 + 3)) = some (.int .i64 (g i).line) ∧ w.cell? (a.add (i * 5 + 4)) = some (.int .i64 (g i).many)) ∧ (g i).ok :=
      ⟨fun i => if h : i < l then Classical.choose (hel' i h) else IT.zero, fun i hi => by simp only [dif_pos hi]; exact Classical.choose_spec (hel' i hi)⟩
    have hlen : ((List.range l).map g).length = l := by simp
    have hat : ∀ k, k < l → ((List.range l).map g).getD k IT.zero = g k := fun k hk => by
      rw [List.getD_eq_getElem?_getD, List.getElem?_map, List.getElem?_range hk]; rfl
    refine ⟨some a, c, (List.range l).map g, by rw [hlen]; exact hcs, ⟨rfl, by rw [hlen]; unfold maxLen at hm; omega, fun hp => ?_⟩, by omega, hm, fun k hk => ?_⟩
    · rw [hlen] at hp
      refine ⟨a.block, a.off, by rw [spot_none (hg 0 hp).1.1], cell_lt (cell_add (hg 0 hp).1.1), fun k hk => ?_⟩
      rw [hlen] at hk
      obtain ⟨⟨q0, q1, q2, q3, q4⟩, _⟩ := hg k hk
      rw [hat k hk, show a.off + k * 5 + 1 = a.off + (k * 5 + 1) by omega, show a.off + k * 5 + 2 = a.off + (k * 5 + 2) by omega, show a.off + k * 5 + 3 = a.off + (k * 5 + 3) by omega, show a.off + k * 5 + 4 = a.off + (k * 5 + 4) by omega]
      exact ⟨cell_add q0, cell_add q1, cell_add q2, cell_add q3, cell_add q4⟩
    · rw [hlen] at hk
      rw [hat k hk]; exact (hg k hk).2
set_option maxRecDepth 100000 in
/-- A galley that came in. -/
theorem open_GR (hv : Value.okWide Tryz.prog w r b0 25 v) (h : DataW.Trod enc Tryz.prog w 0 (fun _ => true) held 25 v d p) :
    ∃ (g : GT) (a : GA), v = g.val a ∧ GR w a g := by
  obtain ⟨v0, v1, y0, y1, n, rfl, _, _, t0, t1⟩ := open_agg2 Tryz.underlying25 (by kernel_rfl) (by kernel_rfl) hv h
  obtain ⟨A, c, ss, e0, hr, hc, hm, hz⟩ := open_RP_cells t0
  obtain ⟨B, e, zs, e1, hr1, hc1, hm1, hz1⟩ := open_RI_cells t1
  simp only [List.cons.injEq, and_true] at e0 e1
  subst e0 e1
  exact ⟨⟨ss, zs⟩, ⟨A, c, B, e⟩, rfl, ⟨hr, hr1, hz, hz1, ⟨hc, hm⟩, hc1, hm1⟩⟩
theorem okWide_array {P : Program} {n : Nat} {t e : TypeId} (ht : P.underlying t = some (.array n e)) (h : Value.okWide P w r b0 t v) : ∃ cs, v = .agg cs ∧ cs.size = P.cellsOf t := by
  simp only [Value.okWide, ht] at h
  obtain ⟨cs, h1, h2, _⟩ := h
  exact ⟨cs, h1, h2⟩
theorem arr_two {α : Type} {a : Array α} (h : a.size = 2) : ∃ x y, a = #[x, y] := by
  obtain ⟨l⟩ := a
  match l, h with
  | [x, y], _ => exact ⟨x, y, rfl⟩
set_option maxRecDepth 100000 in
/-- Two places that came in. -/
theorem open_at2 (hv : Value.okWide Tryz.prog w r b0 28 v) (h : DataW.Trod enc Tryz.prog w 0 (fun _ => true) held 28 v d p) :
    ∃ x y : Int, v = .agg #[.int .i64 x, .int .i64 y] ∧ I64 x ∧ I64 y := by
  obtain ⟨cs, rfl, hsz⟩ := okWide_array Tryz.underlying28 hv
  have hc2 : Tryz.prog.cellsOf 28 = 2 := by kernel_rfl
  have hc1 : Tryz.prog.cellsOf 3 = 1 := by kernel_rfl
  obtain ⟨v0, v1, rfl⟩ := arr_two (hsz.trans hc2)
  obtain ⟨fuel, hf⟩ := h
  obtain ⟨xs, m, _, _, _, hl, hat⟩ := DataW.trod_array Tryz.underlying28 hf
  have h0 := hat 0 (by decide)
  have h1 := hat 1 (by decide)
  rw [hc1, List.getElem?_eq_getElem (by omega)] at h0 h1
  have h0' : DataW.trod enc Tryz.prog w 0 (fun _ => true) held m 3 [v0] = some xs[0] := h0
  have h1' : DataW.trod enc Tryz.prog w 0 (fun _ => true) held m 3 [v1] = some xs[1] := h1
  obtain ⟨n0, e0, _, z0⟩ := DataW.trod_int Tryz.underlying3 h0'
  obtain ⟨n1, e1, _, z1⟩ := DataW.trod_int Tryz.underlying3 h1'
  simp only [List.cons.injEq, and_true] at e0 e1
  subst e0 e1
  exact ⟨n0, n1, rfl, wf_i64 z0, wf_i64 z1⟩
set_option maxRecDepth 100000 in
/-- Breaks and labels that came in. -/
theorem open_PF (hv : Value.okWide Tryz.prog w r b0 81 v) (h : DataW.Trod enc Tryz.prog w 0 (fun _ => true) held 81 v d p) :
    ∃ X cx xs Z cz zs, v = .agg #[.slice X (List.length xs) cx, .slice Z (List.length zs) cz] ∧ RI w X xs.length xs ∧ (xs.length ≤ cx ∧ cx ≤ maxLen) ∧ RI w Z zs.length zs ∧ zs.length ≤ cz ∧ cz ≤ maxLen := by
  obtain ⟨v0, v1, y0, y1, n, rfl, _, _, t0, t1⟩ := open_agg2 Tryz.underlying81 (by kernel_rfl) (by kernel_rfl) hv h
  obtain ⟨A, c, xs, e0, hr, hc, hm, _⟩ := open_RI_cells t0
  obtain ⟨B, e, zs, e1, hr1, hc1, hm1, _⟩ := open_RI_cells t1
  simp only [List.cons.injEq, and_true] at e0 e1
  subst e0 e1
  exact ⟨A, c, xs, B, e, zs, rfl, hr, ⟨hc, hm⟩, hr1, hc1, hm1⟩
end
end Go.Proofs.YtpkmapngdkkglaaGreatDoor
