/-
  Arguments opened: folds and a sheet, as they lie in memory when the call begins.
-/
import Derived.Test.YtniiahddpdiocaaFoldTop2
import Derived.ProofKit
import Derived.OpenShut
import Derived.ChangeOld
import Derived.ChangeSame
import Derived.Lib.SmallJoins
import Derived.Deep.Slices
import Derived.Deep.Fields
namespace Go.Proofs.Ytniiahddpdiocaa
open Go.ChangeShapes Go.WideShapes Go.ChangeAt Go.RowKit Go.Joins Go.Deep

section
variable {H : Type} {enc : TypeId × Value → H} {P : Program} {w : World} {base : Nat} {spare : Nat → Bool} {held : Bool}
/-- A slice of structs, each field of one cell. -/
theorem open_slice_fields {t e : TypeId} {fs : Array Field} {fuel : Nat} {cs : List Value} {x : DataW H × List MemPlace} (ht : P.underlying t = some (.slice e)) (he : P.underlying e = some (.struct fs))
    (hone : oneCellFields P fs = true) (hC : P.cellsOf e = fs.size) (h : DataW.trod enc P w base spare held fuel t cs = some x) :
    (cs = [.slice none 0 0]) ∨
    ∃ (a : Addr) (len cap m : Nat), cs = [.slice (some a) len cap] ∧ len ≤ cap ∧ cap ≤ maxLen ∧ m = (if spare a.block then cap else len) ∧
      ∀ i, i < m → ∃ (n : Nat), ∀ (j : Nat) (f : Field), fs[j]? = some f → ∃ (v : Value) (y : DataW H × List MemPlace), w.cell? (a.add (i * fs.size + j)) = some v ∧ DataW.trod enc P w base spare held n f.type [v] = some y := by
  rcases open_slice ht h with h0 | ⟨a, len, cap, m, n, D, Pl, hcs, hb, hl, hm, hmm, hx, hi⟩
  · exact .inl h0.1
  · refine .inr ⟨a, len, cap, m, hcs, hl, hm, hmm, fun i him => ?_⟩
    obtain ⟨cs', hc, ht'⟩ := hi i him
    rw [hC] at hc
    obtain ⟨ys, n', hn', hy, hlen, hyl, hf⟩ := DataW.trod_struct he ht'
    obtain ⟨_, hcl, hat⟩ := World.cells?_some hc
    refine ⟨n', fun j f hj => ?_⟩
    obtain ⟨ho, hk⟩ := hone_of hone j f hj
    have hjl : j < fs.size := (Array.getElem?_eq_some_iff.1 hj).1
    have hcell := hat j hjl
    have hv : cs'[j]? = some (cs'[j]'(by omega)) := List.getElem?_eq_getElem (by omega)
    have h1 := hf j f hj
    rw [ho, hk] at h1
    have hone' : (cs'.drop j).take 1 = [cs'[j]'(by omega)] := by
      rw [List.drop_eq_getElem_cons (by omega)]
      rfl
    rw [hone'] at h1
    have hys : ys[j]? = some (ys[j]'(by omega)) := List.getElem?_eq_getElem (by omega)
    refine ⟨_, _, ?_, h1.trans hys⟩
    rw [← Go.Deep.add_add, hcell, hv]
end
theorem wf_i64 {z : Int} (h : (Lit.int .i64 z).wf = true) : I64 z := by
  have := bounds_i64 h
  unfold I64; omega

theorem cell_add {w : World} {a : Addr} {k : Nat} {v : Value} (h : w.cell? (a.add k) = some v) : w.cell? ⟨a.block, a.off + k, none⟩ = some v := by
  obtain ⟨b, off, spot⟩ := a
  unfold Addr.add at h
  by_cases hk : k = 0
  · rw [if_pos hk] at h
    have hs : spot = none := by simpa using World.cell?_spot h
    subst hs hk
    exact h
  · rw [if_neg hk] at h; exact h
theorem cell_lt {w : World} {b o : Nat} {v : Value} (h : w.cell? ⟨b, o, none⟩ = some v) : b < w.heap.size := by
  rcases Nat.lt_or_ge b w.heap.size with hl | hl
  · exact hl
  · simp [World.cell?, Array.getElem?_eq_none hl] at h
theorem spot_none {w : World} {a : Addr} {v : Value} (h : w.cell? (a.add 0) = some v) : a = ⟨a.block, a.off, none⟩ := by
  obtain ⟨b, off, spot⟩ := a
  unfold Addr.add at h
  rw [if_pos rfl] at h
  have hs : spot = none := by simpa using World.cell?_spot h
  subst hs; rfl

theorem okWide_array {P : Program} {w : World} {r : Reach} {b0 : Nat} {v : Value} {n : Nat} {t e : TypeId} (ht : P.underlying t = some (.array n e)) (h : Value.okWide P w r b0 t v) : ∃ cs, v = .agg cs ∧ cs.size = P.cellsOf t := by
  simp only [Value.okWide, ht] at h
  obtain ⟨cs, h1, h2, _⟩ := h
  exact ⟨cs, h1, h2⟩
theorem arr_two {α : Type} {a : Array α} (h : a.size = 2) : ∃ x y, a = #[x, y] := by
  obtain ⟨l⟩ := a
  match l, h with
  | [x, y], _ => exact ⟨x, y, rfl⟩
section
variable {H : Type} {enc : TypeId × Value → H} {w : World} {held : Bool} {b0 : Nat} {d : DataW H} {p : List MemPlace} {v : Value} {r : Reach}
set_option maxRecDepth 100000 in
/-- Two places that came in. -/
theorem open_at2 (hv : Value.okWide Try.prog w r b0 22 v) (h : DataW.Trod enc Try.prog w 0 (fun _ => true) held 22 v d p) :
    ∃ x y : Int, v = .agg #[.int .i64 x, .int .i64 y] ∧ I64 x ∧ I64 y := by
  obtain ⟨cs, rfl, hsz⟩ := okWide_array Try.underlying22 hv
  have hc2 : Try.prog.cellsOf 22 = 2 := by kernel_rfl
  have hc1 : Try.prog.cellsOf 3 = 1 := by kernel_rfl
  obtain ⟨v0, v1, rfl⟩ := arr_two (hsz.trans hc2)
  obtain ⟨fuel, hf⟩ := h
  obtain ⟨xs, m, _, _, _, hl, hat⟩ := DataW.trod_array Try.underlying22 hf
  have h0 := hat 0 (by decide)
  have h1 := hat 1 (by decide)
  rw [hc1, List.getElem?_eq_getElem (by omega)] at h0 h1
  have h0' : DataW.trod enc Try.prog w 0 (fun _ => true) held m 3 [v0] = some xs[0] := h0
  have h1' : DataW.trod enc Try.prog w 0 (fun _ => true) held m 3 [v1] = some xs[1] := h1
  obtain ⟨n0, e0, _, z0⟩ := DataW.trod_int Try.underlying3 h0'
  obtain ⟨n1, e1, _, z1⟩ := DataW.trod_int Try.underlying3 h1'
  simp only [List.cons.injEq, and_true] at e0 e1
  subst e0 e1
  exact ⟨n0, n1, rfl, wf_i64 z0, wf_i64 z1⟩

theorem foCells_getD : ∀ (l : List (Int × Int)) (j : Nat) (u : Value), (foCells l)[j]? = some u → ∃ k, k < l.length ∧ ((j = k * 2 ∧ u = .int .i64 (l.getD k (0, 0)).1) ∨ (j = k * 2 + 1 ∧ u = .int .i64 (l.getD k (0, 0)).2))
  | [], j, u, h => by simp [foCells] at h
  | x :: l, 0, u, h => ⟨0, by simp, .inl ⟨rfl, by simpa [foCells] using h.symm⟩⟩
  | x :: l, 1, u, h => ⟨0, by simp, .inr ⟨rfl, by simpa [foCells] using h.symm⟩⟩
  | x :: l, j + 2, u, h => by
    obtain ⟨k, hk, h1⟩ := foCells_getD l j u (by simpa [foCells] using h)
    refine ⟨k + 1, by simpa using hk, ?_⟩
    rcases h1 with ⟨h1, h2⟩ | ⟨h1, h2⟩
    · exact .inl ⟨by omega, by simpa using h2⟩
    · exact .inr ⟨by omega, by simpa using h2⟩
set_option maxRecDepth 100000 in
/-- Folds that came in. -/
theorem open_Fo (hv : Value.okWide Try.prog w r b0 23 v) (h : DataW.Trod enc Try.prog w 0 (fun _ => true) held 23 v d p) :
    ∃ A c fs, v = .slice A (List.length fs) c ∧ RFo w A fs ∧ ∀ k, k < fs.length → I64 (fs.getD k (0, 0)).2 := by
  obtain ⟨a0, l0, c0, rfl⟩ := okWide_slice Try.underlying23 hv
  obtain ⟨fuel, hf⟩ := h
  rcases open_slice_fields Try.underlying23 Try.underlying82 (by kernel_rfl) (by kernel_rfl) hf with hcs | ⟨a, l, c, m, hcs, hl, hm, hmm, hel⟩
  · have h1 : Value.slice a0 l0 c0 = .slice none 0 0 := (List.cons.inj (show [Value.slice a0 l0 c0] = [.slice none 0 0] from hcs)).1
    exact ⟨none, 0, [], h1, RC.empty _ _ _, fun k hk => absurd hk (by simp)⟩
  · have h1 : Value.slice a0 l0 c0 = .slice (some a) l c := (List.cons.inj (show [Value.slice a0 l0 c0] = [.slice (some a) l c] from hcs)).1
    have hel' : ∀ i, i < l → ∃ s : Int × Int, (w.cell? (a.add (i * 2 + 0)) = some (.int .i64 s.1) ∧ w.cell? (a.add (i * 2 + 1)) = some (.int .i64 s.2)) ∧ I64 s.2 := fun i hi => by
      obtain ⟨n, hj⟩ := hel i (by simp only [if_true] at hmm; omega)
      obtain ⟨v0, y0, c0', t0⟩ := hj 0 _ rfl
      obtain ⟨v1, y1, c1', t1⟩ := hj 1 _ rfl
      obtain ⟨n0, e0, _, _⟩ := DataW.trod_int Try.underlying3 t0
      obtain ⟨n1, e1, _, z1⟩ := DataW.trod_int Try.underlying3 t1
      simp only [List.cons.injEq, and_true] at e0 e1
      subst e0 e1
      exact ⟨(n0, n1), ⟨c0', c1'⟩, wf_i64 z1⟩
    obtain ⟨g, hg⟩ : ∃ g : Nat → Int × Int, ∀ i, i < l → (w.cell? (a.add (i * 2 + 0)) = some (.int .i64 (g i).1) ∧ w.cell? (a.add (i * 2 + 1)) = some (.int .i64 (g i).2)) ∧ I64 (g i).2 :=
      ⟨fun i => if h : i < l then Classical.choose (hel' i h) else (0, 0), fun i hi => by simp only [dif_pos hi]; exact Classical.choose_spec (hel' i hi)⟩
    have hlen : ((List.range l).map g).length = l := by simp
    have hat : ∀ k, k < l → ((List.range l).map g).getD k (0, 0) = g k := fun k hk => by
      rw [List.getD_eq_getElem?_getD, List.getElem?_map, List.getElem?_range hk]; rfl
    refine ⟨some a, c, (List.range l).map g, by rw [hlen]; exact h1, ⟨by rw [foCells_len], by rw [hlen]; unfold maxLen at hm; omega, fun hp => ?_⟩, fun k hk => ?_⟩
    · rw [hlen] at hp
      refine ⟨a.block, a.off, by rw [spot_none (hg 0 hp).1.1], cell_lt (cell_add (hg 0 hp).1.1), fun j u hu => ?_⟩
      obtain ⟨k, hk, h2⟩ := foCells_getD _ j u hu
      rw [hlen] at hk
      obtain ⟨⟨q0, q1⟩, _⟩ := hg k hk
      rw [hat k hk] at h2
      rcases h2 with ⟨rfl, rfl⟩ | ⟨rfl, rfl⟩
      · exact cell_add q0
      · exact cell_add q1
    · rw [hlen] at hk
      rw [hat k hk]; exact (hg k hk).2
end
end Go.Proofs.Ytniiahddpdiocaa
