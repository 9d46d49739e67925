/-
  Arguments opened: a fount, a slice of ints, a slice of slices of ints, as they lie in memory when the call begins.
-/
import Derived.Test.YtaopcpfgmjpliaaDoorFew
import Derived.ProofKit
import Derived.OpenShut
import Derived.ShutString
import Derived.ChangeOld
import Derived.ChangeSame
import Derived.Lib.SmallJoins
import Derived.Deep.Slices
import Derived.Deep.Fields
import Derived.Deep.Matrix
namespace Go.Proofs.YtaopcpfgmjpliaaDoor
open Go.ChangeShapes Go.WideShapes Go.ChangeAt Go.RowKit Go.Joins Go.Deep

section
variable {H : Type} {enc : TypeId × Value → H} {P : Program} {w : World} {base : Nat} {spare : Nat → Bool} {held : Bool}
/-- A slice of structs, each field of one cell. -/
theorem open_slice_fields {t e : TypeId} {fs : Array Field} {fuel : Nat} {cs : List Value} {x : DataW H × List MemPlace} (ht : P.underlying t = some (.slice e)) (he : P.underlying e = some (.struct fs))
    (hone : oneCellFields P fs = true) (hC : P.cellsOf e = fs.size) (h : DataW.trod enc P w base spare held fuel t cs = some x) :
    (cs = [.slice none 0 0]) ∨
    ∃ (a : Addr) (len cap m : Nat), cs = [.slice (some a) len cap] ∧ len ≤ cap ∧ cap ≤ maxLen ∧ m = (if spare a.block then cap else len) ∧
      ∀ i, i < m → ∃ (n : Nat), ∀ (j : Nat) (f : Field), fs[j]? = some f → ∃ (v : Value) (y : DataW H × List MemPlace), w.cell? (a.add (i * fs.size + j)) = some v ∧ DataW.trod enc P w base spare held n f.type [v] = some y := by
  rcases open_slice ht h with h0 | ⟨a, len, cap, m, n, D, Pl, hcs, hb, hl, hm, hmm, hx, hi⟩
  · exact .inl h0.1
  · refine .inr ⟨a, len, cap, m, hcs, hl, hm, hmm, fun i him => ?_⟩
    obtain ⟨cs', hc, ht'⟩ := hi i him
    rw [hC] at hc
    obtain ⟨ys, n', hn', hy, hlen, hyl, hf⟩ := DataW.trod_struct he ht'
    obtain ⟨_, hcl, hat⟩ := World.cells?_some hc
    refine ⟨n', fun j f hj => ?_⟩
    obtain ⟨ho, hk⟩ := hone_of hone j f hj
    have hjl : j < fs.size := (Array.getElem?_eq_some_iff.1 hj).1
    have hcell := hat j hjl
    have hv : cs'[j]? = some (cs'[j]'(by omega)) := List.getElem?_eq_getElem (by omega)
    have h1 := hf j f hj
    rw [ho, hk] at h1
    have hone' : (cs'.drop j).take 1 = [cs'[j]'(by omega)] := by
      rw [List.drop_eq_getElem_cons (by omega)]
      rfl
    rw [hone'] at h1
    have hys : ys[j]? = some (ys[j]'(by omega)) := List.getElem?_eq_getElem (by omega)
    refine ⟨_, _, ?_, h1.trans hys⟩
    rw [← Go.Deep.add_add, hcell, hv]
end
theorem wf_i64 {z : Int} (h : (Lit.int .i64 z).wf = true) : I64 z := by
  have := bounds_i64 h
  unfold I64; omega

theorem cell_add {w : World} {a : Addr} {k : Nat} {v : Value} (h : w.cell? (a.add k) = some v) : w.cell? ⟨a.block, a.off + k, none⟩ = some v := by
  obtain ⟨b, off, spot⟩ := a
  unfold Addr.add at h
  by_cases hk : k = 0
  · rw [if_pos hk] at h
    have hs : spot = none := by simpa using World.cell?_spot h
    subst hs hk
    exact h
  · rw [if_neg hk] at h; exact h
theorem cell_lt {w : World} {b o : Nat} {v : Value} (h : w.cell? ⟨b, o, none⟩ = some v) : b < w.heap.size := by
  rcases Nat.lt_or_ge b w.heap.size with hl | hl
  · exact hl
  · simp [World.cell?, Array.getElem?_eq_none hl] at h
theorem spot_none {w : World} {a : Addr} {v : Value} (h : w.cell? (a.add 0) = some v) : a = ⟨a.block, a.off, none⟩ := by
  obtain ⟨b, off, spot⟩ := a
  unfold Addr.add at h
  rw [if_pos rfl] at h
  have hs : spot = none := by simpa using World.cell?_spot h
  subst hs; rfl

section
variable {H : Type} {enc : TypeId × Value → H} {w : World} {held : Bool} {b0 : Nat} {d : DataW H} {p : List MemPlace} {v : Value} {r : Reach}
/-- A slice of ints that came in, by its cells. -/
theorem open_RI_cells {fuel : Nat} {cs : List Value} {x : DataW H × List MemPlace} (h : DataW.trod enc Tryd.prog w 0 (fun _ => true) held fuel 31 cs = some x) :
    ∃ A c zs, cs = [.slice A zs.length c] ∧ RI w A zs.length zs ∧ zs.length ≤ c ∧ c ≤ maxLen ∧ ∀ z ∈ zs, I64 z := by
  rcases open_ints Tryd.underlying31 Tryd.underlying3 (by kernel_rfl) h with ⟨hcs, _⟩ | ⟨a, l, c, zs, hcs, _, hl, hm, hz, _, hcell, hwz⟩
  · exact ⟨none, 0, [], hcs, RI.nil, Nat.le_refl _, by unfold maxLen; omega, fun z hz => by cases hz⟩
  · simp only [if_true] at hz
    have hlen : (zs.take l).length = l := by rw [List.length_take]; omega
    refine ⟨some a, c, zs.take l, by rw [hlen]; exact hcs, ⟨rfl, by rw [hlen]; unfold maxLen at hm; omega, fun hp => ?_⟩, by omega, hm, fun z hz' => wf_i64 (hwz z (List.mem_of_mem_take hz'))⟩
    rw [hlen] at hp
    refine ⟨a.block, a.off, by rw [spot_none (hcell 0 (by omega))], cell_lt (cell_add (hcell 0 (by omega))), fun k hk => ?_⟩
    rw [hlen] at hk
    rw [cell_add (hcell k (by omega)), List.getD_eq_getElem?_getD, List.getD_eq_getElem?_getD, List.getElem?_take, if_pos hk]
set_option maxRecDepth 100000 in
theorem open_RI (hv : Value.okWide Tryd.prog w r b0 31 v) (h : DataW.Trod enc Tryd.prog w 0 (fun _ => true) held 31 v d p) :
    ∃ A c zs, v = .slice A zs.length c ∧ RI w A zs.length zs ∧ zs.length ≤ c ∧ c ≤ maxLen ∧ ∀ z ∈ zs, I64 z := by
  obtain ⟨a, l, c, rfl⟩ := okWide_slice Tryd.underlying31 hv
  obtain ⟨fuel, hf⟩ := h
  obtain ⟨A, c', zs, hcs, hr⟩ := open_RI_cells hf
  have h1 : Value.slice a l c = .slice A zs.length c' := by
    have h0 : [Value.slice a l c] = [.slice A zs.length c'] := hcs
    exact (List.cons.inj h0).1
  exact ⟨A, c', zs, h1, hr⟩
/-- A slice of sorts that came in, by its cells. -/
theorem open_RT_cells {fuel : Nat} {cs : List Value} {x : DataW H × List MemPlace} (h : DataW.trod enc Tryd.prog w 0 (fun _ => true) held fuel 22 cs = some x) :
    ∃ A c ss, cs = [.slice A ss.length c] ∧ RT w A ss.length ss ∧ ss.length ≤ c ∧ c ≤ maxLen ∧ ∀ k, k < ss.length → (ss.getD k TS.zero).name.size ≤ maxLen ∧ (ss.getD k TS.zero).text.size ≤ maxLen ∧ I64 (ss.getD k TS.zero).kind ∧ I64 (ss.getD k TS.zero).width := by
  rcases open_slice_fields Tryd.underlying22 Tryd.underlying48 (by kernel_rfl) (by kernel_rfl) h with hcs | ⟨a, l, c, m, hcs, hl, hm, hmm, hel⟩
  · exact ⟨none, 0, [], hcs, ⟨rfl, by simp, fun h => absurd h (by simp)⟩, Nat.le_refl _, by unfold maxLen; omega, fun k hk => absurd hk (by simp)⟩
  · have hel' : ∀ i, i < l → ∃ s : TS, (w.cell? (a.add (i * 4 + 0)) = some (.string s.name) ∧ w.cell? (a.add (i * 4 + 1)) = some (.string s.text) ∧ w.cell? (a.add (i * 4 + 2)) = some (.int .i64 s.kind) ∧ w.cell? (a.add (i * 4 + 3)) = some (.int .i64 s.width)) ∧
        s.name.size ≤ maxLen ∧ s.text.size ≤ maxLen ∧ I64 s.kind ∧ I64 s.width := fun i hi => by
      obtain ⟨n, hj⟩ := hel i (by simp only [if_true] at hmm; omega)
      obtain ⟨v0, y0, c0, t0⟩ := hj 0 _ rfl
      obtain ⟨v1, y1, c1, t1⟩ := hj 1 _ rfl
      obtain ⟨v2, y2, c2, t2⟩ := hj 2 _ rfl
      obtain ⟨v3, y3, c3, t3⟩ := hj 3 _ rfl
      obtain ⟨s0, e0, _, z0⟩ := DataW.trod_string Tryd.underlying9 t0
      obtain ⟨s1, e1, _, z1⟩ := DataW.trod_string Tryd.underlying9 t1
      obtain ⟨n2, e2, _, z2⟩ := DataW.trod_int Tryd.underlying3 t2
      obtain ⟨n3, e3, _, z3⟩ := DataW.trod_int Tryd.underlying3 t3
      simp only [List.cons.injEq, and_true] at e0 e1 e2 e3
      subst e0 e1 e2 e3
      exact ⟨⟨s0, s1, n2, n3⟩, ⟨c0, c1, c2, c3⟩, z0, z1, wf_i64 z2, wf_i64 z3⟩
    obtain ⟨g, hg⟩ : ∃ g : Nat → TS, ∀ i, i < l → (w.cell? (a.add (i * 4 + 0)) = some (.string (g i).name) ∧ w.cell? (a.add (i * 4 + 1)) = some (.string (g i).text) ∧ w.cell? (a.add (i * 4 + 2)) = some (.int .i64 (g i).kind) ∧ w.cell? (a.add (i * 4 + 3)) = some (.int .i64 (g i).width)) ∧
        (g i).name.size ≤ maxLen ∧ (g i).text.size ≤ maxLen ∧ I64 (g i).kind ∧ I64 (g i).width :=
      ⟨fun i => if h : i < l then Classical.choose (hel' i h) else TS.zero, fun i hi => by simp only [dif_pos hi]; exact Classical.choose_spec (hel' i hi)⟩
    have hlen : ((List.range l).map g).length = l := by simp
    have hat : ∀ k, k < l → ((List.range l).map g).getD k TS.zero = g k := fun k hk => by
      rw [List.getD_eq_getElem?_getD, List.getElem?_map, List.getElem?_range hk]; rfl
    refine ⟨some a, c, (List.range l).map g, by rw [hlen]; exact hcs, ⟨rfl, by rw [hlen]; unfold maxLen at hm; omega, fun hp => ?_⟩, by omega, hm, fun k hk => ?_⟩
    · rw [hlen] at hp
      refine ⟨a.block, a.off, by rw [spot_none (hg 0 hp).1.1], cell_lt (cell_add (hg 0 hp).1.1), fun k hk => ?_⟩
      rw [hlen] at hk
      obtain ⟨⟨q0, q1, q2, q3⟩, _⟩ := hg k hk
      rw [hat k hk, show a.off + k * 4 + 1 = a.off + (k * 4 + 1) by omega, show a.off + k * 4 + 2 = a.off + (k * 4 + 2) by omega, show a.off + k * 4 + 3 = a.off + (k * 4 + 3) by omega]
      exact ⟨cell_add q0, cell_add q1, cell_add q2, cell_add q3⟩
    · rw [hlen] at hk
      rw [hat k hk]; exact (hg k hk).2
set_option maxRecDepth 100000 in
/-- A fount that came in. -/
theorem open_FR (hv : Value.okWide Tryd.prog w r b0 24 v) (h : DataW.Trod enc Tryd.prog w 0 (fun _ => true) held 24 v d p) :
    ∃ f A c, v = FT.val f A c ∧ FR w A c f := by
  obtain ⟨v0, v1, v2, y0, y1, y2, n, rfl, _, _, t0, t1, t2⟩ := open_agg3 Tryd.underlying24 (by kernel_rfl) (by kernel_rfl) hv h
  obtain ⟨s0, e0, _, z0⟩ := DataW.trod_string Tryd.underlying9 t0
  obtain ⟨n1, e1, _, z1⟩ := DataW.trod_int Tryd.underlying3 t1
  obtain ⟨A, c, ss, e2, hr, hc, hm, hz⟩ := open_RT_cells t2
  simp only [List.cons.injEq, and_true] at e0 e1 e2
  subst e0 e1 e2
  exact ⟨⟨s0, n1, ss⟩, A, c, rfl, ⟨hr, z0, hz, wf_i64 z1, hc, hm⟩⟩
set_option maxRecDepth 100000 in
/-- A slice of slices of ints that came in. -/
theorem open_RL (hv : Value.okWide Tryd.prog w r b0 87 v) (h : DataW.Trod enc Tryd.prog w 0 (fun _ => true) held 87 v d p) :
    ∃ A c rows, v = .slice A rows.length c ∧ RL w A rows.length rows ∧ (∀ k, k < rows.length → (rows.getD k SI.none_).zs.length ≤ (rows.getD k SI.none_).c ∧ (rows.getD k SI.none_).c ≤ maxLen ∧ ∀ z ∈ (rows.getD k SI.none_).zs, I64 z) := by
  obtain ⟨a0, l0, c0, rfl⟩ := okWide_slice Tryd.underlying87 hv
  obtain ⟨fuel, hf⟩ := h
  rcases open_slice Tryd.underlying87 hf with ⟨hcs, _⟩ | ⟨a, len, cap, m, n, D, Pl, hcs, hb, hl, hm, hmm, hx, hi⟩
  · have h1 : Value.slice a0 l0 c0 = .slice none 0 0 := (List.cons.inj (show [Value.slice a0 l0 c0] = [.slice none 0 0] from hcs)).1
    exact ⟨none, 0, [], h1, RL.none_ w, fun k hk => absurd hk (by simp)⟩
  · have h1 : Value.slice a0 l0 c0 = .slice (some a) len cap := (List.cons.inj (show [Value.slice a0 l0 c0] = [.slice (some a) len cap] from hcs)).1
    have hc1 : Tryd.prog.cellsOf 31 = 1 := by kernel_rfl
    have hel : ∀ i, i < len → ∃ s : SI, w.cell? (a.add i) = some s.val ∧ RI w s.A s.zs.length s.zs ∧ s.zs.length ≤ s.c ∧ s.c ≤ maxLen ∧ ∀ z ∈ s.zs, I64 z := fun i hil => by
      obtain ⟨cs', hc, ht'⟩ := hi i (by simp only [if_true] at hmm; omega)
      rw [hc1, Nat.mul_one] at hc
      obtain ⟨_, hcl, hat⟩ := World.cells?_some hc
      obtain ⟨A, c, zs, e, hr, h2, h3, h4⟩ := open_RI_cells ht'
      subst e
      have := hat 0 (by omega)
      refine ⟨⟨A, c, zs⟩, ?_, hr, h2, h3, h4⟩
      have e0 : (a.add i).add 0 = a.add i := by unfold Addr.add; simp
      rw [e0] at this
      exact this
    obtain ⟨g, hg⟩ : ∃ g : Nat → SI, ∀ i, i < len → w.cell? (a.add i) = some (g i).val ∧ RI w (g i).A (g i).zs.length (g i).zs ∧ (g i).zs.length ≤ (g i).c ∧ (g i).c ≤ maxLen ∧ ∀ z ∈ (g i).zs, I64 z :=
      ⟨fun i => if h : i < len then Classical.choose (hel i h) else SI.none_, fun i hil => by simp only [dif_pos hil]; exact Classical.choose_spec (hel i hil)⟩
    have hlen : ((List.range len).map g).length = len := by simp
    have hat : ∀ k, k < len → ((List.range len).map g).getD k SI.none_ = g k := fun k hk => by
      rw [List.getD_eq_getElem?_getD, List.getElem?_map, List.getElem?_range hk]; rfl
    refine ⟨some a, cap, (List.range len).map g, by rw [hlen]; exact h1, ⟨rfl, by rw [hlen]; unfold maxLen at hm; omega, fun hp => ?_, fun k hk => ?_⟩, fun k hk => ?_⟩
    · rw [hlen] at hp
      refine ⟨a.block, a.off, by rw [spot_none (hg 0 hp).1], cell_lt (cell_add (hg 0 hp).1), fun k hk => ?_⟩
      rw [hlen] at hk
      rw [hat k hk]; exact cell_add (hg k hk).1
    · rw [hlen] at hk
      rw [hat k hk]; exact (hg k hk).2.1
    · rw [hlen] at hk
      rw [hat k hk]; exact (hg k hk).2.2
end
end Go.Proofs.YtaopcpfgmjpliaaDoor
