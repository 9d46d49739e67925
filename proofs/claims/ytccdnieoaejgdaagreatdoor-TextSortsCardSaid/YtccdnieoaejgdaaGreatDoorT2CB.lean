/-
  What a statement with a fount needs besides: CopyFount, and a fount opened (as in the texts on founts; here under names of their own).
  Walk: the sort that prints a hyphen (the reference's hyphen).
  Walk: the error of a fount alone (the reference's FountErr).
-/
import Derived.Test.YtccdnieoaejgdaaGreatDoorT2AF
import Derived.Test.YtccdnieoaejgdaaGreatDoorT2AE
import Derived.Test.YtccdnieoaejgdaaGreatDoorT2CA
import Derived.Test.YtccdnieoaejgdaaGreatDoorT2AC
set_option linter.unusedVariables false
set_option linter.unusedSimpArgs false
set_option linter.unusedSectionVars false
namespace Go.Proofs.YtccdnieoaejgdaaGreatDoor
section
open Go.RowKit
theorem sortCells_oneM : ∀ (ss : List TS), ∀ u ∈ sortCells ss, u.oneCell' = true
  | [], u, hu => by cases hu
  | s :: r, u, hu => by
    simp only [sortCells, List.mem_cons] at hu
    rcases hu with rfl | rfl | rfl | rfl | h
    · rfl
    · rfl
    · rfl
    · rfl
    · exact sortCells_oneM r u h
theorem rt_cellsM {w : World} {b off : Nat} {ss : List TS} (hc : ∀ k, k < ss.length → w.cell? ⟨b, off + k * 4, none⟩ = some (.string (ss.getD k TS.zero).name) ∧ w.cell? ⟨b, off + k * 4 + 1, none⟩ = some (.string (ss.getD k TS.zero).text) ∧
    w.cell? ⟨b, off + k * 4 + 2, none⟩ = some (.int .i64 (ss.getD k TS.zero).kind) ∧ w.cell? ⟨b, off + k * 4 + 3, none⟩ = some (.int .i64 (ss.getD k TS.zero).width)) : ∀ j u, (sortCells ss)[j]? = some u → w.cell? ((⟨b, off, none⟩ : Addr).add j) = some u := by
  intro j u hj
  have hjl : j < ss.length * 4 := by
    rcases Nat.lt_or_ge j (ss.length * 4) with h | h
    · exact h
    · rw [List.getElem?_eq_none (by rw [sortCells_len]; exact h)] at hj; cases hj
  have hk : j / 4 < ss.length := by omega
  obtain ⟨q0, q1, q2, q3⟩ := hc (j / 4) hk
  obtain ⟨s0, s1, s2, s3⟩ := sortCells_at ss (j / 4) hk
  have hadd : (⟨b, off, none⟩ : Addr).add j = ⟨b, off + j, none⟩ := by
    unfold Addr.add
    by_cases h0 : j = 0
    · subst h0; rfl
    · rw [if_neg h0]
  rw [hadd]
  rcases (show j = j / 4 * 4 ∨ j = j / 4 * 4 + 1 ∨ j = j / 4 * 4 + 2 ∨ j = j / 4 * 4 + 3 by omega) with h | h | h | h
  · rw [h] at hj ⊢; rw [s0] at hj; cases hj; exact q0
  · rw [h] at hj ⊢; rw [s1] at hj; cases hj; exact q1
  · rw [h] at hj ⊢; rw [s2] at hj; cases hj; exact q2
  · rw [h] at hj ⊢; rw [s3] at hj; cases hj; exact q3
theorem sortInfoM : (Tryz.prog.info? 88).map (fun i => (i.zero, i.size, i.bytes)) = some (some (.agg #[.string ⟨#[]⟩, .string ⟨#[]⟩, .int .i64 0, .int .i64 0]), 4, 48) := by kernel_rfl
theorem OwnT.lit0M (w : World) : OwnT (w.alloc (.cells #[] 88)) w.heap.size (.slice (some ⟨w.heap.size, 0, none⟩) 0 0) [] :=
  World.ownsRow_lit (e := 88) (size := 4) w #[] 0 (Nat.le_refl _) (by unfold maxLen; omega) rfl
theorem OwnT.lit2M (w : World) (o x : Obj) : OwnT (((w.alloc o).alloc x).alloc (.cells #[] 88)) (w.heap.size + 1 + 1) (.slice (some ⟨w.heap.size + 1 + 1, 0, none⟩) 0 0) [] := by
  have h := OwnT.lit0M ((w.alloc o).alloc x)
  rwa [World.size_alloc, World.size_alloc] at h
theorem run_appendTM {w : World} {base : Nat} {v : Value} {ss : List TS} {A : Option Addr} {c : Nat} (hown : OwnT w base v []) (hr : RT w A ss.length ss) (hlen : ss.length ≤ 1000) (hbase : base ≤ w.heap.size) (ty : TypeId) :
    ∃ v' w', (Builtin.append_ #[40, 40] ty #[v, .slice A ss.length c]).run Tryz.prog w = .ok v' w' ∧ OwnT w' base v' ss ∧ w.grownBy w' v.ownBlock := by
  obtain ⟨i0, hi, hz0, hz1, hz2⟩ := info_parts sortInfoM
  rcases A with _ | ad
  · have hm : ss.length = 0 := by
      rcases Nat.eq_zero_or_pos ss.length with h0 | h0
      · exact h0
      · obtain ⟨b, off, h, _⟩ := hr.2.2 h0
        cases h
    obtain rfl := List.eq_nil_of_length_eq_zero hm
    refine ⟨v, w, ?_, hown, World.grownBy.refl w _⟩
    rcases hown.2 with ⟨rfl, _⟩ | ⟨g, cap, cur, rfl, _, _, hnc, _⟩
    · simp [Builtin.append_, run_underlying Tryz.underlying40, sizeOf, typeInfo, hi, Builtin.lenOf, Builtin.firstCells]
    · simp [Builtin.append_, run_underlying Tryz.underlying40, sizeOf, typeInfo, hi, Builtin.lenOf, Builtin.firstCells, storeCells]
  · obtain ⟨v', w', hrun, h2, h3, _⟩ := run_append_own_at (P := Tryz.prog) w base 40 ty 88 i0 _ 4 48 Tryz.underlying40 hi hz0 hz1 hz2 rfl (by decide) v 0 _ hown ad ss.length c (sortCells ss) (sortCells_len ss)
      (fun j u hj => by
        have hjl : j < ss.length * 4 := by
          rcases Nat.lt_or_ge j (ss.length * 4) with h | h
          · exact h
          · rw [List.getElem?_eq_none (by rw [sortCells_len]; exact h)] at hj; cases hj
        obtain ⟨b, off, he, _, hc⟩ := hr.2.2 (by omega)
        cases he
        exact rt_cellsM hc j u hj)
      (sortCells_oneM ss) (by unfold maxLen; omega) (by omega) hbase
    exact ⟨v', w', hrun, by unfold OwnT; simpa [sortCells] using h2, h3⟩
theorem list_appendTM {w : World} {ops : Array Oper} {rest : List Oper} {o : Oper} {a : Act} {Q : Exit → Act → World → Prop} (hgd : o.guard = none) (s x : Operand) (ho : o.op = .call { callee := .builtin .append, args := #[s, x], argTypes := #[40, 40] })
    (base : Nat) (v : Value) (hs : a.eval s = v) (hown : OwnT w base v []) (A : Option Addr) (c : Nat) (ss : List TS) (hx : a.eval x = .slice A ss.length c) (hr : RT w A ss.length ss) (hlen : ss.length ≤ 1000) (hbase : base ≤ w.heap.size)
    (h : ∀ v' w', OwnT w' base v' ss → w.grownBy w' v.ownBlock → wpList Tryz.prog ops Q rest (a.put o.dst v') w') : wpList Tryz.prog ops Q (o :: rest) a w := by
  refine wpList_plain hgd fun K hK => ?_
  obtain ⟨v', w', hr', h2, h3⟩ := run_appendTM (c := c) hown hr hlen hbase o.type
  unfold Oper.wp execOp
  simp only [ho, resolve, invoke, builtin, Sem.run_bind, Sem.run_pure, Result.andThen_ok, List.map_toArray, List.map_cons, List.map_nil, hs, hx, hr']
  exact hK _ _ (h v' w' h2 h3)
theorem copy_boxM {w w' : World} {x : Obj} {g : Nat} {T : TypeId} {cs : Array Value} {o : Obj} (hg : (((w.alloc o).alloc x).alloc (.cells #[] 88)).grownBy w' (Value.slice (some ⟨w.heap.size + 1 + 1, 0, none⟩) 0 0).ownBlock) (hb : Blk (w.alloc o) g T cs) (hgl : g = w.heap.size) : Blk w' g T cs := by
  subst hgl
  exact (hg.block _ (by simp; omega) (by simp [Value.ownBlock]; omega)).trans ((hb.alloc _).alloc _)
theorem copy_resM {w w' : World} {o : Obj} {T : TypeId} {cs : Array Value} (hg : (((w.alloc o).alloc (.cells cs T)).alloc (.cells #[] 88)).grownBy w' (Value.slice (some ⟨w.heap.size + 1 + 1, 0, none⟩) 0 0).ownBlock) : Blk w' (w.heap.size + 1) T cs :=
  (hg.block _ (by simp) (by simp [Value.ownBlock])).trans ((Blk.new1 w o T cs).alloc _)
theorem copy_extM {w w' : World} {o x y : Obj} (hg : (((w.alloc o).alloc x).alloc y).grownBy w' (Value.slice (some ⟨w.heap.size + 1 + 1, 0, none⟩) 0 0).ownBlock) : Ext w w' :=
  Ext.grown ((((Ext.refl w).alloc o).alloc x).alloc y) hg fun k hk => by simp [Value.ownBlock] at hk; omega
theorem RT.butM {a b : World} {L : List Nat} {A : Option Addr} {n : Nat} {ss : List TS} (h : RT a A n ss) (k : But L a b) (hA : ∀ ad, A = some ad → ad.block ∉ L) : RT b A n ss :=
  ⟨h.1, h.2.1, fun hn => by
    obtain ⟨g, off, ha, hb, hc⟩ := h.2.2 hn
    have hbl := k.block g hb (hA _ ha)
    refine ⟨g, off, ha, Nat.lt_of_lt_of_le hb k.size, fun i hi => ?_⟩
    rw [World.cell?_of_block (a := ⟨g, off + i * 4, none⟩) hbl, World.cell?_of_block (a := ⟨g, off + i * 4 + 1, none⟩) hbl, World.cell?_of_block (a := ⟨g, off + i * 4 + 2, none⟩) hbl, World.cell?_of_block (a := ⟨g, off + i * 4 + 3, none⟩) hbl]
    exact hc i hi⟩
set_option maxRecDepth 100000 in
set_option maxHeartbeats 2000000 in
theorem copyFount_anyM (f : FT) (A : Option Addr) (c : Nat) (w : World) (hf : FR w A c f) (hl : f.sorts.length ≤ 1000) : Calls Tryz.prog 25 #[f.val A c] w (RetF f w) := by
  have HF := Lib.hid hf; clear hf
  obtain ⟨name, body, ss⟩ := f
  simp only [FT.val] at *
  have HL := Lib.hid hl; clear hl
  go_enter Tryz.func25, Tryz.ntmps25
  go_wp2_with (at_builtin; refine list_appendTM rfl (.tmp 3) (.tmp 5) rfl (w.heap.size + 1 + 1) _ rfl ?_ A c ss rfl (HF.out.rt.ext (by repeat (first | exact Ext.refl _ | assumption | refine Ext.alloc ?_ _ | refine Ext.drew ?_ | refine Ext.drewN ?_ _ | (refine Ext.setCell ?_ (by simp <;> omega) _) | refine Ext.trans ?_ (by assumption)))) HL.out (by simp) ?_; (exact OwnT.lit2M _ _ _); intro v' w' hown' hg'; obtain ⟨A', c', hv, hcl, hcm, hrt⟩ := hown'.form (by have := HL.out; omega); subst hv; have k1 := copy_boxM hg' (Blk.new w 42 #[.string name, .int .i64 body, .slice A ss.length c]) rfl; have k2 := copy_resM hg'; have hs' := hg'.size; have HK1 := Lib.hid k1; have HK2 := Lib.hid k2; have HXE := Lib.hid (copy_extM hg'); have HAB : Hid (∀ ad, A' = some ad → w.heap.size + 1 + 1 ≤ ad.block) := Lib.hid (fun ad he => (World.ownsRow.lt hown' ad.block (by rw [he]; rfl)).1); have HR := Lib.hid hrt; obtain ⟨q0, q1, q2, ql⟩ := k1.c3; have f2 := k1.frozen 2; obtain ⟨r0, r1, r2, rl⟩ := k2.c3; have g0 := k2.frozen 0; have g1 := k2.frozen 1; have g2 := k2.frozen 2; clear hg' k1 k2 hown' hrt)
  have F1 := (((HK2.out.far (p := ⟨w.heap.size, 2, none⟩) (by simp) (.slice A' ss.length c')).set_ 0 (.string name)).set_ 1 (.int .i64 body)).set_ 2 (.slice A' ss.length c')
  have F2 := F1.c3
  obtain ⟨v0, v1, v2, vl⟩ := F2
  refine bodyPost_ret (v := .agg #[.string name, .int .i64 body, .slice A' ss.length c']) (by simp [results, Tryz.results25, go_sem, v0, v1, v2]) rfl ⟨A', c', rfl, ⟨?_, HF.out.nm, HF.out.sz, HF.out.body, ⟨hcl, hcm⟩⟩, ?_⟩
  · refine RT.butM (RT.butM (RT.butM (RT.butM HR.out (But.setCell w' ⟨w.heap.size, 2, none⟩ _) ?_) (But.setCell _ ⟨w.heap.size + 1, 0, none⟩ _) ?_) (But.setCell _ ⟨w.heap.size + 1, 1, none⟩ _) ?_) (But.setCell _ ⟨w.heap.size + 1, 2, none⟩ _) ?_
    all_goals
      intro ad he hm
      have h1 := HAB.out ad he
      have h2 := List.mem_singleton.1 hm
      simp only at h2
      omega
  · exact Ext.setCell (Ext.setCell (Ext.setCell (Ext.setCell HXE.out (by simp) _) (by simp) _) (by simp) _) (by simp) _
end
section
open Go.ChangeShapes Go.WideShapes Go.ChangeAt Go.RowKit Go.Joins Go.Deep

variable {H : Type} {enc : TypeId × Value → H} {P : Program} {w : World} {base : Nat} {spare : Nat → Bool} {held : Bool}
/-- A slice of structs, each field of one cell. -/
theorem open_slice_fieldsM {t e : TypeId} {fs : Array Field} {fuel : Nat} {cs : List Value} {x : DataW H × List MemPlace} (ht : P.underlying t = some (.slice e)) (he : P.underlying e = some (.struct fs))
    (hone : oneCellFields P fs = true) (hC : P.cellsOf e = fs.size) (h : DataW.trod enc P w base spare held fuel t cs = some x) :
    (cs = [.slice none 0 0]) ∨
    ∃ (a : Addr) (len cap m : Nat), cs = [.slice (some a) len cap] ∧ len ≤ cap ∧ cap ≤ maxLen ∧ m = (if spare a.block then cap else len) ∧
      ∀ i, i < m → ∃ (n : Nat), ∀ (j : Nat) (f : Field), fs[j]? = some f → ∃ (v : Value) (y : DataW H × List MemPlace), w.cell? (a.add (i * fs.size + j)) = some v ∧ DataW.trod enc P w base spare held n f.type [v] = some y := by
  rcases open_slice ht h with h0 | ⟨a, len, cap, m, n, D, Pl, hcs, hb, hl, hm, hmm, hx, hi⟩
  · exact .inl h0.1
  · refine .inr ⟨a, len, cap, m, hcs, hl, hm, hmm, fun i him => ?_⟩
    obtain ⟨cs', hc, ht'⟩ := hi i him
    rw [hC] at hc
    obtain ⟨ys, n', hn', hy, hlen, hyl, hf⟩ := DataW.trod_struct he ht'
    obtain ⟨_, hcl, hat⟩ := World.cells?_some hc
    refine ⟨n', fun j f hj => ?_⟩
    obtain ⟨ho, hk⟩ := hone_of hone j f hj
    have hjl : j < fs.size := (Array.getElem?_eq_some_iff.1 hj).1
    have hcell := hat j hjl
    have hv : cs'[j]? = some (cs'[j]'(by omega)) := List.getElem?_eq_getElem (by omega)
    have h1 := hf j f hj
    rw [ho, hk] at h1
    have hone' : (cs'.drop j).take 1 = [cs'[j]'(by omega)] := by
      rw [List.drop_eq_getElem_cons (by omega)]
      rfl
    rw [hone'] at h1
    have hys : ys[j]? = some (ys[j]'(by omega)) := List.getElem?_eq_getElem (by omega)
    refine ⟨_, _, ?_, h1.trans hys⟩
    rw [← Go.Deep.add_add, hcell, hv]
end
section
open Go.ChangeShapes Go.WideShapes Go.ChangeAt Go.RowKit Go.Joins Go.Deep
variable {H : Type} {enc : TypeId × Value → H} {w : World} {held : Bool} {b0 : Nat} {d : DataW H} {p : List MemPlace} {v : Value} {r : Reach}
/-- A slice of ints that came in, by its cells. -/
theorem open_RI_cellsM {fuel : Nat} {cs : List Value} {x : DataW H × List MemPlace} (h : DataW.trod enc Tryz.prog w 0 (fun _ => true) held fuel 27 cs = some x) :
    ∃ A c zs, cs = [.slice A zs.length c] ∧ RI w A zs.length zs ∧ zs.length ≤ c ∧ c ≤ maxLen ∧ ∀ z ∈ zs, I64 z := by
  rcases open_ints Tryz.underlying27 Tryz.underlying3 (by kernel_rfl) h with ⟨hcs, _⟩ | ⟨a, l, c, zs, hcs, _, hl, hm, hz, _, hcell, hwz⟩
  · exact ⟨none, 0, [], hcs, RI.nil, Nat.le_refl _, by unfold maxLen; omega, fun z hz => by cases hz⟩
  · simp only [if_true] at hz
    have hlen : (zs.take l).length = l := by rw [List.length_take]; omega
    refine ⟨some a, c, zs.take l, by rw [hlen]; exact hcs, ⟨rfl, by rw [hlen]; unfold maxLen at hm; omega, fun hp => ?_⟩, by omega, hm, fun z hz' => wf_i64 (hwz z (List.mem_of_mem_take hz'))⟩
    rw [hlen] at hp
    refine ⟨a.block, a.off, by rw [spot_none (hcell 0 (by omega))], cell_lt (cell_add (hcell 0 (by omega))), fun k hk => ?_⟩
    rw [hlen] at hk
    rw [cell_add (hcell k (by omega)), List.getD_eq_getElem?_getD, List.getD_eq_getElem?_getD, List.getElem?_take, if_pos hk]
/-- A slice of sorts that came in, by its cells. -/
theorem open_RT_cellsM {fuel : Nat} {cs : List Value} {x : DataW H × List MemPlace} (h : DataW.trod enc Tryz.prog w 0 (fun _ => true) held fuel 40 cs = some x) :
    ∃ A c ss, cs = [.slice A ss.length c] ∧ RT w A ss.length ss ∧ ss.length ≤ c ∧ c ≤ maxLen ∧ ∀ k, k < ss.length → (ss.getD k TS.zero).name.size ≤ maxLen ∧ (ss.getD k TS.zero).text.size ≤ maxLen ∧ I64 (ss.getD k TS.zero).kind ∧ I64 (ss.getD k TS.zero).width := by
  rcases open_slice_fieldsM Tryz.underlying40 Tryz.underlying88 (by kernel_rfl) (by kernel_rfl) h with hcs | ⟨a, l, c, m, hcs, hl, hm, hmm, hel⟩
  · exact ⟨none, 0, [], hcs, ⟨rfl, by simp, fun h => absurd h (by simp)⟩, Nat.le_refl _, by unfold maxLen; omega, fun k hk => absurd hk (by simp)⟩
  · have hel' : ∀ i, i < l → ∃ s : TS, (w.cell? (a.add (i * 4 + 0)) = some (.string s.name) ∧ w.cell? (a.add (i * 4 + 1)) = some (.string s.text) ∧ w.cell? (a.add (i * 4 + 2)) = some (.int .i64 s.kind) ∧ w.cell? (a.add (i * 4 + 3)) = some (.int .i64 s.width)) ∧
        s.name.size ≤ maxLen ∧ s.text.size ≤ maxLen ∧ I64 s.kind ∧ I64 s.width := fun i hi => by
      obtain ⟨n, hj⟩ := hel i (by simp only [if_true] at hmm; omega)
      obtain ⟨v0, y0, c0, t0⟩ := hj 0 _ rfl
      obtain ⟨v1, y1, c1, t1⟩ := hj 1 _ rfl
      obtain ⟨v2, y2, c2, t2⟩ := hj 2 _ rfl
      obtain ⟨v3, y3, c3, t3⟩ := hj 3 _ rfl
      obtain ⟨s0, e0, _, z0⟩ := DataW.trod_string Tryz.underlying9 t0
      obtain ⟨s1, e1, _, z1⟩ := DataW.trod_string Tryz.underlying9 t1
      obtain ⟨n2, e2, _, z2⟩ := DataW.trod_int Tryz.underlying3 t2
      obtain ⟨n3, e3, _, z3⟩ := DataW.trod_int Tryz.underlying3 t3
      simp only [List.cons.injEq, and_true] at e0 e1 e2 e3
      subst e0 e1 e2 e3
      exact ⟨⟨s0, s1, n2, n3⟩, ⟨c0, c1, c2, c3⟩, z0, z1, wf_i64 z2, wf_i64 z3⟩
    obtain ⟨g, hg⟩ : ∃ g : Nat → TS, ∀ i, i < l → (w.cell? (a.add (i * 4 + 0)) = some (.string (g i).name) ∧ w.cell? (a.add (i * 4 + 1)) = some (.string (g i).text) ∧ w.cell? (a.add (i * 4 + 2)) = some (.int .i64 (g i).kind) ∧ w.cell? (a.add (i * 4 + 3)) = some (.int .i64 (g i).width)) ∧
        (g i).name.size ≤ maxLen ∧ (g i).text.size ≤ maxLen ∧ I64 (g i).kind ∧ I64 (g i).width :=
      ⟨fun i => if h : i < l then Classical.choose (hel' i h) else TS.zero, fun i hi => by simp only [dif_pos hi]; exact Classical.choose_spec (hel' i hi)⟩
    have hlen : ((List.range l).map g).length = l := by simp
    have hat : ∀ k, k < l → ((List.range l).map g).getD k TS.zero = g k := fun k hk => by
      rw [List.getD_eq_getElem?_getD, List.getElem?_map, List.getElem?_range hk]; rfl
    refine ⟨some a, c, (List.range l).map g, by rw [hlen]; exact hcs, ⟨rfl, by rw [hlen]; unfold maxLen at hm; omega, fun hp => ?_⟩, by omega, hm, fun k hk => ?_⟩
    · rw [hlen] at hp
      refine ⟨a.block, a.off, by rw [spot_none (hg 0 hp).1.1], cell_lt (cell_add (hg 0 hp).1.1), fun k hk => ?_⟩
      rw [hlen] at hk
      obtain ⟨⟨q0, q1, q2, q3⟩, _⟩ := hg k hk
      rw [hat k hk, show a.off + k * 4 + 1 = a.off + (k * 4 + 1) by omega, show a.off + k * 4 + 2 = a.off + (k * 4 + 2) by omega, show a.off + k * 4 + 3 = a.off + (k * 4 + 3) by omega]
      exact ⟨cell_add q0, cell_add q1, cell_add q2, cell_add q3⟩
    · rw [hlen] at hk
      rw [hat k hk]; exact (hg k hk).2
set_option maxRecDepth 100000 in
/-- A fount that came in. -/
theorem open_FRM (hv : Value.okWide Tryz.prog w r b0 42 v) (h : DataW.Trod enc Tryz.prog w 0 (fun _ => true) held 42 v d p) :
    ∃ f A c, v = FT.val f A c ∧ FR w A c f := by
  obtain ⟨v0, v1, v2, y0, y1, y2, n, rfl, _, _, t0, t1, t2⟩ := open_agg3 Tryz.underlying42 (by kernel_rfl) (by kernel_rfl) hv h
  obtain ⟨s0, e0, _, z0⟩ := DataW.trod_string Tryz.underlying9 t0
  obtain ⟨n1, e1, _, z1⟩ := DataW.trod_int Tryz.underlying3 t1
  obtain ⟨A, c, ss, e2, hr, hc, hm, hz⟩ := open_RT_cellsM t2
  simp only [List.cons.injEq, and_true] at e0 e1 e2
  subst e0 e1 e2
  exact ⟨⟨s0, n1, ss⟩, A, c, rfl, ⟨hr, z0, hz, wf_i64 z1, hc, hm⟩⟩
end
end Go.Proofs.YtccdnieoaejgdaaGreatDoor
namespace Go.Proofs.YtccdnieoaejgdaaGreatDoor
open Go.RowKit Go.Lib

/-- A sort that prints "-". -/
def isHy (x : TS) : Bool := decide (x.kind ≠ 3) && decide (x.text = strL [45])
def hyTo (ss : List TS) : Nat → Option Nat
  | 0 => none
  | n + 1 => match hyTo ss n with
    | some k => some k
    | none => if isHy (ss.getD n TS.zero) = true then some n else none
/-- The first sort that prints "-", or -1. -/
def hyS (ss : List TS) : Int := match hyTo ss ss.length with
  | some k => (k : Int)
  | none => -1
theorem hyTo_some {ss : List TS} {k i : Nat} (h : hyTo ss k = some i) : ∀ n, k ≤ n → hyTo ss n = some i
  | 0, hn => by rw [show k = 0 by omega] at h; exact h
  | n + 1, hn => by
    rcases Nat.lt_or_ge n k with h1 | h1
    · rw [show n + 1 = k by omega]; exact h
    · rw [hyTo, hyTo_some h n h1]
theorem dash_list : (strL [45]).toList = [45] := by rw [Go.ByteArray.toList_eq]; rfl
set_option maxRecDepth 100000 in
set_option maxHeartbeats 4000000 in
theorem rHyphen_any (f : FT) (A : Option Addr) (c : Nat) (w : World) (hf : FR w A c f) :
    Calls Tryz.prog 90 #[f.val A c] w (Ret (.int .i64 (hyS f.sorts)) w) := by
  obtain ⟨name, body, ss⟩ := f
  have HRT := Lib.hid hf.rt
  clear hf
  simp only at HRT
  unfold FT.val
  simp only
  have hsb : ss.length ≤ 9223372036854775807 := HRT.out.2.1
  have HFO : Hid (hyS ss = match hyTo ss ss.length with | some k => (k : Int) | none => -1) := Lib.hid rfl
  generalize hyS ss = out at *
  go_enter Tryz.func90, Tryz.ntmps90
  go_upto_region 2 with fail
  have HB := Lib.hid (Blk.new w 42 #[.string name, .int .i64 body, .slice A ss.length c])
  have HX0 : Hid (Ext w (w.alloc (.cells #[.string name, .int .i64 body, .slice A ss.length c] 42))) := Lib.hid ((Ext.refl w).alloc _)
  generalize w.alloc (.cells #[.string name, .int .i64 body, .slice A ss.length c] 42) = w0 at *
  have y2 := HB.out.cell 2 _ rfl
  have yl := HB.out.lt
  have HRX := Lib.hid (HRT.out.ext HX0.out)
  clear HRT HB
  go_loopw [3] (fun v3 wr => ∃ k : Nat, k ≤ ss.length ∧ v3 = .int .i64 (k : Int) ∧ w0 = wr ∧ Hid (hyTo ss k = none)) (fun v3 _ => ss.length - (intOf v3).toNat)
  case atStart => exact ⟨0, Nat.zero_le _, rfl, rfl, Lib.hid rfl⟩
  case round =>
    obtain ⟨k, hk, rfl, rfl, HN⟩ := hrel
    by_cases hlt : k < ss.length
    case pos =>
      have ik : (k : Int) < (ss.length : Int) := by omega
      obtain ⟨g, off, rfl, hgw, hcell⟩ := HRX.out.2.2 (by omega)
      obtain ⟨c0, c1, c2, c3⟩ := hcell k hlt
      clear hcell
      have HJ : Hid (hyTo ss (k + 1) = if (decide ((ss.getD k TS.zero).kind ≠ 3) && decide ((ss.getD k TS.zero).text = strL [45])) = true then some k else none) := Lib.hid (by rw [hyTo, HN.out]; rfl)
      have HS : Hid (hyTo ss (k + 1) = some k → out = (k : Int)) := Lib.hid (fun h => by rw [HFO.out, hyTo_some h ss.length (by omega)])
      generalize (ss.getD k TS.zero).text = tx at *
      generalize (ss.getD k TS.zero).kind = kd at *
      generalize (ss.getD k TS.zero).name = nm at *
      generalize (ss.getD k TS.zero).width = wd at *
      by_cases hkd : kd = 3
      case pos =>
        have HJ2 : Hid (hyTo ss (k + 1) = none) := Lib.hid (by rw [HJ.out, hkd]; rfl)
        subst hkd
        clear HJ HS HFO HN
        go_wp2
        go_roundw
        case rel => exact ⟨k + 1, by omega, by go_num, by trivial, HJ2⟩
        case measure => simp [intOf] <;> omega
      case neg =>
        have k0 : (kd == 3) = false := by rw [beq_eq_false_iff_ne]; exact hkd
        by_cases htx : tx = strL [45]
        case pos =>
          have e0 : (tx.toList == [45]) = true := by rw [htx, dash_list]; rfl
          have HE : Hid (out = (k : Int)) := Lib.hid (HS.out (by rw [HJ.out, decide_eq_true hkd, decide_eq_true htx]; rfl))
          clear HJ HS HFO HN htx
          go_wp2
          go_ret
          exact Ret.mk' (by rw [HE.out]; rfl) HX0.out
        case neg =>
          have e0 : (tx.toList == [45]) = false := by
            have h := str_eq_false htx
            rwa [dash_list] at h
          have HJ2 : Hid (hyTo ss (k + 1) = none) := Lib.hid (by rw [HJ.out, decide_eq_false htx, Bool.and_false]; rfl)
          clear HJ HS HFO HN htx
          go_wp2
          go_roundw
          case rel => exact ⟨k + 1, by omega, by go_num, by trivial, HJ2⟩
          case measure => simp [intOf] <;> omega
    case neg =>
      obtain rfl : k = ss.length := by omega
      have ik : ¬ (ss.length : Int) < (ss.length : Int) := by omega
      have HE : Hid (out = -1) := Lib.hid (by rw [HFO.out, HN.out])
      clear HFO HN
      go_wp2
      go_ret
      exact Ret.mk' (by rw [HE.out]; rfl) HX0.out
end Go.Proofs.YtccdnieoaejgdaaGreatDoor
namespace Go.Proofs.YtccdnieoaejgdaaGreatDoor
open Go.RowKit Go.Lib

set_option maxRecDepth 100000 in
set_option maxHeartbeats 4000000 in
theorem rFountErr_any (f : FT) (A : Option Addr) (c : Nat) (w : World) (hf : FR w A c f) :
    Calls Tryz.prog 27 #[f.val A c] w (Ret (.int .i64 (chk f).2) w) := by
  have HF := Lib.hid hf; clear hf
  have CC := Lib.hid fun W h => rCheckFount_any f A c W h
  have HV : Hid (ChkV f = .tuple #[.int .i64 (chk f).1, .int .i64 (chk f).2]) := Lib.hid rfl
  have HFV : Hid (f.val A c = .agg #[.string f.name, .int .i64 f.body, .slice A f.sorts.length c]) := Lib.hid rfl
  rw [HV.out] at CC
  rw [HFV.out] at CC ⊢
  clear HV HFV
  go_enter Tryz.func27, Tryz.ntmps27
  go_wp2_with (first | (go_at_call 74; refine Calls.mono (CC.out _ (HF.out.ext (by repeat (first | exact Ext.refl _ | assumption | refine Ext.alloc ?_ _ | refine Ext.drew ?_ | refine Ext.drewN ?_ _ | (refine Ext.setCell ?_ (by simp <;> omega) _) | refine Ext.trans ?_ (by assumption))))) ?_; rintro e w1 ⟨rfl, hx⟩; have HX1 := Lib.hid (Ext.trans (a := w) (by repeat (first | exact Ext.refl _ | assumption | refine Ext.alloc ?_ _ | refine Ext.drew ?_ | refine Ext.drewN ?_ _ | (refine Ext.setCell ?_ (by simp <;> omega) _) | refine Ext.trans ?_ (by assumption))) hx); clear hx))
  go_ret
  exact Ret.mk' rfl HX1.out
end Go.Proofs.YtccdnieoaejgdaaGreatDoor
