/-
  Walks: slices.Grow at the nil slice, slices.Concat of slices of ints.
-/
import Derived.Test.YtfkjhgcablakgaaGreatDoorGE
import Derived.Test.YtfkjhgcablakgaaGreatDoorColMem
import Derived.Lib.AppendZerosOnto
namespace Go.Proofs.YtfkjhgcablakgaaGreatDoor
open Go.RowKit Go.Lib

theorem run_growI {w : World} {n : Nat} (h0 : 0 < n) (hn : n ≤ 1000000) (ty : TypeId) :
    ∃ cap w', (Builtin.append_ #[25, 3] ty #[.slice none 0 0, .int .i64 (n : Int)]).run Tryz.prog w = .ok (.slice (some ⟨w.heap.size, 0, none⟩) n cap) w' ∧ n ≤ cap ∧ Own w' w.heap.size (.slice (some ⟨w.heap.size, 0, none⟩) 0 cap) [] ∧ Ext w w' := by
  obtain ⟨i0, hi, hz0, hz1, hz2⟩ := info_parts intInfo
  have hr := run_append_grow_zeros (P := Tryz.prog) w 25 3 ty 3 i0 (.int .i64 0) .i64 .i64 Tryz.underlying25 Tryz.underlying3 hi hz0 none 0 0 [] (run_firstCells_none w.drew i0.size 0 0 0) n h0 (by omega) (by omega) (by omega) (by rw [hz2]; omega) (growslice_fits (by omega) (by rw [hz2]; omega))
  have hge := grownCap_ge w (0 + n) 0 3
  have hle := grownCap_le_maxLen w (0 + n) 0 3 (by unfold maxLen; omega)
  generalize grownCap w (0 + n) 0 3 = G at *
  rw [Nat.zero_add] at *
  refine ⟨G, _, hr, hge, ⟨rfl, .inr ⟨w.heap.size, G, (#[] ++ Builtin.zeroCells (Value.int IntKind.i64 0).cells n ++ Builtin.zeroCells (Value.int IntKind.i64 0).cells (G - n)), rfl, Nat.le_refl _, ?_, Nat.zero_le _, hle, ?_, by simp⟩⟩, ?_⟩
  · exact (World.alloc_heap_new w.drew _)
  · simp [size_zeroCells, Value.cells]; omega
  · exact (Ext.refl w).drew.alloc _
theorem list_growI {w : World} {ops : Array Oper} {rest : List Oper} {o : Oper} {a : Act} {Q : Exit → Act → World → Prop} (hgd : o.guard = none) (s x : Operand) (ho : o.op = .call { callee := .builtin .append, args := #[s, x], argTypes := #[25, 3] })
    (n : Nat) (h0 : 0 < n) (hn : n ≤ 1000000) (hs : a.eval s = .slice none 0 0) (hx : a.eval x = .int .i64 (n : Int))
    (h : ∀ cap w', n ≤ cap → Own w' w.heap.size (.slice (some ⟨w.heap.size, 0, none⟩) 0 cap) [] → Ext w w' → wpList Tryz.prog ops Q rest (a.put o.dst (.slice (some ⟨w.heap.size, 0, none⟩) n cap)) w') : wpList Tryz.prog ops Q (o :: rest) a w := by
  refine wpList_plain hgd fun K hK => ?_
  obtain ⟨cap, w', hr', h1, h2, h3⟩ := run_growI (w := w) h0 hn o.type
  unfold Oper.wp execOp
  simp only [ho, resolve, invoke, builtin, Sem.run_bind, Sem.run_pure, Result.andThen_ok, List.map_toArray, List.map_cons, List.map_nil, hs, hx, hr']
  exact hK _ _ (h cap w' h1 h2 h3)
set_option maxRecDepth 100000 in
set_option maxHeartbeats 4000000 in
theorem growNil_any (n : Nat) (hn : n ≤ 1000000) (w : World) : Calls Tryz.prog 103 #[.slice none 0 0, .int .i64 (n : Int)] w (fun e w' => ∃ v, e = .returned v ∧ Own w' w.heap.size v [] ∧ Ext w w') := by
  have h1 : ¬ ((n : Int) < 0) := by omega
  rcases Nat.eq_zero_or_pos n with h0 | h0
  · subst h0
    go_enter Tryz.func103, Tryz.ntmps103
    go_wp2
    go_ret
    exact ⟨_, rfl, Own.nil _ _, Ext.refl _⟩
  · have h2 : (0 : Int) < (n : Int) := by omega
    have h3 : IntKind.i64.wrap ((n : Int) - 0) = (n : Int) := by rw [IntWalk.i64_in _ (by omega)]; omega
    have h4 : IntKind.i64.wrap (n : Int) = (n : Int) := IntWalk.i64_in _ (by omega)
    go_enter Tryz.func103, Tryz.ntmps103
    go_wp2_with (first | (at_builtin; refine list_growI rfl (.tmp 20) (.tmp 21) rfl n h0 hn rfl rfl ?_; intro cap w' hc ho hx; have HO := Lib.hid ho; have HX := Lib.hid hx; clear ho hx))
    all_goals go_ret
    all_goals exact ⟨_, rfl, HO.out.ext (by repeat (first | exact Ext.refl _ | assumption | refine Ext.alloc ?_ _ | refine Ext.drew ?_ | refine Ext.drewN ?_ _ | (refine Ext.setCell ?_ (by simp <;> omega) _) | refine Ext.trans ?_ (by assumption))), HX.out.trans (by repeat (first | exact Ext.refl _ | assumption | refine Ext.alloc ?_ _ | refine Ext.drew ?_ | refine Ext.drewN ?_ _ | (refine Ext.setCell ?_ (by simp <;> omega) _) | refine Ext.trans ?_ (by assumption)))⟩
/-- How many items several lists have. -/
def lenTo (rows : List SI) : Nat → Nat
  | 0 => 0
  | k + 1 => lenTo rows k + (rows.getD k SI.none_).zs.length
theorem lenTo_mono (rows : List SI) : ∀ {k n : Nat}, k ≤ n → lenTo rows k ≤ lenTo rows n
  | k, 0, h => by
    obtain rfl : k = 0 := by omega
    exact Nat.le_refl _
  | k, n + 1, h => by
    rcases Nat.lt_or_ge k (n + 1) with h1 | h1
    · have := lenTo_mono rows (k := k) (n := n) (by omega)
      rw [lenTo]; omega
    · obtain rfl : k = n + 1 := by omega
      exact Nat.le_refl _
/-- Several lists, one behind the other. -/
def catTo (rows : List SI) : Nat → List Int
  | 0 => []
  | k + 1 => catTo rows k ++ (rows.getD k SI.none_).zs
theorem catTo_len (rows : List SI) : ∀ k, (catTo rows k).length = lenTo rows k
  | 0 => rfl
  | k + 1 => by rw [catTo, lenTo, List.length_append, catTo_len rows k]
set_option maxRecDepth 100000 in
set_option maxHeartbeats 8000000 in
theorem concat_any (B : Option Addr) (d : Nat) (rows : List SI) (w : World) (h : RL w B rows.length rows) (hn : rows.length ≤ 1000) (hl : lenTo rows rows.length ≤ 1000000) :
    Calls Tryz.prog 68 #[.slice B rows.length d] w (RetS (catTo rows rows.length) w) := by
  have HR := Lib.hid h; clear h
  have HLM := Lib.hid (fun k (hk : k ≤ rows.length) => Nat.le_trans (lenTo_mono rows hk) hl)
  have HLS : Hid (∀ k, lenTo rows (k + 1) = lenTo rows k + (rows.getD k SI.none_).zs.length) := Lib.hid fun _ => rfl
  have HCS : Hid (∀ k, catTo rows (k + 1) = catTo rows k ++ (rows.getD k SI.none_).zs) := Lib.hid fun _ => rfl
  have HCL := Lib.hid (catTo_len rows)
  have HC0 : Hid (catTo rows 0 = []) := Lib.hid rfl
  have hl0 : lenTo rows 0 = 0 := rfl
  generalize lenTo rows = ln at *
  generalize catTo rows = ct at *
  go_enter Tryz.func68, Tryz.ntmps68
  go_wp2
  go_loopw [11, 3] (fun j v wr => ∃ k : Nat, k ≤ rows.length ∧ j = .int .i64 (k : Int) ∧ v = .int .i64 ((ln k : Nat) : Int) ∧ w = wr) (fun j _ _ => rows.length - (intOf j).toNat)
  case atStart => exact ⟨0, Nat.zero_le _, rfl, by rw [hl0]; rfl, rfl⟩
  case round =>
    obtain ⟨k, hk, rfl, rfl, rfl⟩ := hrel
    by_cases hlt : k < rows.length
    case pos =>
      have i1 : (k : Int) < (rows.length : Int) := by omega
      obtain ⟨b, off, rfl, hbw, hcell⟩ := HR.out.2.2.1 (by omega)
      have ck := hcell k hlt
      have hls := HLS.out k
      have hlm := HLM.out (k + 1) hlt
      clear hcell
      generalize rows.getD k SI.none_ = s at *
      obtain ⟨sA, sc, zs⟩ := s
      simp only [SI.val] at *
      obtain ⟨m1, hm1⟩ : ∃ m1, m1 = ln (k + 1) := ⟨_, rfl⟩
      obtain ⟨m, hm⟩ : ∃ m, m = ln k := ⟨_, rfl⟩
      rw [← hm1, ← hm] at hls
      rw [← hm1] at hlm
      rw [← hm]
      have hw : IntKind.i64.wrap ((m : Int) + (zs.length : Int)) = (m1 : Int) := by rw [IntWalk.i64_in _ (by omega)]; omega
      have i2 : ¬ (m1 : Int) < 0 := by omega
      go_wp2
      go_roundw
      case rel => exact ⟨k + 1, by omega, by go_num, by congr 1; omega, by trivial⟩
      case measure => simp [intOf] <;> omega
    case neg =>
      obtain rfl : k = rows.length := by omega
      have i1 : ¬ (rows.length : Int) < (rows.length : Int) := by omega
      have CG := Lib.hid (fun W => growNil_any (ln rows.length) hl W)
      clear hlt
      go_wp2_with (first | (go_at_call 103; refine Calls.mono (CG.out _) ?_; rintro e w1 ⟨v0, rfl, ho, hb⟩; have HO := Lib.hid ho; have HX := Lib.hid hb; clear ho hb))
      have HO1 : Hid (Own w1 w.heap.size v0 (ct 0)) := Lib.hid (by rw [HC0.out]; exact HO.out)
      have HX1 := HX
      clear HO HX
      go_loopw [27, 6] (fun j v wr2 => ∃ k : Nat, k ≤ rows.length ∧ j = .int .i64 (k : Int) ∧ Hid (Own wr2 w.heap.size v (ct k)) ∧ Hid (Ext w wr2)) (fun j _ _ => rows.length - (intOf j).toNat)
      case atStart => exact ⟨0, Nat.zero_le _, rfl, HO1, HX1⟩
      case round =>
        obtain ⟨k, hk, rfl, HO, HX⟩ := hrel
        clear HO1 HX1
        by_cases hlt : k < rows.length
        case pos =>
          have i2 : (k : Int) < (rows.length : Int) := by omega
          obtain ⟨b, off, rfl, hbw, hcell⟩ := (HR.out.ext HX.out).2.2.1 (by omega)
          have ck := hcell k hlt
          have hri := (HR.out.ext HX.out).2.2.2 k hlt
          have HCK := Lib.hid (HCS.out k)
          have hls := HLS.out k
          have hlm := HLM.out (k + 1) hlt
          have hcl := HCL.out k
          clear hcell
          generalize rows.getD k SI.none_ = s at *
          obtain ⟨sA, sc, zs⟩ := s
          simp only [SI.val] at *
          have HRI := Lib.hid hri
          have hsum : (ct k).length + zs.length ≤ 1000000 := by omega
          have HSU := Lib.hid hsum
          generalize ct k = c0 at *
          clear hri hcl
          go_wp2_with (first | (at_builtin; refine list_appendI rfl (.tmp 31) (.tmp 32) rfl w.heap.size _ c0 rfl (HO.out.ext (by repeat (first | exact Ext.refl _ | assumption | refine Ext.alloc ?_ _ | refine Ext.drew ?_ | refine Ext.drewN ?_ _ | (refine Ext.setCell ?_ (by simp <;> omega) _) | refine Ext.trans ?_ (by assumption)))) sA sc zs rfl (HRI.out.ext (by repeat (first | exact Ext.refl _ | assumption | refine Ext.alloc ?_ _ | refine Ext.drew ?_ | refine Ext.drewN ?_ _ | (refine Ext.setCell ?_ (by simp <;> omega) _) | refine Ext.trans ?_ (by assumption)))) HSU.out (by have := HX.out.size; first | omega | (simp; omega)) ?_; intro v' w' ho hg; have HO2 := Lib.hid ho; have HX2 := Lib.hid (own_ext hg (HO.out.ext (by repeat (first | exact Ext.refl _ | assumption | refine Ext.alloc ?_ _ | refine Ext.drew ?_ | refine Ext.drewN ?_ _ | (refine Ext.setCell ?_ (by simp <;> omega) _) | refine Ext.trans ?_ (by assumption)))) (HX.out.trans (by repeat (first | exact Ext.refl _ | assumption | refine Ext.alloc ?_ _ | refine Ext.drew ?_ | refine Ext.drewN ?_ _ | (refine Ext.setCell ?_ (by simp <;> omega) _) | refine Ext.trans ?_ (by assumption))))); clear ho hg))
          go_roundw
          case rel => exact ⟨k + 1, by omega, by go_num, Lib.hid (by rw [HCK.out]; exact HO2.out), HX2⟩
          case measure => simp [intOf] <;> omega
        case neg =>
          obtain rfl : k = rows.length := by omega
          have i2 : ¬ (rows.length : Int) < (rows.length : Int) := by omega
          have hcl := HCL.out rows.length
          go_wp2
          go_ret
          exact RetI.s (by omega) _ _ ⟨_, rfl, HO.out.ext (by repeat (first | exact Ext.refl _ | assumption | refine Ext.alloc ?_ _ | refine Ext.drew ?_ | refine Ext.drewN ?_ _ | (refine Ext.setCell ?_ (by simp <;> omega) _) | refine Ext.trans ?_ (by assumption))), HX.out.trans (by repeat (first | exact Ext.refl _ | assumption | refine Ext.alloc ?_ _ | refine Ext.drew ?_ | refine Ext.drewN ?_ _ | (refine Ext.setCell ?_ (by simp <;> omega) _) | refine Ext.trans ?_ (by assumption)))⟩
end Go.Proofs.YtfkjhgcablakgaaGreatDoor
