/-
  Walks: slices.Grow at the nil slice, slices.Concat of leaves.
-/
import Derived.Test.YtniiahddpdiocaaFoldPile
import Derived.Lib.AppendZerosOnto
namespace Go.Proofs.Ytniiahddpdiocaa
open Go.RowKit

section
variable {sl el : TypeId} {size bytes : Nat} {z : Value} (K : Elt sl el size bytes z)
include K
set_option maxRecDepth 100000 in
theorem run_growC {w : World} {n : Nat} (h0 : 0 < n) (hn : n ≤ 1000000) (ty : TypeId) :
    ∃ cap w', (Builtin.append_ #[sl, 3] ty #[.slice none 0 0, .int .i64 (n : Int)]).run Try.prog w = .ok (.slice (some ⟨w.heap.size, 0, none⟩) n cap) w' ∧ n ≤ cap ∧ w'.ownsRow w.heap.size el size (.slice (some ⟨w.heap.size, 0, none⟩) 0 cap) 0 [] ∧ Ext w w' := by
  obtain ⟨i0, hi, hz0, hz1, hz2⟩ := K.parts
  have hle0 := K.le
  have hbb : n * bytes ≤ 1000000 * 1000 := Nat.mul_le_mul hn hle0
  have hr := Lib.run_append_grow_zeros (P := Try.prog) w sl 3 ty el i0 z .i64 .i64 K.und Try.underlying3 hi hz0 none 0 0 [] (run_firstCells_none w.drew i0.size 0 0 0) n h0 (by rw [hz1]; exact K.pos) (by omega) (by omega) (by rw [hz2]; omega) (growslice_fits (by omega) (by rw [hz2, Nat.zero_add]; omega))
  have hge := grownCap_ge w (0 + n) 0 el
  have hle := grownCap_le_maxLen w (0 + n) 0 el (by unfold maxLen; omega)
  generalize grownCap w (0 + n) 0 el = G at *
  rw [Nat.zero_add] at *
  refine ⟨G, _, hr, hge, ⟨by simp, .inr ⟨w.heap.size, G, (#[] ++ Builtin.zeroCells z.cells n ++ Builtin.zeroCells z.cells (G - n)), rfl, Nat.le_refl _, ?_, Nat.zero_le _, hle, ?_, by simp⟩⟩, ?_⟩
  · have hb := Blk.new w.drew el (#[] ++ Builtin.zeroCells z.cells n ++ Builtin.zeroCells z.cells (G - n))
    exact hb
  · have e := K.zs
    simp only [Array.size_append, size_zeroCells, e]
    simp
    rw [← Nat.add_mul]
    congr 1
    omega
  · exact (Ext.refl w).drew.alloc _
theorem list_growC {w : World} {ops : Array Oper} {rest : List Oper} {o : Oper} {a : Act} {Q : Exit → Act → World → Prop} (hgd : o.guard = none) (s x : Operand) (ho : o.op = .call { callee := .builtin .append, args := #[s, x], argTypes := #[sl, 3] })
    (n : Nat) (h0 : 0 < n) (hn : n ≤ 1000000) (hs : a.eval s = .slice none 0 0) (hx : a.eval x = .int .i64 (n : Int))
    (h : ∀ cap w', n ≤ cap → w'.ownsRow w.heap.size el size (.slice (some ⟨w.heap.size, 0, none⟩) 0 cap) 0 [] → Ext w w' → wpList Try.prog ops Q rest (a.put o.dst (.slice (some ⟨w.heap.size, 0, none⟩) n cap)) w') : wpList Try.prog ops Q (o :: rest) a w := by
  refine wpList_plain hgd fun K9 hK => ?_
  obtain ⟨cap, w', hr', h1, h2, h3⟩ := run_growC K (w := w) h0 hn o.type
  unfold Oper.wp execOp
  simp only [ho, resolve, invoke, builtin, Sem.run_bind, Sem.run_pure, Result.andThen_ok, List.map_toArray, List.map_cons, List.map_nil, hs, hx, hr']
  exact hK _ _ (h cap w' h1 h2 h3)
end
set_option maxRecDepth 100000 in
set_option maxHeartbeats 4000000 in
theorem growLf_any (n : Nat) (hn : n ≤ 1000000) (w : World) : Calls Try.prog 95 #[.slice none 0 0, .int .i64 (n : Int)] w (fun e w' => ∃ v, e = .returned v ∧ OLf w' w.heap.size v [] ∧ Ext w w') := by
  have h1 : ¬ ((n : Int) < 0) := by omega
  rcases Nat.eq_zero_or_pos n with h0 | h0
  · subst h0
    go_enter Try.func95, Try.ntmps95
    go_wp2
    go_ret
    exact ⟨_, rfl, OLf.nil _ _, Ext.refl _⟩
  · have h2 : (0 : Int) < (n : Int) := by omega
    have h3 : IntKind.i64.wrap ((n : Int) - 0) = (n : Int) := by rw [IntWalk.i64_in _ (by omega)]; omega
    have h4 : IntKind.i64.wrap (n : Int) = (n : Int) := IntWalk.i64_in _ (by omega)
    go_enter Try.func95, Try.ntmps95
    go_wp2_with (first | (at_builtin; refine list_growC leafElt rfl (.tmp 20) (.tmp 21) rfl n h0 hn rfl rfl ?_; intro cap w' hc ho hx; have HO := Lib.hid ho; have HX := Lib.hid hx; clear ho hx))
    all_goals go_ret
    all_goals exact ⟨_, rfl, OLf.ext HO.out (by repeat (first | exact Ext.refl _ | assumption | refine Ext.alloc ?_ _ | refine Ext.drew ?_ | refine Ext.drewN ?_ _ | (refine Ext.setCell ?_ (by simp <;> omega) _) | refine Ext.trans ?_ (by assumption))), HX.out.trans (by repeat (first | exact Ext.refl _ | assumption | refine Ext.alloc ?_ _ | refine Ext.drew ?_ | refine Ext.drewN ?_ _ | (refine Ext.setCell ?_ (by simp <;> omega) _) | refine Ext.trans ?_ (by assumption)))⟩
/-- How many leaves several stacks have; the stacks one behind the other. -/
def lnTo (rows : List SLf) : Nat → Nat
  | 0 => 0
  | k + 1 => lnTo rows k + (rows.getD k SLf.none_).l.length
theorem lnTo_mono (rows : List SLf) : ∀ {k n : Nat}, k ≤ n → lnTo rows k ≤ lnTo rows n
  | k, 0, h => by
    obtain rfl : k = 0 := by omega
    exact Nat.le_refl _
  | k, n + 1, h => by
    rcases Nat.lt_or_ge k (n + 1) with h1 | h1
    · have := lnTo_mono rows (k := k) (n := n) (by omega)
      rw [lnTo]; omega
    · obtain rfl : k = n + 1 := by omega
      exact Nat.le_refl _
def ctTo (rows : List SLf) : Nat → List Lf
  | 0 => []
  | k + 1 => ctTo rows k ++ (rows.getD k SLf.none_).l
theorem ctTo_len (rows : List SLf) : ∀ k, (ctTo rows k).length = lnTo rows k
  | 0 => rfl
  | k + 1 => by rw [ctTo, lnTo, List.length_append, ctTo_len rows k]
theorem RPl.at_ {w : World} {A : Option Addr} {rows : List SLf} (h : RPl w A rows) {k : Nat} (hk : k < rows.length) : ∃ (b off : Nat), A = some ⟨b, off, none⟩ ∧ b < w.heap.size ∧ w.cell? ⟨b, off + k, none⟩ = some (rows.getD k SLf.none_).val ∧ RLf w (rows.getD k SLf.none_).A (rows.getD k SLf.none_).l := by
  obtain ⟨b, off, rfl, hb, hc⟩ := h.rc.2.2 (by omega)
  have e : rows.getD k SLf.none_ = rows[k] := by rw [List.getD_eq_getElem?_getD, List.getElem?_eq_getElem hk]; rfl
  rw [e]
  exact ⟨b, off, rfl, hb, hc k _ (by rw [List.getElem?_map, List.getElem?_eq_getElem hk]; rfl), h.mem _ (List.getElem_mem hk)⟩
set_option maxRecDepth 100000 in
set_option maxHeartbeats 8000000 in
theorem concatLf_any (B : Option Addr) (d : Nat) (rows : List SLf) (w : World) (h : RPl w B rows) (hn : rows.length ≤ 1000) (hl : lnTo rows rows.length ≤ 1000000) :
    Calls Try.prog 91 #[.slice B rows.length d] w (RetLf (ctTo rows rows.length) w) := by
  have HR := Lib.hid h; clear h
  have HLM := Lib.hid (fun k (hk : k ≤ rows.length) => Nat.le_trans (lnTo_mono rows hk) hl)
  have HLS : Hid (∀ k, lnTo rows (k + 1) = lnTo rows k + (rows.getD k SLf.none_).l.length) := Lib.hid fun _ => rfl
  have HCS : Hid (∀ k, ctTo rows (k + 1) = ctTo rows k ++ (rows.getD k SLf.none_).l) := Lib.hid fun _ => rfl
  have HCL := Lib.hid (ctTo_len rows)
  have HC0 : Hid (ctTo rows 0 = []) := Lib.hid rfl
  have hl0 : lnTo rows 0 = 0 := rfl
  have hbig : rows.length ≤ 9223372036854775807 := by omega
  generalize lnTo rows = ln at *
  generalize ctTo rows = ct at *
  go_enter Try.func91, Try.ntmps91
  go_wp2
  go_loopw [11, 3, 5] (fun j v _ wr => ∃ k : Nat, k ≤ rows.length ∧ j = .int .i64 (k : Int) ∧ v = .int .i64 ((ln k : Nat) : Int) ∧ w = wr) (fun j _ _ _ => rows.length - (intOf j).toNat)
  case atStart => exact ⟨0, Nat.zero_le _, rfl, by rw [hl0]; rfl, rfl⟩
  case round =>
    obtain ⟨k, hk, rfl, rfl, rfl⟩ := hrel
    by_cases hlt : k < rows.length
    case pos =>
      have i1 : (k : Int) < (rows.length : Int) := by omega
      obtain ⟨b, off, rfl, hbw, ck, _⟩ := HR.out.at_ hlt
      have hls := HLS.out k
      have hlm := HLM.out (k + 1) hlt
      generalize rows.getD k SLf.none_ = s at *
      obtain ⟨sA, sc, zs⟩ := s
      simp only [SLf.val] at *
      obtain ⟨m1, hm1⟩ : ∃ m1, m1 = ln (k + 1) := ⟨_, rfl⟩
      obtain ⟨m, hm⟩ : ∃ m, m = ln k := ⟨_, rfl⟩
      rw [← hm1, ← hm] at hls
      rw [← hm1] at hlm
      rw [← hm]
      have hw : IntKind.i64.wrap ((m : Int) + (zs.length : Int)) = (m1 : Int) := by rw [IntWalk.i64_in _ (by omega)]; omega
      have i2 : ¬ (m1 : Int) < 0 := by omega
      have hz : zs.length ≤ 9223372036854775807 := by omega
      go_wp2
      go_roundw
      case rel => exact ⟨k + 1, by omega, by go_num, by congr 1; omega, by trivial⟩
      case measure => simp [intOf] <;> omega
    case neg =>
      obtain rfl : k = rows.length := by omega
      have i1 : ¬ (rows.length : Int) < (rows.length : Int) := by omega
      have CG := Lib.hid (fun W => growLf_any (ln rows.length) hl W)
      clear hlt
      go_wp2_with (first | (go_at_call 95; refine Calls.mono (CG.out _) ?_; rintro e w1 ⟨v0, rfl, ho, hb⟩; have HO := Lib.hid ho; have HX := Lib.hid hb; clear ho hb))
      have HO1 : Hid (OLf w1 w.heap.size v0 (ct 0)) := Lib.hid (by rw [HC0.out]; exact HO.out)
      have HX1 := HX
      clear HO HX
      go_loopw [27, 6, 8] (fun j v _ wr2 => ∃ k : Nat, k ≤ rows.length ∧ j = .int .i64 (k : Int) ∧ Hid (OLf wr2 w.heap.size v (ct k)) ∧ Hid (Ext w wr2)) (fun j _ _ _ => rows.length - (intOf j).toNat)
      case atStart => exact ⟨0, Nat.zero_le _, rfl, HO1, HX1⟩
      case round =>
        obtain ⟨k, hk, rfl, HO, HX⟩ := hrel
        clear HO1 HX1
        by_cases hlt : k < rows.length
        case pos =>
          have i2 : (k : Int) < (rows.length : Int) := by omega
          obtain ⟨b, off, rfl, hbw, ck, hri⟩ := (HR.out.ext HX.out).at_ hlt
          have HCK := Lib.hid (HCS.out k)
          have hls := HLS.out k
          have hlm := HLM.out (k + 1) hlt
          have hcl := HCL.out k
          generalize rows.getD k SLf.none_ = s at *
          obtain ⟨sA, sc, zs⟩ := s
          simp only [SLf.val] at *
          have HRI := Lib.hid hri
          have hsum : (ct k).length + zs.length ≤ 1000000 := by omega
          have HSU := Lib.hid hsum
          have hz : zs.length ≤ 9223372036854775807 := by omega
          generalize ct k = c0 at *
          clear hri hcl
          go_wp2_with (first | (at_builtin; refine list_appendC leafElt rfl (.tmp 31) (.tmp 32) rfl w.heap.size c0.length _ (lfCells c0) rfl (OLf.ext HO.out (by repeat (first | exact Ext.refl _ | assumption | refine Ext.alloc ?_ _ | refine Ext.drew ?_ | refine Ext.drewN ?_ _ | (refine Ext.setCell ?_ (by simp <;> omega) _) | refine Ext.trans ?_ (by assumption)))) sA zs.length sc (lfCells zs) rfl (RLf.ext HRI.out (by repeat (first | exact Ext.refl _ | assumption | refine Ext.alloc ?_ _ | refine Ext.drew ?_ | refine Ext.drewN ?_ _ | (refine Ext.setCell ?_ (by simp <;> omega) _) | refine Ext.trans ?_ (by assumption)))) (lfCells_one zs) HSU.out (by have := HX.out.size; first | omega | (simp; omega)) ?_; intro v' w' ho hg; have HO2 : Hid (OLf w' w.heap.size v' (c0 ++ zs)) := Lib.hid (by unfold OLf; rw [List.length_append, lfCells_app]; exact ho); have HX2 := Lib.hid (own_grown (OLf.ext HO.out (by repeat (first | exact Ext.refl _ | assumption | refine Ext.alloc ?_ _ | refine Ext.drew ?_ | refine Ext.drewN ?_ _ | (refine Ext.setCell ?_ (by simp <;> omega) _) | refine Ext.trans ?_ (by assumption)))) hg (HX.out.trans (by repeat (first | exact Ext.refl _ | assumption | refine Ext.alloc ?_ _ | refine Ext.drew ?_ | refine Ext.drewN ?_ _ | (refine Ext.setCell ?_ (by simp <;> omega) _) | refine Ext.trans ?_ (by assumption)))) (Nat.le_refl _)); clear ho hg))
          go_roundw
          case rel => exact ⟨k + 1, by omega, by go_num, Lib.hid (by rw [HCK.out]; exact HO2.out), HX2⟩
          case measure => simp [intOf] <;> omega
        case neg =>
          obtain rfl : k = rows.length := by omega
          have i2 : ¬ (rows.length : Int) < (rows.length : Int) := by omega
          go_wp2
          go_ret
          exact ⟨_, rfl, OLf.ext HO.out (by repeat (first | exact Ext.refl _ | assumption | refine Ext.alloc ?_ _ | refine Ext.drew ?_ | refine Ext.drewN ?_ _ | (refine Ext.setCell ?_ (by simp <;> omega) _) | refine Ext.trans ?_ (by assumption))), HX.out.trans (by repeat (first | exact Ext.refl _ | assumption | refine Ext.alloc ?_ _ | refine Ext.drew ?_ | refine Ext.drewN ?_ _ | (refine Ext.setCell ?_ (by simp <;> omega) _) | refine Ext.trans ?_ (by assumption)))⟩
end Go.Proofs.Ytniiahddpdiocaa
