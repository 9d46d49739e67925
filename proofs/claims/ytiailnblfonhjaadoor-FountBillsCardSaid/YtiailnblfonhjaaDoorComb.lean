/-
  Walks: combined makes counts of two ones, sort by sort.
-/
import Derived.Test.YtiailnblfonhjaaDoorCheck
import Derived.StillTailTactics
import Derived.Deep.AppendLies
import Derived.Deep.RegionHeld3
import Derived.Deep.RegionWith
namespace Go.Proofs.YtiailnblfonhjaaDoor
open Go.RowKit

theorem intInfo : (Tryd.prog.info? 3).map (fun i => (i.zero, i.size, i.bytes)) = some (some (.int .i64 0), 1, 8) := by kernel_rfl
/-- v is a slice of the call's own (from block base on) that holds zs. -/
def Own (w : World) (base : Nat) (v : Value) (zs : List Int) : Prop := w.ownsRow base 3 1 v zs.length (zs.map (Value.int .i64))
theorem Own.nil (w : World) (base : Nat) : Own w base (.slice none 0 0) [] := World.ownsRow_nil _ _ _ _
theorem Own.form {w : World} {base : Nat} {v : Value} {zs : List Int} (h : Own w base v zs) (hz : zs.length ≤ 140737488351232) : ∃ A c, v = .slice A zs.length c ∧ zs.length ≤ c ∧ RI w A zs.length zs := by
  rcases Nat.eq_zero_or_pos zs.length with h0 | h0
  · obtain rfl := List.eq_nil_of_length_eq_zero h0
    rcases h.2 with ⟨rfl, _⟩ | ⟨g, cap, cur, rfl, _⟩
    · exact ⟨none, 0, rfl, by simp, RI.nil⟩
    · exact ⟨_, cap, rfl, by simp, rfl, by simp, fun h => absurd h (by simp)⟩
  · obtain ⟨g, cap, hv, hg, hlt⟩ := World.ownsRow.form h h0
    subst hv
    have hc := World.ownsRow.cells (g := g) h rfl
    rcases h.2 with ⟨hv, _⟩ | ⟨g', cap', cur, hv, _, _, hcap, _⟩
    · cases hv
    · cases hv
      refine ⟨_, cap, rfl, by omega, rfl, by omega, fun _ => ⟨g, 0, rfl, hlt, fun k hk => ?_⟩⟩
      have := hc k (.int .i64 (zs.getD k 0)) (by rw [List.getElem?_map, List.getElem?_eq_getElem hk, List.getD_eq_getElem?_getD, List.getElem?_eq_getElem hk]; rfl)
      rw [show (0 + k) = k by omega]
      unfold Addr.add at this
      by_cases hk0 : k = 0
      · subst hk0; simpa using this
      · rw [if_neg hk0] at this; simpa using this
theorem Own.base_le {w : World} {base : Nat} {v : Value} {zs : List Int} (h : Own w base v zs) : ∀ k, v.ownBlock = some k → base ≤ k := fun k hk => (World.ownsRow.lt h k hk).1
/-- The call hands back a new slice of ints. -/
def RetI (zs : List Int) (w : World) (e : Ending) (w' : World) : Prop := ∃ v, e = .returned v ∧ Own w' w.heap.size v zs ∧ Ext w w'

theorem take_snoc (zs : List Int) (k : Nat) (h : k < zs.length) : zs.take (k + 1) = zs.take k ++ [zs.getD k 0] := by
  rw [List.take_succ_eq_append_getElem h, List.getD_eq_getElem?_getD, List.getElem?_eq_getElem h]; rfl
/-- One number is appended to a slice of the call's own. -/
theorem run_push {w : World} {base : Nat} {v : Value} {zs : List Int} {g0 : Nat} {z : Int} (hown : Own w base v zs) (hb : w.cell? ⟨g0, 0, none⟩ = some (.int .i64 z)) (hlen : zs.length ≤ 1000000) (hbase : base ≤ w.heap.size) (ty : TypeId) :
    ∃ v' w', (Builtin.append_ #[25, 25] ty #[v, .slice (some ⟨g0, 0, none⟩) 1 1]).run Tryd.prog w = .ok v' w' ∧ Own w' base v' (zs ++ [z]) ∧ w.grownBy w' v.ownBlock := by
  obtain ⟨i0, hi, hz0, hz1, hz2⟩ := info_parts intInfo
  obtain ⟨g, cap, w', hr, h2, h3, _⟩ := run_append_lies (P := Tryd.prog) w 25 ty base 3 i0 (.int .i64 0) 1 8 Tryd.underlying25 hi hz0 hz1 hz2 rfl (by decide) v zs.length _ hown ⟨g0, 0, none⟩ 1 1 [.int .i64 z] rfl
    (fun j u hj => by match j, hj with | 0, hj => simp at hj; subst hj; simpa [Addr.add] using hb) (fun u hu => by simp at hu; subst hu; rfl) (by decide) (by unfold maxLen; omega) (by omega) hbase _ rfl
  exact ⟨_, w', hr, by unfold Own; simpa using h2, h3⟩
theorem wp_push {w : World} {o : Oper} {a : Act} {K : Act → World → Prop} {Q : Exit → Act → World → Prop} (s x : Operand) (ho : o.op = .call { callee := .builtin .append, args := #[s, x], argTypes := #[25, 25] })
    (base : Nat) (v : Value) (zs : List Int) (hs : a.eval s = v) (hown : Own w base v zs) (g0 : Nat) (z : Int) (hx : a.eval x = .slice (some ⟨g0, 0, none⟩) 1 1) (hb : w.cell? ⟨g0, 0, none⟩ = some (.int .i64 z)) (hlen : zs.length ≤ 1000000) (hbase : base ≤ w.heap.size)
    (h : ∀ v' w', Own w' base v' (zs ++ [z]) → w.grownBy w' v.ownBlock → K (a.put o.dst v') w') : o.wp Tryd.prog a w K Q := by
  obtain ⟨v', w', hr, h2, h3⟩ := run_push hown hb hlen hbase o.type
  unfold Oper.wp execOp
  simp only [ho, resolve, invoke, builtin, Sem.run_bind, Sem.run_pure, Result.andThen_ok, List.map_toArray, List.map_cons, List.map_nil, hs, hx, hr]
  exact h v' w' h2 h3
theorem step_push {w : World} {ops : Array Oper} {o : Oper} {a : Act} {K : Act → World → Prop} {Q : Exit → Act → World → Prop} {E : Prop} (hgd : o.guard = none) (s x : Operand) (ho : o.op = .call { callee := .builtin .append, args := #[s, x], argTypes := #[25, 25] })
    (base : Nat) (v : Value) (zs : List Int) (hs : a.eval s = v) (hown : Own w base v zs) (g0 : Nat) (z : Int) (hx : a.eval x = .slice (some ⟨g0, 0, none⟩) 1 1) (hb : w.cell? ⟨g0, 0, none⟩ = some (.int .i64 z)) (hlen : zs.length ≤ 1000000) (hbase : base ≤ w.heap.size)
    (h : ∀ v' w', Own w' base v' (zs ++ [z]) → w.grownBy w' v.ownBlock → K (a.put o.dst v') w') : if Region.wanted o (yielded ops a.tmps) = true then Oper.wp Tryd.prog o a w K Q else E := by
  rw [if_pos (by simp [Region.wanted, hgd])]
  exact wp_push s x ho base v zs hs hown g0 z hx hb hlen hbase h
theorem list_push {w : World} {ops : Array Oper} {rest : List Oper} {o : Oper} {a : Act} {Q : Exit → Act → World → Prop} (hgd : o.guard = none) (s x : Operand) (ho : o.op = .call { callee := .builtin .append, args := #[s, x], argTypes := #[25, 25] })
    (base : Nat) (v : Value) (zs : List Int) (hs : a.eval s = v) (hown : Own w base v zs) (g0 : Nat) (z : Int) (hx : a.eval x = .slice (some ⟨g0, 0, none⟩) 1 1) (hb : w.cell? ⟨g0, 0, none⟩ = some (.int .i64 z)) (hlen : zs.length ≤ 1000000) (hbase : base ≤ w.heap.size)
    (h : ∀ v' w', Own w' base v' (zs ++ [z]) → w.grownBy w' v.ownBlock → wpList Tryd.prog ops Q rest (a.put o.dst v') w') : wpList Tryd.prog ops Q (o :: rest) a w :=
  wpList_plain hgd fun _ hK => wp_push s x ho base v zs hs hown g0 z hx hb hlen hbase fun v' w' h2 h3 => hK _ _ (h v' w' h2 h3)
theorem Own.ext {w w' : World} {base : Nat} {v : Value} {zs : List Int} (h : Own w base v zs) (hx : Ext w w') : Own w' base v zs := by
  refine World.ownsRow.kept (row := none) h ⟨hx.os, hx.tape, hx.output, hx.size, fun k hk _ => hx.block hk⟩ ?_
  cases hv : v.ownBlock with
  | none => exact .inl rfl
  | some g => exact .inr (by simp)
theorem Own.alloc {w : World} {base : Nat} {v : Value} {zs : List Int} (h : Own w base v zs) (o : Obj) : Own (w.alloc o) base v zs := World.ownsRow.alloc h o
/-- A cell of what lay ahead is as it was behind the append. -/
theorem own_cell {w0 W w' : World} {base : Nat} {v u : Value} {zs : List Int} {b o : Nat} (hg : W.grownBy w' v.ownBlock) (hown : Own W base v zs) (hb : b < base) (hx : Ext w0 W) (hb0 : b < w0.heap.size) (hc : w0.cell? ⟨b, o, none⟩ = some u) : w'.cell? ⟨b, o, none⟩ = some u := by
  rw [World.cell?_of_block (w := W) (hg.block b (Nat.lt_of_lt_of_le hb0 hx.size) (fun e => by have := hown.base_le b e.symm; omega)), hx.cell (p := ⟨b, o, none⟩) hb0, hc]
theorem own_ext {w0 W w' : World} {v : Value} {zs : List Int} (hg : W.grownBy w' v.ownBlock) (hown : Own W w0.heap.size v zs) (hx : Ext w0 W) : Ext w0 w' := hx.grown hg hown.base_le
theorem still_tail {P : Program} {id : Nat} {Q : Exit → Act → World → Prop} {a : Act} {w : World} {l : List Oper} (n : Nat) (hm : P.follows .mixedOrders = true) (hB : Region.lexTailB .any l.toArray n = true)
    (h : wpStill P l.toArray w.drew (fun a' => wpList P l.toArray Q (l.drop n) a' w.drew) (l.take n) a) : (Code.region id l.toArray true).wp P Q a w := wp_region_still_tail n hm hB h
theorem Same.still {P : Program} {f : FuncId} {args : Array Value} {w : World} {v : Value} (h : Calls P f args w (Same v w)) : Calls P f args w fun e w' => e = .returned v ∧ w' = w := h.mono fun _ _ ⟨he, hm⟩ => ⟨he, hm.symm⟩
set_option maxRecDepth 100000 in
set_option maxHeartbeats 2000000 in
theorem combined_any (g : Nat) (eg : ∀ args w, (callFunc g args).run Tryd.prog w = .ok (.enter g args) w) (A B : Option Addr) (n c d m : Nat) (xs ys zs : List Int) (w : World) (hx : RI w A n xs) (hy : RI w B m ys) (hl : zs.length = n) (hnm : n ≤ m) (hn : n ≤ 100000)
    (hp : ∀ W k, k < n → Calls Tryd.prog g #[.int .i64 (xs.getD k 0), .int .i64 (ys.getD k 0)] W (Same (.int .i64 (zs.getD k 0)) W)) :
    Calls Tryd.prog 78 #[.slice A n c, .slice B m d, .func (.func g) #[] #[]] w (RetI zs w) := by
  have HL := Lib.hid hl; clear hl
  have HP := Lib.hid hp; clear hp
  obtain ⟨i0, hi, hz0, hz1, hz2⟩ := info_parts intInfo
  go_enter Tryd.func78, Tryd.ntmps78
  go_wp2
  go_loopw [7, 11] (fun v i wr => ∃ k : Nat, k ≤ n ∧ i = .int .i64 k ∧ Own wr w.heap.size v (zs.take k) ∧ Ext w wr) (fun _ i _ => n - (intOf i).toNat)
  case atStart => exact ⟨0, Nat.zero_le _, rfl, Own.nil _ _, Ext.refl _⟩
  case round =>
    obtain ⟨k, hk, rfl, hown, hxt⟩ := hrel
    by_cases hlt : k < n
    · obtain ⟨b, off, rfl, hbw, hcell⟩ := hx.2.2 (by omega)
      obtain ⟨b', off', rfl, hbw', hcell'⟩ := hy.2.2 (by omega)
      have c1 := (hxt.cell (p := ⟨b, off + k, none⟩) hbw).trans (hcell k hlt)
      have c2 := (hxt.cell (p := ⟨b', off' + k, none⟩) hbw').trans (hcell' k (by omega))
      have hbr : b < wr.heap.size := Nat.lt_of_lt_of_le hbw hxt.size
      have hbr' : b' < wr.heap.size := Nat.lt_of_lt_of_le hbw' hxt.size
      have cP := fun W => HP.out W k hlt
      have HT := Lib.hid (take_snoc zs k (by rw [HL.out]; exact hlt))
      have HTL : Hid ((zs.take k).length = k) := Lib.hid (by rw [List.length_take, HL.out]; omega)
      generalize xs.getD k 0 = x at *
      generalize ys.getD k 0 = y at *
      generalize zs.getD k 0 = z at *
      have CP := Lib.hid cP; clear cP hcell hcell' hx hy
      have hkm : k < m := by omega
      have hki : (k : Int) < (n : Int) := by omega
      have hkmi : (k : Int) < (m : Int) := by omega
      have HO := Lib.hid hown; have HX := Lib.hid hxt; clear hown hxt
      go_wp2
      go_region_held3 (fun W => W.cell? ⟨b, off + k, none⟩ = some (.int .i64 x) ∧ W.cell? ⟨b', off' + k, none⟩ = some (.int .i64 y)) (go_keep)
        (first | (refine step_push rfl (.tmp 14) (.tmp 25) rfl w.heap.size _ (zs.take k) rfl (HO.out.ext (by repeat (first | exact Ext.refl _ | assumption | refine Ext.alloc ?_ _ | refine Ext.drew ?_ | refine Ext.drewN ?_ _ | (refine Ext.setCell ?_ (by simp <;> omega) _) | refine Ext.trans ?_ (by assumption)))) wr.heap.size z rfl (by simp) (by rw [HTL.out]; omega) (by have := HX.out.size; simp; omega) ?_; intro v' w' hown' hg'; have y1 := own_cell hg' (HO.out.ext (by repeat (first | exact Ext.refl _ | assumption | refine Ext.alloc ?_ _ | refine Ext.drew ?_ | refine Ext.drewN ?_ _ | (refine Ext.setCell ?_ (by simp <;> omega) _) | refine Ext.trans ?_ (by assumption)))) hbw (by repeat (first | exact Ext.refl _ | assumption | refine Ext.alloc ?_ _ | refine Ext.drew ?_ | refine Ext.drewN ?_ _ | (refine Ext.setCell ?_ (by simp <;> omega) _) | refine Ext.trans ?_ (by assumption))) hbr c1; have y2 := own_cell hg' (HO.out.ext (by repeat (first | exact Ext.refl _ | assumption | refine Ext.alloc ?_ _ | refine Ext.drew ?_ | refine Ext.drewN ?_ _ | (refine Ext.setCell ?_ (by simp <;> omega) _) | refine Ext.trans ?_ (by assumption)))) hbw' (by repeat (first | exact Ext.refl _ | assumption | refine Ext.alloc ?_ _ | refine Ext.drew ?_ | refine Ext.drewN ?_ _ | (refine Ext.setCell ?_ (by simp <;> omega) _) | refine Ext.trans ?_ (by assumption))) hbr' c2; have HW := Lib.hid (own_ext hg' (HO.out.ext (by repeat (first | exact Ext.refl _ | assumption | refine Ext.alloc ?_ _ | refine Ext.drew ?_ | refine Ext.drewN ?_ _ | (refine Ext.setCell ?_ (by simp <;> omega) _) | refine Ext.trans ?_ (by assumption)))) (HX.out.trans (by repeat (first | exact Ext.refl _ | assumption | refine Ext.alloc ?_ _ | refine Ext.drew ?_ | refine Ext.drewN ?_ _ | (refine Ext.setCell ?_ (by simp <;> omega) _) | refine Ext.trans ?_ (by assumption))))); have HO' := Lib.hid hown'; clear hown' hg') | (go_at_fn g; refine Calls.mono (CP.out _) ?_; rintro e W' ⟨rfl, rfl⟩))
      go_wp2
      go_roundw
      case rel => exact ⟨k + 1, by omega, by go_num, by rw [HT.out]; exact HO'.out, HW.out⟩
      case measure => simp [intOf]; omega
    · obtain rfl : k = n := by omega
      have HZ : Hid (zs.take k = zs) := Lib.hid (List.take_of_length_le (by rw [HL.out]; omega))
      have HO := Lib.hid hown; have HX := Lib.hid hxt; clear hown hxt hx hy
      go_wp2
      go_ret
      exact ⟨_, rfl, by rw [← HZ.out]; exact HO.out, HX.out⟩

/-! The four ways to make one count of two. -/
theorem plus_any (x y : Int) (w : World) (hx : 0 ≤ x ∧ x ≤ 1000000000) (hy : 0 ≤ y ∧ y ≤ 1000000000) : Calls Tryd.prog 85 #[.int .i64 x, .int .i64 y] w (Same (.int .i64 (x + y)) w) := by
  obtain ⟨h1, h2⟩ := hx
  obtain ⟨h3, h4⟩ := hy
  go_enter Tryd.func85, Tryd.ntmps85
  go_wp2
  go_ret
  exact ⟨rfl, rfl⟩
theorem minus_any (x y : Int) (w : World) (hx : 0 ≤ x ∧ x ≤ 1000000000) (hy : 0 ≤ y ∧ y ≤ 1000000000) : Calls Tryd.prog 81 #[.int .i64 x, .int .i64 y] w (Same (.int .i64 (x - y)) w) := by
  obtain ⟨h1, h2⟩ := hx
  obtain ⟨h3, h4⟩ := hy
  go_enter Tryd.func81, Tryd.ntmps81
  go_wp2
  go_ret
  exact ⟨rfl, rfl⟩
end Go.Proofs.YtiailnblfonhjaaDoor
