/-
  Walks: the small helpers of the statements (Ints, CopyInts, Few).
-/
import Derived.Test.YtaopcpfgmjpliaaDoorMetal
namespace Go.Proofs.YtaopcpfgmjpliaaDoor
open Go.RowKit

def sameTo (xs ys : List Int) (n : Nat) : Prop := ∀ j, j < n → xs.getD j 0 = ys.getD j 0
theorem list_ext_getD {xs ys : List Int} (hl : xs.length = ys.length) (h : sameTo xs ys xs.length) : xs = ys := by
  apply List.ext_getElem hl
  intro i h1 h2
  have := h i h1
  rwa [List.getD_eq_getElem?_getD, List.getD_eq_getElem?_getD, List.getElem?_eq_getElem h1, List.getElem?_eq_getElem h2] at this
set_option maxHeartbeats 1000000 in
theorem ints_any (A B : Option Addr) (c d : Nat) (xs ys : List Int) (w : World) (hx : RI w A xs.length xs) (hy : RI w B ys.length ys) :
    Calls Tryd.prog 12 #[.slice A xs.length c, .slice B ys.length d] w (Ret (.bool (decide (xs = ys))) w) := by
  have hbx := hx.big; have hby := hy.big
  by_cases hl : xs.length = ys.length
  · have e1 : ((xs.length : Int) != (ys.length : Int)) = false := by simp [hl]
    have HL := Lib.hid hl; clear hl
    have HX := Lib.hid hx; have HY := Lib.hid hy; clear hx hy
    go_enter Tryd.func12, Tryd.ntmps12
    go_wp2
    go_loopw [5] (fun i wr => ∃ k : Nat, k ≤ xs.length ∧ i = .int .i64 k ∧ sameTo xs ys k ∧ Ext w wr) (fun i _ => xs.length - (intOf i).toNat)
    case atStart => exact ⟨0, Nat.zero_le _, rfl, fun j hj => absurd hj (by omega), Ext.refl _⟩
    case round =>
      obtain ⟨k, hk, rfl, hs, hxt⟩ := hrel
      have HS := Lib.hid hs; clear hs
      by_cases hlt : k < xs.length
      · have hlt' : k < ys.length := by have := HL.out; omega
        obtain ⟨b, off, rfl, hbw, hcell⟩ := (HX.out.ext hxt).2.2 (by omega)
        obtain ⟨b', off', rfl, hbw', hcell'⟩ := (HY.out.ext hxt).2.2 (by omega)
        have c1 := hcell k hlt
        have c2 := hcell' k hlt'
        have i1 : (k : Int) < (xs.length : Int) := by omega
        have i2 : (k : Int) < (ys.length : Int) := by omega
        have HK : Hid (xs.getD k 0 = ys.getD k 0 → sameTo xs ys (k + 1)) := Lib.hid (fun he j hj => by
          by_cases hj' : j < k
          · exact HS.out j hj'
          · obtain rfl : j = k := by omega
            exact he)
        have HD : Hid (xs.getD k 0 ≠ ys.getD k 0 → ¬ xs = ys) := Lib.hid (fun he hh => he (by rw [hh]))
        generalize xs.getD k 0 = x at *
        generalize ys.getD k 0 = y at *
        have HXT := Lib.hid hxt; clear hxt hcell hcell'
        by_cases he : x = y
        · subst he
          go_wp2
          go_quiet (fail)
          go_wp2
          go_roundw
          case rel => exact ⟨k + 1, by omega, by go_num, HK.out (by first | exact rfl | trivial), HXT.out.trans (by repeat (first | exact Ext.refl _ | assumption | refine Ext.alloc ?_ _ | refine Ext.drew ?_ | refine Ext.drewN ?_ _ | (refine Ext.setCell ?_ (by simp <;> omega) _) | refine Ext.trans ?_ (by assumption)))⟩
          case measure => simp [intOf]; omega
        · have e0 : (x != y) = true := by simpa using he
          have HE := Lib.hid he; clear he
          go_wp2
          go_quiet (fail)
          go_wp2
          go_ret
          exact Ret.mk' (by rw [decide_eq_false (HD.out HE.out)]; rfl) (HXT.out.trans (by repeat (first | exact Ext.refl _ | assumption | refine Ext.alloc ?_ _ | refine Ext.drew ?_ | refine Ext.drewN ?_ _ | (refine Ext.setCell ?_ (by simp <;> omega) _) | refine Ext.trans ?_ (by assumption))))
      · obtain rfl : k = xs.length := by omega
        have HEQ := Lib.hid (list_ext_getD HL.out HS.out)
        have HXT := Lib.hid hxt; clear hxt
        go_wp2
        go_ret
        exact Ret.mk' (by rw [decide_eq_true HEQ.out]; rfl) HXT.out
  · have e1 : ((xs.length : Int) != (ys.length : Int)) = true := by simp; omega
    have HL := Lib.hid hl; clear hl
    go_enter Tryd.func12, Tryd.ntmps12
    go_wp2
    go_ret
    exact Ret.mk' (by rw [decide_eq_false (fun hh => HL.out (by rw [hh]))]; rfl) (by repeat (first | exact Ext.refl _ | assumption | refine Ext.alloc ?_ _ | refine Ext.drew ?_ | refine Ext.drewN ?_ _ | (refine Ext.setCell ?_ (by simp <;> omega) _) | refine Ext.trans ?_ (by assumption)))

/-- A slice that reads as xs is appended to a slice of the call's own. -/
theorem run_appendI {w : World} {base : Nat} {v : Value} {zs xs : List Int} {A : Option Addr} {c : Nat} (hown : Own w base v zs) (hr : RI w A xs.length xs) (hlen : zs.length + xs.length ≤ 1000000) (hbase : base ≤ w.heap.size) (ty : TypeId) :
    ∃ v' w', (Builtin.append_ #[31, 31] ty #[v, .slice A xs.length c]).run Tryd.prog w = .ok v' w' ∧ Own w' base v' (zs ++ xs) ∧ w.grownBy w' v.ownBlock := by
  obtain ⟨i0, hi, hz0, hz1, hz2⟩ := info_parts intInfo
  rcases A with _ | ad
  · have hm : xs.length = 0 := by
      rcases Nat.eq_zero_or_pos xs.length with h0 | h0
      · exact h0
      · obtain ⟨b, off, h, _⟩ := hr.2.2 h0
        cases h
    obtain rfl := List.eq_nil_of_length_eq_zero hm
    refine ⟨v, w, ?_, by simpa using hown, World.grownBy.refl w _⟩
    rcases hown.2 with ⟨rfl, _⟩ | ⟨g, cap, cur, rfl, _, _, hnc, _⟩
    · simp [Builtin.append_, run_underlying Tryd.underlying31, sizeOf, typeInfo, hi, Builtin.lenOf, Builtin.firstCells]
    · simp [Builtin.append_, run_underlying Tryd.underlying31, sizeOf, typeInfo, hi, Builtin.lenOf, Builtin.firstCells, hnc, storeCells]
  · obtain ⟨v', w', hrun, h2, h3, _⟩ := run_append_own_at (P := Tryd.prog) w base 31 ty 3 i0 (.int .i64 0) 1 8 Tryd.underlying31 hi hz0 hz1 hz2 rfl (by decide) v zs.length _ hown ad xs.length c (xs.map (Value.int .i64)) (by simp)
      (fun j u hj => by
        rw [List.getElem?_map] at hj
        have hjl : j < xs.length := by
          rcases Nat.lt_or_ge j xs.length with h | h
          · exact h
          · rw [List.getElem?_eq_none h] at hj; cases hj
        rw [List.getElem?_eq_getElem hjl] at hj
        obtain ⟨b, off, he, _, hc⟩ := hr.2.2 (by omega)
        cases he
        have := hc j hjl
        rw [List.getD_eq_getElem?_getD, List.getElem?_eq_getElem hjl, Option.getD_some] at this
        simp only [Option.map_some] at hj
        cases hj
        unfold Addr.add
        by_cases hj0 : j = 0
        · rw [if_pos hj0]; have e : off + j = off := by omega
          rw [e] at this; exact this
        · rw [if_neg hj0]; exact this)
      (fun u hu => by obtain ⟨z, _, rfl⟩ := List.mem_map.1 hu; rfl) (by unfold maxLen; omega) (by omega) hbase
    exact ⟨v', w', hrun, by unfold Own; simpa using h2, h3⟩
theorem list_appendI {w : World} {ops : Array Oper} {rest : List Oper} {o : Oper} {a : Act} {Q : Exit → Act → World → Prop} (hgd : o.guard = none) (s x : Operand) (ho : o.op = .call { callee := .builtin .append, args := #[s, x], argTypes := #[31, 31] })
    (base : Nat) (v : Value) (zs : List Int) (hs : a.eval s = v) (hown : Own w base v zs) (A : Option Addr) (c : Nat) (xs : List Int) (hx : a.eval x = .slice A xs.length c) (hr : RI w A xs.length xs) (hlen : zs.length + xs.length ≤ 1000000) (hbase : base ≤ w.heap.size)
    (h : ∀ v' w', Own w' base v' (zs ++ xs) → w.grownBy w' v.ownBlock → wpList Tryd.prog ops Q rest (a.put o.dst v') w') : wpList Tryd.prog ops Q (o :: rest) a w := by
  refine wpList_plain hgd fun K hK => ?_
  obtain ⟨v', w', hr', h2, h3⟩ := run_appendI (c := c) hown hr hlen hbase o.type
  unfold Oper.wp execOp
  simp only [ho, resolve, invoke, builtin, Sem.run_bind, Sem.run_pure, Result.andThen_ok, List.map_toArray, List.map_cons, List.map_nil, hs, hx, hr']
  exact hK _ _ (h v' w' h2 h3)
theorem Own.lit0 (w : World) : Own (w.alloc (.cells #[] 3)) w.heap.size (.slice (some ⟨w.heap.size, 0, none⟩) 0 0) [] :=
  World.ownsRow_lit (e := 3) (size := 1) w #[] 0 (Nat.le_refl _) (by unfold maxLen; omega) rfl
end Go.Proofs.YtaopcpfgmjpliaaDoor
