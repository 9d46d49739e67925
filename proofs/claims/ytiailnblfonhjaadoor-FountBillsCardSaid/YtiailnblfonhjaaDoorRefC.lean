/-
  Walks: the reference's sums of cases, what is left, what is lacking, how often, the metal.
-/
import Derived.Test.YtiailnblfonhjaaDoorBox
import Derived.Deep.RegionHeld3
namespace Go.Proofs.YtiailnblfonhjaaDoor
open Go.RowKit

def big (z : Int) : Bool := decide (1000000 < z)
/-- What the reference returns: sums; rests; lacks. -/
def rJoinL (xs ys : List Int) : List Int × Int := if (idxOf big (zipK (· + ·) xs ys) xs.length).isSome = true then ([], 8) else (zipK (· + ·) xs ys, 0)
def rTakeL (xs ys : List Int) : List Int × Int × Int := match idxOf neg (zipK (· - ·) xs ys) xs.length with | some k => ([], (k : Int), 20) | none => (zipK (· - ·) xs ys, 0, 0)
theorem idx_none_of {p : Int → Bool} {zs : List Int} {n : Nat} (h : ∀ k, k < n → p (zs.getD k 0) = false) : idxOf p zs n = none := idxOf_none h
structure Cnt (xs : List Int) (M : Int) : Prop where
  bd : ∀ k, k < xs.length → 0 ≤ xs.getD k 0 ∧ xs.getD k 0 ≤ M

set_option maxRecDepth 100000 in
set_option maxHeartbeats 4000000 in
theorem rJoined_any (A B : Option Addr) (c d : Nat) (xs ys : List Int) (w : World) (hx : RI w A xs.length xs) (hy : RI w B ys.length ys) (hxy : xs.length ≤ ys.length) (hn : xs.length ≤ 1000) (b1 : Cnt xs 1000000) (b2 : Cnt ys 1000000) :
    Calls Tryd.prog 48 #[.slice A xs.length c, .slice B ys.length d] w (RetSE (rJoinL xs ys).1 (rJoinL xs ys).2 w) := by
  have HB1 := Lib.hid b1.bd; have HB2 := Lib.hid b2.bd
  have HZL : Hid ((zipK (· + ·) xs ys).length = xs.length) := Lib.hid (zipK_len _ _ _)
  have HZA : Hid (∀ k, k < xs.length → (zipK (· + ·) xs ys).getD k 0 = xs.getD k 0 + ys.getD k 0) := Lib.hid (fun k hk => zipK_at _ _ _ _ hk)
  have HR1 : Hid ((∃ k, k < xs.length ∧ 1000000 < (zipK (· + ·) xs ys).getD k 0) → rJoinL xs ys = ([], 8)) := Lib.hid (fun h => by
    unfold rJoinL; rw [if_pos ((idxOf_isSome big _ _).2 (by obtain ⟨k, hk, hb⟩ := h; exact ⟨k, hk, decide_eq_true hb⟩))])
  have HR2 : Hid ((∀ k, k < xs.length → (zipK (· + ·) xs ys).getD k 0 ≤ 1000000) → rJoinL xs ys = (zipK (· + ·) xs ys, 0)) := Lib.hid (fun h => by
    unfold rJoinL; rw [if_neg (fun hs => by obtain ⟨k, hk, hb⟩ := (idxOf_isSome big _ _).1 hs; have := h k hk; unfold big at hb; simp only [decide_eq_true_eq] at hb; omega)])
  generalize rJoinL xs ys = r at *
  clear b1 b2
  generalize zipK (· + ·) xs ys = zs at *
  have HX0 := Lib.hid hx; have HY0 := Lib.hid hy
  go_enter Tryd.func48, Tryd.ntmps48
  go_wp2
  go_loopw [6, 7] (fun v i wr => ∃ k : Nat, k ≤ xs.length ∧ i = .int .i64 k ∧ Own wr w.heap.size v (zs.take k) ∧ Ext w wr ∧ Hid (∀ j, j < k → zs.getD j 0 ≤ 1000000)) (fun _ i _ => xs.length - (intOf i).toNat)
  case atStart => exact ⟨0, Nat.zero_le _, rfl, Own.nil _ _, Ext.refl _, Lib.hid (fun j hj => absurd hj (by omega))⟩
  case round =>
    obtain ⟨k, hk, rfl, hown, hxt, hall⟩ := hrel
    by_cases hlt : k < xs.length
    · obtain ⟨b, off, rfl, hbw, hcell⟩ := hx.2.2 (by omega)
      obtain ⟨b', off', rfl, hbw', hcell'⟩ := hy.2.2 (by omega)
      have c1 := (hxt.cell (p := ⟨b, off + k, none⟩) hbw).trans (hcell k hlt)
      have c2 := (hxt.cell (p := ⟨b', off' + k, none⟩) hbw').trans (hcell' k (by omega))
      have hbr : b < wr.heap.size := Nat.lt_of_lt_of_le hbw hxt.size
      have hbr' : b' < wr.heap.size := Nat.lt_of_lt_of_le hbw' hxt.size
      have HT := Lib.hid (take_snoc zs k (by rw [HZL.out]; exact hlt))
      have HTL : Hid ((zs.take k).length = k) := Lib.hid (by rw [List.length_take, HZL.out]; omega)
      have HE := Lib.hid (HZA.out k hlt)
      obtain ⟨x1, x2⟩ := HB1.out k hlt
      obtain ⟨y1, y2⟩ := HB2.out k (by omega)
      have HA1 : Hid (1000000 < zs.getD k 0 → r = ([], 8)) := Lib.hid (fun h => HR1.out ⟨k, hlt, h⟩)
      have HA2 : Hid (zs.getD k 0 ≤ 1000000 → ∀ j, j < k + 1 → zs.getD j 0 ≤ 1000000) := Lib.hid (fun h j hj => by
        by_cases e : j < k
        · exact hall.out j e
        · obtain rfl : j = k := by omega
          exact h)
      generalize xs.getD k 0 = x at *
      generalize ys.getD k 0 = y at *
      generalize zs.getD k 0 = z at *
      clear hcell hcell' hx hy
      have hkm : k < ys.length := by omega
      have hki : (k : Int) < (xs.length : Int) := by omega
      have hkmi : (k : Int) < (ys.length : Int) := by omega
      have HO := Lib.hid hown; have HX := Lib.hid hxt; clear hown hxt
      have i0 : IntKind.i64.wrap (x + y) = x + y := IntWalk.i64_in _ (by omega)
      by_cases hbig : 1000000 < x + y
      · have d0 : decide (1000000 < x + y) = true := decide_eq_true hbig
        go_wp2
        go_quiet (fail)
        go_wp2
        go_ret2
        rw [HA1.out (by rw [HE.out]; exact hbig)]
        exact ⟨none, 0, rfl, SL.nil _ _, HX.out.trans (by repeat (first | exact Ext.refl _ | assumption | refine Ext.alloc ?_ _ | refine Ext.drew ?_ | refine Ext.drewN ?_ _ | (refine Ext.setCell ?_ (by simp <;> omega) _) | refine Ext.trans ?_ (by assumption)))⟩
      · have d0 : decide (1000000 < x + y) = false := decide_eq_false hbig
        go_wp2
        go_quiet (fail)
        go_wp2
        go_region_held3 (fun W => W.cell? ⟨b, off + k, none⟩ = some (.int .i64 x) ∧ W.cell? ⟨b', off' + k, none⟩ = some (.int .i64 y)) (go_keep)
          (first | (refine step_push rfl (.tmp 24) (.tmp 34) rfl w.heap.size _ (zs.take k) rfl (HO.out.ext (by repeat (first | exact Ext.refl _ | assumption | refine Ext.alloc ?_ _ | refine Ext.drew ?_ | refine Ext.drewN ?_ _ | (refine Ext.setCell ?_ (by simp <;> omega) _) | refine Ext.trans ?_ (by assumption)))) wr.heap.size (x + y) rfl (by first | simp | exact (Blk.new _ _ _).c1.1) (by rw [HTL.out]; omega) (by have := HX.out.size; first | omega | (simp; omega)) ?_; intro v' w' hown' hg'; have y1' := own_cell hg' (HO.out.ext (by repeat (first | exact Ext.refl _ | assumption | refine Ext.alloc ?_ _ | refine Ext.drew ?_ | refine Ext.drewN ?_ _ | (refine Ext.setCell ?_ (by simp <;> omega) _) | refine Ext.trans ?_ (by assumption)))) hbw (by repeat (first | exact Ext.refl _ | assumption | refine Ext.alloc ?_ _ | refine Ext.drew ?_ | refine Ext.drewN ?_ _ | (refine Ext.setCell ?_ (by simp <;> omega) _) | refine Ext.trans ?_ (by assumption))) hbr c1; have y2' := own_cell hg' (HO.out.ext (by repeat (first | exact Ext.refl _ | assumption | refine Ext.alloc ?_ _ | refine Ext.drew ?_ | refine Ext.drewN ?_ _ | (refine Ext.setCell ?_ (by simp <;> omega) _) | refine Ext.trans ?_ (by assumption)))) hbw' (by repeat (first | exact Ext.refl _ | assumption | refine Ext.alloc ?_ _ | refine Ext.drew ?_ | refine Ext.drewN ?_ _ | (refine Ext.setCell ?_ (by simp <;> omega) _) | refine Ext.trans ?_ (by assumption))) hbr' c2; have HW := Lib.hid (own_ext hg' (HO.out.ext (by repeat (first | exact Ext.refl _ | assumption | refine Ext.alloc ?_ _ | refine Ext.drew ?_ | refine Ext.drewN ?_ _ | (refine Ext.setCell ?_ (by simp <;> omega) _) | refine Ext.trans ?_ (by assumption)))) (HX.out.trans (by repeat (first | exact Ext.refl _ | assumption | refine Ext.alloc ?_ _ | refine Ext.drew ?_ | refine Ext.drewN ?_ _ | (refine Ext.setCell ?_ (by simp <;> omega) _) | refine Ext.trans ?_ (by assumption))))); have HO' := Lib.hid hown'; clear hown' hg'))
        clear i0
        go_wp2
        go_roundw
        case rel => exact ⟨k + 1, by omega, by go_num, by rw [HT.out, HE.out]; exact HO'.out, HW.out, Lib.hid (HA2.out (by rw [HE.out]; omega))⟩
        case measure => simp [intOf]; omega
    · obtain rfl : k = xs.length := by omega
      have HZ : Hid (zs.take xs.length = zs) := Lib.hid (List.take_of_length_le (by rw [HZL.out]; omega))
      have HO := Lib.hid hown; have HX := Lib.hid hxt; clear hown hxt hx hy
      have HRR : Hid (r = (zs, 0)) := Lib.hid (HR2.out hall.out)
      go_wp2
      go_ret2
      rw [HRR.out]
      obtain ⟨Z, cz, rfl, hcz, hrz⟩ := (show Own wr w.heap.size _ zs from by rw [← HZ.out]; exact HO.out).form (by rw [HZL.out]; omega)
      exact ⟨Z, cz, rfl, ⟨(by rw [← HZ.out]; simpa [HZ.out] using HO.out), hrz, hcz⟩, HX.out⟩

set_option maxRecDepth 100000 in
set_option maxHeartbeats 4000000 in
theorem rTaken_any (A B : Option Addr) (c d : Nat) (xs ys : List Int) (w : World) (hx : RI w A xs.length xs) (hy : RI w B ys.length ys) (hxy : xs.length ≤ ys.length) (hn : xs.length ≤ 1000) (b1 : Cnt xs 1000000) (b2 : Cnt ys 1000000) :
    Calls Tryd.prog 43 #[.slice A xs.length c, .slice B ys.length d] w (RetSNE (rTakeL xs ys).1 (rTakeL xs ys).2.1 (rTakeL xs ys).2.2 w) := by
  have HB1 := Lib.hid b1.bd; have HB2 := Lib.hid b2.bd
  have HZL : Hid ((zipK (· - ·) xs ys).length = xs.length) := Lib.hid (zipK_len _ _ _)
  have HZA : Hid (∀ k, k < xs.length → (zipK (· - ·) xs ys).getD k 0 = xs.getD k 0 - ys.getD k 0) := Lib.hid (fun k hk => zipK_at _ _ _ _ hk)
  have HR1 : Hid (∀ k, k < xs.length → (∀ j, j < k → 0 ≤ (zipK (· - ·) xs ys).getD j 0) → (zipK (· - ·) xs ys).getD k 0 < 0 → rTakeL xs ys = ([], (k : Int), 20)) := Lib.hid (fun k hk hj hb => by
    unfold rTakeL; rw [idxOf_some (p := neg) (fun j h => by have := hj j h; unfold neg; rw [decide_eq_false_iff_not]; omega) (by unfold neg; exact decide_eq_true hb) hk])
  have HR2 : Hid ((∀ k, k < xs.length → 0 ≤ (zipK (· - ·) xs ys).getD k 0) → rTakeL xs ys = (zipK (· - ·) xs ys, 0, 0)) := Lib.hid (fun h => by
    unfold rTakeL; rw [idxOf_none (p := neg) (fun j hj => by have := h j hj; unfold neg; rw [decide_eq_false_iff_not]; omega)])
  generalize rTakeL xs ys = r at *
  clear b1 b2
  generalize zipK (· - ·) xs ys = zs at *
  have HX0 := Lib.hid hx; have HY0 := Lib.hid hy
  go_enter Tryd.func43, Tryd.ntmps43
  go_wp2
  go_loopw [7, 8] (fun v i wr => ∃ k : Nat, k ≤ xs.length ∧ i = .int .i64 k ∧ Own wr w.heap.size v (zs.take k) ∧ Ext w wr ∧ Hid (∀ j, j < k → 0 ≤ zs.getD j 0)) (fun _ i _ => xs.length - (intOf i).toNat)
  case atStart => exact ⟨0, Nat.zero_le _, rfl, Own.nil _ _, Ext.refl _, Lib.hid (fun j hj => absurd hj (by omega))⟩
  case round =>
    obtain ⟨k, hk, rfl, hown, hxt, hall⟩ := hrel
    by_cases hlt : k < xs.length
    · obtain ⟨b, off, rfl, hbw, hcell⟩ := hx.2.2 (by omega)
      obtain ⟨b', off', rfl, hbw', hcell'⟩ := hy.2.2 (by omega)
      have c1 := (hxt.cell (p := ⟨b, off + k, none⟩) hbw).trans (hcell k hlt)
      have c2 := (hxt.cell (p := ⟨b', off' + k, none⟩) hbw').trans (hcell' k (by omega))
      have hbr : b < wr.heap.size := Nat.lt_of_lt_of_le hbw hxt.size
      have hbr' : b' < wr.heap.size := Nat.lt_of_lt_of_le hbw' hxt.size
      have HT := Lib.hid (take_snoc zs k (by rw [HZL.out]; exact hlt))
      have HTL : Hid ((zs.take k).length = k) := Lib.hid (by rw [List.length_take, HZL.out]; omega)
      have HE := Lib.hid (HZA.out k hlt)
      obtain ⟨x1, x2⟩ := HB1.out k hlt
      obtain ⟨y1, y2⟩ := HB2.out k (by omega)
      have HA1 : Hid (zs.getD k 0 < 0 → r = ([], (k : Int), 20)) := Lib.hid (fun h => HR1.out k hlt hall.out h)
      have HA2 : Hid (0 ≤ zs.getD k 0 → ∀ j, j < k + 1 → 0 ≤ zs.getD j 0) := Lib.hid (fun h j hj => by
        by_cases e : j < k
        · exact hall.out j e
        · obtain rfl : j = k := by omega
          exact h)
      generalize xs.getD k 0 = x at *
      generalize ys.getD k 0 = y at *
      generalize zs.getD k 0 = z at *
      clear hcell hcell' hx hy
      have hkm : k < ys.length := by omega
      have hki : (k : Int) < (xs.length : Int) := by omega
      have hkmi : (k : Int) < (ys.length : Int) := by omega
      have HO := Lib.hid hown; have HX := Lib.hid hxt; clear hown hxt
      have i0 : IntKind.i64.wrap (x - y) = x - y := IntWalk.i64_in _ (by omega)
      by_cases hbig : x < y
      · have d0 : decide (x < y) = true := decide_eq_true hbig
        clear i0
        go_wp2
        go_quiet (fail)
        go_wp2
        go_ret3
        rw [HA1.out (by rw [HE.out]; omega)]
        exact ⟨none, 0, rfl, SL.nil _ _, HX.out.trans (by repeat (first | exact Ext.refl _ | assumption | refine Ext.alloc ?_ _ | refine Ext.drew ?_ | refine Ext.drewN ?_ _ | (refine Ext.setCell ?_ (by simp <;> omega) _) | refine Ext.trans ?_ (by assumption)))⟩
      · have d0 : decide (x < y) = false := decide_eq_false hbig
        go_wp2
        go_quiet (fail)
        go_wp2
        go_region_held3 (fun W => W.cell? ⟨b, off + k, none⟩ = some (.int .i64 x) ∧ W.cell? ⟨b', off' + k, none⟩ = some (.int .i64 y)) (go_keep)
          (first | (refine step_push rfl (.tmp 25) (.tmp 35) rfl w.heap.size _ (zs.take k) rfl (HO.out.ext (by repeat (first | exact Ext.refl _ | assumption | refine Ext.alloc ?_ _ | refine Ext.drew ?_ | refine Ext.drewN ?_ _ | (refine Ext.setCell ?_ (by simp <;> omega) _) | refine Ext.trans ?_ (by assumption)))) wr.heap.size (x - y) rfl (by first | simp | exact (Blk.new _ _ _).c1.1) (by rw [HTL.out]; omega) (by have := HX.out.size; first | omega | (simp; omega)) ?_; intro v' w' hown' hg'; have y1' := own_cell hg' (HO.out.ext (by repeat (first | exact Ext.refl _ | assumption | refine Ext.alloc ?_ _ | refine Ext.drew ?_ | refine Ext.drewN ?_ _ | (refine Ext.setCell ?_ (by simp <;> omega) _) | refine Ext.trans ?_ (by assumption)))) hbw (by repeat (first | exact Ext.refl _ | assumption | refine Ext.alloc ?_ _ | refine Ext.drew ?_ | refine Ext.drewN ?_ _ | (refine Ext.setCell ?_ (by simp <;> omega) _) | refine Ext.trans ?_ (by assumption))) hbr c1; have y2' := own_cell hg' (HO.out.ext (by repeat (first | exact Ext.refl _ | assumption | refine Ext.alloc ?_ _ | refine Ext.drew ?_ | refine Ext.drewN ?_ _ | (refine Ext.setCell ?_ (by simp <;> omega) _) | refine Ext.trans ?_ (by assumption)))) hbw' (by repeat (first | exact Ext.refl _ | assumption | refine Ext.alloc ?_ _ | refine Ext.drew ?_ | refine Ext.drewN ?_ _ | (refine Ext.setCell ?_ (by simp <;> omega) _) | refine Ext.trans ?_ (by assumption))) hbr' c2; have HW := Lib.hid (own_ext hg' (HO.out.ext (by repeat (first | exact Ext.refl _ | assumption | refine Ext.alloc ?_ _ | refine Ext.drew ?_ | refine Ext.drewN ?_ _ | (refine Ext.setCell ?_ (by simp <;> omega) _) | refine Ext.trans ?_ (by assumption)))) (HX.out.trans (by repeat (first | exact Ext.refl _ | assumption | refine Ext.alloc ?_ _ | refine Ext.drew ?_ | refine Ext.drewN ?_ _ | (refine Ext.setCell ?_ (by simp <;> omega) _) | refine Ext.trans ?_ (by assumption))))); have HO' := Lib.hid hown'; clear hown' hg'))
        clear i0
        go_wp2
        go_roundw
        case rel => exact ⟨k + 1, by omega, by go_num, by rw [HT.out, HE.out]; exact HO'.out, HW.out, Lib.hid (HA2.out (by rw [HE.out]; omega))⟩
        case measure => simp [intOf]; omega
    · obtain rfl : k = xs.length := by omega
      have HZ : Hid (zs.take xs.length = zs) := Lib.hid (List.take_of_length_le (by rw [HZL.out]; omega))
      have HO := Lib.hid hown; have HX := Lib.hid hxt; clear hown hxt hx hy
      have HRR : Hid (r = (zs, 0, 0)) := Lib.hid (HR2.out hall.out)
      go_wp2
      go_ret3
      rw [HRR.out]
      obtain ⟨Z, cz, rfl, hcz, hrz⟩ := (show Own wr w.heap.size _ zs from by rw [← HZ.out]; exact HO.out).form (by rw [HZL.out]; omega)
      exact ⟨Z, cz, rfl, ⟨(by rw [← HZ.out]; simpa [HZ.out] using HO.out), hrz, hcz⟩, HX.out⟩

set_option maxRecDepth 100000 in
set_option maxHeartbeats 4000000 in
theorem rLacking_any (A B : Option Addr) (c d : Nat) (xs ys : List Int) (w : World) (hx : RI w A xs.length xs) (hy : RI w B ys.length ys) (hxy : xs.length ≤ ys.length) (hn : xs.length ≤ 1000) (b1 : Cnt xs 1000000) (b2 : Cnt ys 1000000) :
    Calls Tryd.prog 45 #[.slice A xs.length c, .slice B ys.length d] w (RetS (zipK lacksI xs ys) w) := by
  have HB1 := Lib.hid b1.bd; have HB2 := Lib.hid b2.bd
  have HZL : Hid ((zipK lacksI xs ys).length = xs.length) := Lib.hid (zipK_len _ _ _)
  have HZA : Hid (∀ k, k < xs.length → (zipK lacksI xs ys).getD k 0 = lacksI (xs.getD k 0) (ys.getD k 0)) := Lib.hid (fun k hk => zipK_at _ _ _ _ hk)
  have HLI : Hid (∀ x y, lacksI x y = max 0 (y - x)) := Lib.hid (fun _ _ => rfl)
  clear b1 b2
  generalize zipK lacksI xs ys = zs at *
  have HX0 := Lib.hid hx; have HY0 := Lib.hid hy
  go_enter Tryd.func45, Tryd.ntmps45
  go_wp2
  go_loopw [5, 6] (fun v i wr => ∃ k : Nat, k ≤ xs.length ∧ i = .int .i64 k ∧ Own wr w.heap.size v (zs.take k) ∧ Ext w wr) (fun _ i _ => xs.length - (intOf i).toNat)
  case atStart => exact ⟨0, Nat.zero_le _, rfl, Own.nil _ _, Ext.refl _⟩
  case round =>
    obtain ⟨k, hk, rfl, hown, hxt⟩ := hrel
    by_cases hlt : k < xs.length
    · obtain ⟨b, off, rfl, hbw, hcell⟩ := hx.2.2 (by omega)
      obtain ⟨b', off', rfl, hbw', hcell'⟩ := hy.2.2 (by omega)
      have c1 := (hxt.cell (p := ⟨b, off + k, none⟩) hbw).trans (hcell k hlt)
      have c2 := (hxt.cell (p := ⟨b', off' + k, none⟩) hbw').trans (hcell' k (by omega))
      have hbr : b < wr.heap.size := Nat.lt_of_lt_of_le hbw hxt.size
      have hbr' : b' < wr.heap.size := Nat.lt_of_lt_of_le hbw' hxt.size
      have HT := Lib.hid (take_snoc zs k (by rw [HZL.out]; exact hlt))
      have HTL : Hid ((zs.take k).length = k) := Lib.hid (by rw [List.length_take, HZL.out]; omega)
      have HE := Lib.hid (HZA.out k hlt)
      obtain ⟨x1, x2⟩ := HB1.out k hlt
      obtain ⟨y1, y2⟩ := HB2.out k (by omega)
      rw [HLI.out] at HE
      generalize xs.getD k 0 = x at *
      generalize ys.getD k 0 = y at *
      generalize zs.getD k 0 = z at *
      clear hcell hcell' hx hy
      have hkm : k < ys.length := by omega
      have hki : (k : Int) < (xs.length : Int) := by omega
      have hkmi : (k : Int) < (ys.length : Int) := by omega
      have HO := Lib.hid hown; have HX := Lib.hid hxt; clear hown hxt
      have i0 : IntKind.i64.wrap (y - x) = y - x := IntWalk.i64_in _ (by omega)
      go_wp2
      go_region_held3 (fun W => W.cell? ⟨b, off + k, none⟩ = some (.int .i64 x) ∧ W.cell? ⟨b', off' + k, none⟩ = some (.int .i64 y)) (go_keep)
          (first | (refine step_push rfl (.tmp 13) (.tmp 24) rfl w.heap.size _ (zs.take k) rfl (HO.out.ext (by repeat (first | exact Ext.refl _ | assumption | refine Ext.alloc ?_ _ | refine Ext.drew ?_ | refine Ext.drewN ?_ _ | (refine Ext.setCell ?_ (by simp <;> omega) _) | refine Ext.trans ?_ (by assumption)))) wr.heap.size (max 0 (y - x)) rfl (by first | simp | exact (Blk.new _ _ _).c1.1) (by rw [HTL.out]; omega) (by have := HX.out.size; first | omega | (simp; omega)) ?_; intro v' w' hown' hg'; have y1' := own_cell hg' (HO.out.ext (by repeat (first | exact Ext.refl _ | assumption | refine Ext.alloc ?_ _ | refine Ext.drew ?_ | refine Ext.drewN ?_ _ | (refine Ext.setCell ?_ (by simp <;> omega) _) | refine Ext.trans ?_ (by assumption)))) hbw (by repeat (first | exact Ext.refl _ | assumption | refine Ext.alloc ?_ _ | refine Ext.drew ?_ | refine Ext.drewN ?_ _ | (refine Ext.setCell ?_ (by simp <;> omega) _) | refine Ext.trans ?_ (by assumption))) hbr c1; have y2' := own_cell hg' (HO.out.ext (by repeat (first | exact Ext.refl _ | assumption | refine Ext.alloc ?_ _ | refine Ext.drew ?_ | refine Ext.drewN ?_ _ | (refine Ext.setCell ?_ (by simp <;> omega) _) | refine Ext.trans ?_ (by assumption)))) hbw' (by repeat (first | exact Ext.refl _ | assumption | refine Ext.alloc ?_ _ | refine Ext.drew ?_ | refine Ext.drewN ?_ _ | (refine Ext.setCell ?_ (by simp <;> omega) _) | refine Ext.trans ?_ (by assumption))) hbr' c2; have HW := Lib.hid (own_ext hg' (HO.out.ext (by repeat (first | exact Ext.refl _ | assumption | refine Ext.alloc ?_ _ | refine Ext.drew ?_ | refine Ext.drewN ?_ _ | (refine Ext.setCell ?_ (by simp <;> omega) _) | refine Ext.trans ?_ (by assumption)))) (HX.out.trans (by repeat (first | exact Ext.refl _ | assumption | refine Ext.alloc ?_ _ | refine Ext.drew ?_ | refine Ext.drewN ?_ _ | (refine Ext.setCell ?_ (by simp <;> omega) _) | refine Ext.trans ?_ (by assumption))))); have HO' := Lib.hid hown'; clear hown' hg'))
      clear i0
      go_wp2
      go_roundw
      case rel => exact ⟨k + 1, by omega, by go_num, by rw [HT.out, HE.out]; exact HO'.out, HW.out⟩
      case measure => simp [intOf]; omega
    · obtain rfl : k = xs.length := by omega
      have HZ : Hid (zs.take xs.length = zs) := Lib.hid (List.take_of_length_le (by rw [HZL.out]; omega))
      have HO := Lib.hid hown; have HX := Lib.hid hxt; clear hown hxt hx hy
      go_wp2
      go_ret
      exact RetI.s (by rw [HZL.out]; omega) _ _ ⟨_, rfl, by rw [← HZ.out]; exact HO.out, HX.out⟩

set_option maxHeartbeats 1000000 in
theorem total_any (A : Option Addr) (c : Nat) (zs : List Int) (w : World) (h : RI w A zs.length zs) (hl : zs.length ≤ 1000) (hb : ∀ k, k < zs.length → 0 ≤ zs.getD k 0 ∧ zs.getD k 0 ≤ 1000000000) :
    Calls Tryd.prog 80 #[.slice A zs.length c] w (Same (.int .i64 (sumZ zs zs.length)) w) := by
  have HR := Lib.hid h; clear h
  have HB := Lib.hid hb; clear hb
  go_enter Tryd.func80, Tryd.ntmps80
  go_wp2
  go_loop [3, 4] (fun s i => ∃ k : Nat, k ≤ zs.length ∧ i = .int .i64 k ∧ s = .int .i64 (sumZ zs k)) (fun _ i => zs.length - (intOf i).toNat)
  case atStart => exact ⟨0, Nat.zero_le _, rfl, rfl⟩
  case round =>
    obtain ⟨k, hk, rfl, rfl⟩ := hrel
    by_cases hlt : k < zs.length
    · obtain ⟨b, off, rfl, hbw, hcell⟩ := HR.out.2.2 (by omega)
      have c1 := hcell k hlt
      have hki : (k : Int) < (zs.length : Int) := by omega
      obtain ⟨z1, z2⟩ := HB.out k hlt
      have HS : Hid (sumZ zs (k + 1) = sumZ zs k + zs.getD k 0) := Lib.hid rfl
      have hs := sumTo_bd (fun k => zs.getD k 0) 1000000000 k (fun j hj => HB.out j (by omega))
      have hs1 : 0 ≤ sumZ zs k := hs.1
      have hs2 : sumZ zs k ≤ 1000000000000 := by have := hs.2; unfold sumZ; omega
      clear hs hcell
      generalize zs.getD k 0 = z at *
      generalize hg : sumZ zs k = t at *
      go_wp2
      go_round
      case rel => exact ⟨k + 1, by omega, by go_num, by rw [HS.out]⟩
      case measure => simp [intOf]; omega
    · obtain rfl : k = zs.length := by omega
      go_wp2
      go_ret
      exact ⟨rfl, rfl⟩

/-- How often, by the reference. -/
def rTimesR (xs ys : List Int) : Int × Int × Int := if sumZ ys ys.length = 0 then (0, 0, 11) else ((timesTo xs ys xs.length).1, ((timesTo xs ys xs.length).2 : Int), 0)
set_option maxRecDepth 100000 in
set_option maxHeartbeats 4000000 in
theorem rTimes_any (A B : Option Addr) (c d : Nat) (xs ys : List Int) (w : World) (hx : RI w A xs.length xs) (hy : RI w B ys.length ys) (hxy : xs.length ≤ ys.length) (hn : ys.length ≤ 1000) (b1 : Cnt xs 1000000) (b2 : Cnt ys 1000000) :
    Calls Tryd.prog 44 #[.slice A xs.length c, .slice B ys.length d] w (Ret (.tuple #[.int .i64 (rTimesR xs ys).1, .int .i64 (rTimesR xs ys).2.1, .int .i64 (rTimesR xs ys).2.2]) w) := by
  have HB1 := Lib.hid b1.bd; have HB2 := Lib.hid b2.bd
  have cT := fun W h => total_any B d ys W h hn (fun k hk => by have := b2.bd k hk; omega)
  have HR : Hid (rTimesR xs ys = if sumZ ys ys.length = 0 then (0, 0, 11) else ((timesTo xs ys xs.length).1, ((timesTo xs ys xs.length).2 : Int), 0)) := Lib.hid rfl
  generalize rTimesR xs ys = r at *
  have HX := Lib.hid hx; have HY := Lib.hid hy; clear hx hy b1 b2
  by_cases hs : sumZ ys ys.length = 0
  · rw [hs] at cT
    have HR' : Hid (r = (0, 0, 11)) := Lib.hid (by rw [HR.out, if_pos hs])
    have CT := Lib.hid cT; clear cT HR hs
    go_enter Tryd.func44, Tryd.ntmps44
    go_wp2_with (go_at_call 80; refine Calls.mono (CT.out _ ?_) ?_; (exact HY.out.ext (by repeat (first | exact Ext.refl _ | assumption | refine Ext.alloc ?_ _ | refine Ext.drew ?_ | refine Ext.drewN ?_ _ | (refine Ext.setCell ?_ (by simp <;> omega) _) | refine Ext.trans ?_ (by assumption)))); rintro e w1 ⟨rfl, rfl⟩)
    go_ret3
    exact Ret.mk' (by rw [HR'.out]; rfl) (by repeat (first | exact Ext.refl _ | assumption | refine Ext.alloc ?_ _ | refine Ext.drew ?_ | refine Ext.drewN ?_ _ | (refine Ext.setCell ?_ (by simp <;> omega) _) | refine Ext.trans ?_ (by assumption)))
  · have HR' : Hid (r = ((timesTo xs ys xs.length).1, ((timesTo xs ys xs.length).2 : Int), 0)) := Lib.hid (by rw [HR.out, if_neg hs])
    have e0 : (sumZ ys ys.length == 0) = false := by simpa using hs
    generalize sumZ ys ys.length = su at *
    have CT := Lib.hid cT; clear cT HR hs
    go_enter Tryd.func44, Tryd.ntmps44
    go_wp2_with (go_at_call 80; refine Calls.mono (CT.out _ ?_) ?_; (exact HY.out.ext (by repeat (first | exact Ext.refl _ | assumption | refine Ext.alloc ?_ _ | refine Ext.drew ?_ | refine Ext.drewN ?_ _ | (refine Ext.setCell ?_ (by simp <;> omega) _) | refine Ext.trans ?_ (by assumption)))); rintro e w1 ⟨rfl, rfl⟩)
    go_loopw [7, 8, 9] (fun t s i wr => ∃ k : Nat, k ≤ xs.length ∧ i = .int .i64 k ∧ t = .int .i64 (timesTo xs ys k).1 ∧ s = .int .i64 ((timesTo xs ys k).2 : Int) ∧ Ext w wr) (fun _ _ i _ => xs.length - (intOf i).toNat)
    case atStart => exact ⟨0, Nat.zero_le _, rfl, rfl, rfl, (by repeat (first | exact Ext.refl _ | assumption | refine Ext.alloc ?_ _ | refine Ext.drew ?_ | refine Ext.drewN ?_ _ | (refine Ext.setCell ?_ (by simp <;> omega) _) | refine Ext.trans ?_ (by assumption)))⟩
    case round =>
      obtain ⟨k, hk, rfl, rfl, rfl, hxt⟩ := hrel
      have HXT := Lib.hid hxt
      by_cases hlt : k < xs.length
      · have hky : k < ys.length := by omega
        obtain ⟨b, off, rfl, hbw, hcell⟩ := (HX.out.ext hxt).2.2 (by omega)
        obtain ⟨b', off', rfl, hbw', hcell'⟩ := (HY.out.ext hxt).2.2 (by omega)
        have c1 := hcell k (by omega)
        have c2 := hcell' k hky
        have hki : (k : Int) < (ys.length : Int) := by omega
        have hkx : (k : Int) < (xs.length : Int) := by omega
        obtain ⟨x1, x2⟩ := HB1.out k (by omega)
        obtain ⟨y1, y2⟩ := HB2.out k (by omega)
        have HN : Hid (timesTo xs ys (k + 1) = if 0 < ys.getD k 0 ∧ ((timesTo xs ys k).1 < 0 ∨ xs.getD k 0 / ys.getD k 0 < (timesTo xs ys k).1) then (xs.getD k 0 / ys.getD k 0, k) else timesTo xs ys k) := Lib.hid rfl
        generalize hp : timesTo xs ys k = p at *
        obtain ⟨t, s⟩ := p
        simp only at HN ⊢
        generalize xs.getD k 0 = x at *
        generalize ys.getD k 0 = y at *
        clear hcell hcell' hp hxt
        by_cases hy : 0 < y
        · have dy : decide (0 < y) = true := decide_eq_true hy
          have hq0 : x.tdiv y = x / y := Int.tdiv_eq_ediv_of_nonneg x1
          have hq1 : 0 ≤ x / y := Int.ediv_nonneg x1 y1
          have hq2 : x / y ≤ 1000000 := Int.le_trans (Int.ediv_le_self _ x1) x2
          have hq3 : IntKind.i64.wrap (x / y) = x / y := IntWalk.i64_in _ (by omega)
          have ey : (y == 0) = false := by simp; omega
          by_cases ht : t < 0
          · have dt : decide (t < 0) = true := decide_eq_true ht
            have HN' : Hid (timesTo xs ys (k + 1) = (x / y, k)) := Lib.hid (by rw [HN.out, if_pos ⟨hy, .inl ht⟩])
            clear HN
            go_wp2
            go_quiet (fail)
            go_wp2
            go_quiet (fail)
            clear hq3
            go_wp2
            go_roundw
            case rel => exact ⟨k + 1, by omega, by go_num, by rw [HN'.out], by rw [HN'.out], HXT.out.trans (by repeat (first | exact Ext.refl _ | assumption | refine Ext.alloc ?_ _ | refine Ext.drew ?_ | refine Ext.drewN ?_ _ | (refine Ext.setCell ?_ (by simp <;> omega) _) | refine Ext.trans ?_ (by assumption)))⟩
            case measure => simp [intOf]; omega
          · have dt : decide (t < 0) = false := decide_eq_false ht
            by_cases hq : x / y < t
            · have dq : decide (x / y < t) = true := decide_eq_true hq
              have HN' : Hid (timesTo xs ys (k + 1) = (x / y, k)) := Lib.hid (by rw [HN.out, if_pos ⟨hy, .inr hq⟩])
              clear HN
              go_wp2
              go_quiet (fail)
              go_wp2
              go_quiet (fail)
              clear hq3
              go_wp2
              go_roundw
              case rel => exact ⟨k + 1, by omega, by go_num, by rw [HN'.out], by rw [HN'.out], HXT.out.trans (by repeat (first | exact Ext.refl _ | assumption | refine Ext.alloc ?_ _ | refine Ext.drew ?_ | refine Ext.drewN ?_ _ | (refine Ext.setCell ?_ (by simp <;> omega) _) | refine Ext.trans ?_ (by assumption)))⟩
              case measure => simp [intOf]; omega
            · have dq : decide (x / y < t) = false := decide_eq_false hq
              have HN' : Hid (timesTo xs ys (k + 1) = (t, s)) := Lib.hid (by rw [HN.out, if_neg (by rintro ⟨_, h | h⟩; exact ht h; exact hq h)])
              clear HN
              go_wp2
              go_quiet (fail)
              clear hq3
              go_wp2
              go_roundw
              case rel => exact ⟨k + 1, by omega, by go_num, by rw [HN'.out], by rw [HN'.out], HXT.out.trans (by repeat (first | exact Ext.refl _ | assumption | refine Ext.alloc ?_ _ | refine Ext.drew ?_ | refine Ext.drewN ?_ _ | (refine Ext.setCell ?_ (by simp <;> omega) _) | refine Ext.trans ?_ (by assumption)))⟩
              case measure => simp [intOf]; omega
        · have dy : decide (0 < y) = false := decide_eq_false hy
          have HN' : Hid (timesTo xs ys (k + 1) = (t, s)) := Lib.hid (by rw [HN.out, if_neg (fun h => hy h.1)])
          clear HN
          go_wp2
          go_quiet (fail)
          go_wp2
          go_roundw
          case rel => exact ⟨k + 1, by omega, by go_num, by rw [HN'.out], by rw [HN'.out], HXT.out.trans (by repeat (first | exact Ext.refl _ | assumption | refine Ext.alloc ?_ _ | refine Ext.drew ?_ | refine Ext.drewN ?_ _ | (refine Ext.setCell ?_ (by simp <;> omega) _) | refine Ext.trans ?_ (by assumption)))⟩
          case measure => simp [intOf]; omega
      · obtain rfl : k = xs.length := by omega
        go_wp2
        go_ret3
        exact Ret.mk' (by rw [HR'.out]; rfl) (HXT.out.trans (by repeat (first | exact Ext.refl _ | assumption | refine Ext.alloc ?_ _ | refine Ext.drew ?_ | refine Ext.drewN ?_ _ | (refine Ext.setCell ?_ (by simp <;> omega) _) | refine Ext.trans ?_ (by assumption))))
set_option maxRecDepth 100000 in
set_option maxHeartbeats 2000000 in
theorem rMetal_any (f : FT) (A : Option Addr) (c : Nat) (B : Option Addr) (d : Nat) (cs : List Int) (w : World) (hf : FR w A c f) (hc : RI w B cs.length cs) (hok : MetalOk f cs) :
    Calls Tryd.prog 51 #[f.val A c, .slice B cs.length d] w (Ret (.int .i64 (metalR f cs)) w) := by
  have HOK := Lib.hid hok
  have HMR : Hid (metalR f cs = metalTo f.sorts cs f.body f.sorts.length) := Lib.hid rfl
  generalize metalR f cs = mr at *
  have hf := hf.rt
  obtain ⟨name, body, ss⟩ := f
  simp only [FT.val] at *
  obtain ⟨hb1, hb2⟩ := hok.body
  have hfew := hok.few
  have hl1 : cs.length ≤ ss.length := by have : cs.length = ss.length := hok.len; omega
  have hl2 : ss.length ≤ cs.length := by have : cs.length = ss.length := hok.len; omega
  clear hok
  have HF := Lib.hid hf; have HC := Lib.hid hc; clear hf hc
  go_enter Tryd.func51, Tryd.ntmps51
  go_wp2
  go_loopw [5, 6] (fun s i wr => ∃ k : Nat, k ≤ ss.length ∧ i = .int .i64 k ∧ s = .int .i64 (metalTo ss cs body k) ∧ Ext (w.alloc (.cells #[.string name, .int .i64 body, .slice A ss.length c] 24)) wr) (fun s i _ => ss.length - (intOf i).toNat)
  case atStart => exact ⟨0, Nat.zero_le _, rfl, rfl, Ext.refl _⟩
  case round =>
    obtain ⟨k, hk, rfl, rfl, hx⟩ := hrel
    by_cases hlt : k < ss.length
    · obtain ⟨b, off, rfl, hb, hcell⟩ := (HF.out.ext hx.of_alloc).2.2 (by omega)
      have hltc : k < cs.length := by omega
      obtain ⟨b', off', rfl, hb', hcell'⟩ := (HC.out.ext hx.of_alloc).2.2 (by omega)
      obtain ⟨c1, c2, c3, c4⟩ := hcell k hlt
      have d1 := hcell' k hltc
      have e1 := boxed hx 1 _ rfl
      have e2 := boxed hx 2 _ rfl
      have hlti : (k : Int) < (cs.length : Int) := by omega
      have hlts : (k : Int) < (ss.length : Int) := by omega
      have hsz := hx.lt_of_alloc
      have w1 := HOK.out.wid k hlt
      have w2 := HOK.out.cnt k hlt
      have p1 := mul_bd w2 ⟨Int.le_trans (by omega) w1.1, w1.2⟩
      have p2 := HOK.out.term k hlt
      have p3 := HOK.out.bd k hk
      have HM : Hid (metalTo ss cs body (k + 1) = metalTo ss cs body k + cs.getD k 0 * (ss.getD k TS.zero).width * body) := Lib.hid rfl
      simp only at w1 w2 p1 p2 p3
      generalize ss.getD k TS.zero = s at *
      generalize cs.getD k 0 = q at *
      clear hcell hcell'
      have q1 := IntWalk.i64_in (q * s.width) (by omega)
      have q2 := IntWalk.i64_in (q * s.width * body) (by omega)
      have q3 := IntWalk.i64_in (metalTo ss cs body k + q * s.width * body) (by omega)
      have HX := Lib.hid hx; clear hx
      go_wp2
      go_quiet (fail)
      go_wp2
      clear q1 q2 q3
      go_roundw
      case rel => exact ⟨k + 1, by omega, by go_num, by rw [HM.out], HX.out.trans (by repeat (first | exact Ext.refl _ | assumption | refine Ext.alloc ?_ _ | refine Ext.drew ?_ | refine Ext.drewN ?_ _ | (refine Ext.setCell ?_ (by simp <;> omega) _) | refine Ext.trans ?_ (by assumption)))⟩
      case measure => simp [intOf]; omega
    · obtain rfl : k = ss.length := by omega
      have HX := Lib.hid hx; clear hx
      go_wp2
      go_ret
      exact Ret.mk' (by rw [HMR.out]; rfl) HX.out.of_alloc
end Go.Proofs.YtiailnblfonhjaaDoor
