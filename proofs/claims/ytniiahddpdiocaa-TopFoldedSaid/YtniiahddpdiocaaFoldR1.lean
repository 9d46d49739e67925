/-
  Walks of the reference: CheckSheet, Flat, turned.
-/
import Derived.Test.YtniiahddpdiocaaFoldRMem
namespace Go.Proofs.Ytniiahddpdiocaa
open Go.RowKit

theorem bWi_any (n lo hi : Int) (w : World) :
    Calls Try.prog 6 #[.int .i64 n, .int .i64 lo, .int .i64 hi] w (Same (.bool (decide (lo ≤ n) && decide (n ≤ hi))) w) := by
  go_enter Try.func6, Try.ntmps6
  go_wp2 <;> go_ret <;> refine ⟨?_, rfl⟩ <;> simp_all
  omega
theorem bWi_yes (n lo hi : Int) (w : World) (h : lo ≤ n ∧ n ≤ hi) : Calls Try.prog 6 #[.int .i64 n, .int .i64 lo, .int .i64 hi] w (Same (.bool true) w) :=
  (bWi_any n lo hi w).mono fun _ _ ⟨he, hw⟩ => ⟨by rw [he]; simp [h], hw⟩
theorem bWi_no (n lo hi : Int) (w : World) (h : ¬ (lo ≤ n ∧ n ≤ hi)) : Calls Try.prog 6 #[.int .i64 n, .int .i64 lo, .int .i64 hi] w (Same (.bool false) w) :=
  (bWi_any n lo hi w).mono fun _ _ ⟨he, hw⟩ => ⟨by rw [he]; congr 2; rw [Bool.and_eq_false_iff, decide_eq_false_iff_not, decide_eq_false_iff_not]; omega, hw⟩
theorem rCheckSheet_any (C R : Int) (w : World) : Calls Try.prog 31 #[.int .i64 C, .int .i64 R] w (Same (.int .i64 (sheetE C R)) w) := by
  by_cases h1 : 1 ≤ C ∧ C ≤ 8
  · by_cases h2 : 1 ≤ R ∧ R ≤ 8
    · have hm := mul_bd (a := C) (b := R) (M := 8) (N := 8) (by omega) (by omega)
      have hw := IntWalk.i64_in (C * R) (by omega)
      by_cases h3 : 32 < C * R
      · have he : Hid (sheetE C R = 8) := Lib.hid (by unfold sheetE; rw [if_neg (by omega), if_neg (by omega), if_pos h3])
        go_enter Try.func31, Try.ntmps31
        go_wp2_with (first | (go_at_call 6; refine Calls.mono (bWi_yes _ _ _ _ ?_) ?_; (omega); rintro e w1 ⟨rfl, rfl⟩) | (go_at_call 6; refine Calls.mono (bWi_no _ _ _ _ ?_) ?_; (omega); rintro e w1 ⟨rfl, rfl⟩))
        go_ret
        exact ⟨by rw [he.out]; rfl, rfl⟩
      · have he : Hid (sheetE C R = 0) := Lib.hid (by unfold sheetE; rw [if_neg (by omega), if_neg (by omega), if_neg h3])
        go_enter Try.func31, Try.ntmps31
        go_wp2_with (first | (go_at_call 6; refine Calls.mono (bWi_yes _ _ _ _ ?_) ?_; (omega); rintro e w1 ⟨rfl, rfl⟩) | (go_at_call 6; refine Calls.mono (bWi_no _ _ _ _ ?_) ?_; (omega); rintro e w1 ⟨rfl, rfl⟩))
        go_ret
        exact ⟨by rw [he.out]; rfl, rfl⟩
    · have he : Hid (sheetE C R = 2) := Lib.hid (by unfold sheetE; rw [if_neg (by omega), if_pos h2])
      go_enter Try.func31, Try.ntmps31
      go_wp2_with (first | (go_at_call 6; refine Calls.mono (bWi_yes _ _ _ _ ?_) ?_; (omega); rintro e w1 ⟨rfl, rfl⟩) | (go_at_call 6; refine Calls.mono (bWi_no _ _ _ _ ?_) ?_; (omega); rintro e w1 ⟨rfl, rfl⟩))
      go_ret
      exact ⟨by rw [he.out]; rfl, rfl⟩
  · have he : Hid (sheetE C R = 2) := Lib.hid (by unfold sheetE; rw [if_pos h1])
    go_enter Try.func31, Try.ntmps31
    go_wp2_with (first | (go_at_call 6; refine Calls.mono (bWi_yes _ _ _ _ ?_) ?_; (omega); rintro e w1 ⟨rfl, rfl⟩) | (go_at_call 6; refine Calls.mono (bWi_no _ _ _ _ ?_) ?_; (omega); rintro e w1 ⟨rfl, rfl⟩))
    go_ret
    exact ⟨by rw [he.out]; rfl, rfl⟩
/-- So many leaves of one's own. -/
def RetTu (n : Nat) (w : World) (e : Ending) (w' : World) : Prop := ∃ (v : Value) (l' : List Lf), e = .returned v ∧ OLf w' w.heap.size v l' ∧ l'.length = n ∧ Ext w w'
set_option maxRecDepth 100000 in
set_option maxHeartbeats 4000000 in
theorem rTurned_any (A : Option Addr) (c : Nat) (l : List Lf) (ov ro : Int) (w : World) (h : RLf w A l) (hn : l.length ≤ 100000) :
    Calls Try.prog 93 #[.slice A l.length c, .int .i64 ov, .int .i64 ro] w (RetTu l.length w) := by
  have HR := Lib.hid h
  have hbig : l.length ≤ 9223372036854775807 := by omega
  clear h
  go_enter Try.func93, Try.ntmps93
  go_wp2
  go_loopw [7, 8, 9] (fun v7 v8 _ wr => ∃ (k : Nat) (z : Int) (l' : List Lf), k ≤ l.length ∧ v8 = .int .i64 z ∧ z = (l.length : Int) - 1 - (k : Int) ∧ Hid (l'.length = k) ∧ Hid (OLf wr w.heap.size v7 l') ∧ Hid (Ext w wr)) (fun _ v8 _ _ => (intOf v8 + 1).toNat)
  case atStart => exact ⟨0, _, [], Nat.zero_le _, rfl, by omega, Lib.hid rfl, Lib.hid (OLf.nil _ _), Lib.hid (Ext.refl _)⟩
  case round =>
    obtain ⟨k, z, l', hk, rfl, hz, HL, HO, HX⟩ := hrel
    by_cases hlt : 0 ≤ z
    case pos =>
      obtain ⟨j, hj⟩ : ∃ j : Nat, z = (j : Int) := ⟨z.toNat, by omega⟩
      have hjl : j < l.length := by omega
      have hkl : k < l.length := by omega
      have HK := Lib.hid hz
      clear hz
      subst hj
      have ij : (j : Int) < (l.length : Int) := by omega
      obtain ⟨b, off, rfl, hbw, c0, c1, c2, c3⟩ := (RLf.ext HR.out HX.out).at_ hjl
      have HSZ : Hid (w.heap.size ≤ wr.heap.size) := Lib.hid HX.out.size
      generalize l.getD j Lf.zero = x at *
      obtain ⟨xc, xr, xo, xu⟩ := x
      simp only at c0 c1 c2 c3
      have hll : l'.length ≤ 200000 := by have := HL.out; omega
      go_wp2_with (first | (at_builtin; refine list_appendC placeLeafElt rfl (.tmp 33) (.tmp 35) rfl w.heap.size l'.length _ (lfCells l') rfl (OLf.ext HO.out (by repeat (first | exact Ext.refl _ | assumption | refine Ext.alloc ?_ _ | refine Ext.drew ?_ | refine Ext.drewN ?_ _ | (refine Ext.setCell ?_ (by simp <;> omega) _) | refine Ext.trans ?_ (by assumption)))) (some ⟨wr.heap.size + 1, 0, none⟩) 1 1 _ rfl (RC.blk (n := 1) (size := 4) (Blk.new1 _ _ _ _) rfl (by omega)) (fun y hy => by simp only [List.mem_cons, List.not_mem_nil, or_false] at hy; rcases hy with rfl | rfl | rfl | rfl <;> rfl) (by omega) (by have := HSZ.out; simp; omega) ?_; intro v' w' ho hg; have HO2 : Hid (∃ l'' : List Lf, l''.length = k + 1 ∧ OLf w' w.heap.size v' l'') := Lib.hid ⟨l' ++ [⟨xc, xr, _, _⟩], by rw [List.length_append, HL.out]; rfl, by unfold OLf; rw [List.length_append, lfCells_app]; exact ho⟩; have HX2 := Lib.hid (own_grown (OLf.ext HO.out (by repeat (first | exact Ext.refl _ | assumption | refine Ext.alloc ?_ _ | refine Ext.drew ?_ | refine Ext.drewN ?_ _ | (refine Ext.setCell ?_ (by simp <;> omega) _) | refine Ext.trans ?_ (by assumption)))) hg (HX.out.trans (by repeat (first | exact Ext.refl _ | assumption | refine Ext.alloc ?_ _ | refine Ext.drew ?_ | refine Ext.drewN ?_ _ | (refine Ext.setCell ?_ (by simp <;> omega) _) | refine Ext.trans ?_ (by assumption)))) (Nat.le_refl _)); clear ho hg))
      go_roundw
      case rel =>
        obtain ⟨l2, h8, h9⟩ := HO2.out
        exact ⟨k + 1, (j : Int) - 1, l2, by omega, by go_num, by have := HK.out; omega, Lib.hid h8, Lib.hid h9, HX2⟩
      case measure => simp [intOf] <;> omega
    case neg =>
      have hkn : k = l.length := by omega
      have HKN := Lib.hid hkn
      clear hkn hz
      go_wp2
      go_ret
      exact ⟨_, l', rfl, HO.out, by rw [HL.out, HKN.out], HX.out⟩
theorem hd_zero (w : World) : Blk (w.alloc (.cells #[.int .i64 0, .int .i64 0, .slice none 0 0] 94)) w.heap.size 94 #[.int .i64 0, .int .i64 0, .slice none 0 0] := Blk.new _ _ _
set_option maxRecDepth 100000 in
set_option maxHeartbeats 8000000 in
theorem rFlat_any (C R : Nat) (w : World) (hC : C ≤ 8) (hR : R ≤ 8) :
    Calls Try.prog 57 #[.int .i64 (C : Int), .int .i64 (R : Int)] w (RetH C R 1 w) := by
  have hRC : R * C ≤ 64 := Nat.mul_le_mul hR hC
  have HB0 := Lib.hid (hd_zero w)
  have HX0 : Hid (Ext w (w.alloc (.cells #[.int .i64 0, .int .i64 0, .slice none 0 0] 94))) := Lib.hid (by repeat (first | exact Ext.refl _ | assumption | refine Ext.alloc ?_ _ | refine Ext.drew ?_ | refine Ext.drewN ?_ _ | (refine Ext.setCell ?_ (by simp <;> omega) _) | refine Ext.trans ?_ (by assumption)))
  have HG0 : Hid (Hw (w.alloc (.cells #[.int .i64 0, .int .i64 0, .slice none 0 0] 94)) ((w.alloc (.cells #[.int .i64 0, .int .i64 0, .slice none 0 0] 94)).alloc (.cells #[.int .i64 (C : Int), .int .i64 (R : Int), .slice none 0 0] 94)) (w.heap.size + 1) C R 1 (.slice none 0 0) (.slice none 0 0) []) := Lib.hid
    ⟨(by repeat (first | exact Ext.refl _ | assumption | refine Ext.alloc ?_ _ | refine Ext.drew ?_ | refine Ext.drewN ?_ _ | (refine Ext.setCell ?_ (by simp <;> omega) _) | refine Ext.trans ?_ (by assumption))), by simp, Blk.new1 _ _ _ _, World.ownsRow_nil _ _ _ _, fun s hs => by cases hs⟩
  go_enter Try.func57, Try.ntmps57
  go_wp2
  generalize (w.alloc (.cells #[.int .i64 0, .int .i64 0, .slice none 0 0] 94)) = w0 at *
  generalize (w0.alloc (.cells #[.int .i64 (C : Int), .int .i64 (R : Int), .slice none 0 0] 94)) = w1 at *
  have HPB : Hid (w.heap.size < w.heap.size + 1) := Lib.hid (Nat.lt_succ_self _)
  generalize w.heap.size + 1 = pb at *
  go_loopw [6, 7] (fun v6 _ wr => ∃ (r : Nat) (v : Value) (rows : List SLf), r ≤ R ∧ v6 = .int .i64 (r : Int) ∧ Hid (Hw w0 wr pb C R 1 v v rows) ∧ Hid (rows.length = r * C)) (fun v6 _ _ => R - (intOf v6).toNat)
  case atStart => exact ⟨0, _, _, Nat.zero_le _, rfl, HG0, Lib.hid (by simp)⟩
  case round =>
    obtain ⟨r, v, rows, hr, rfl, HG, HN⟩ := hrel
    clear HG0
    by_cases hlt : r < R
    case pos =>
      have ir : (r : Int) < (R : Int) := by omega
      go_wp2
      go_loopw [7] (fun v7 wr => ∃ (c : Nat) (v : Value) (rows : List SLf), c ≤ C ∧ v7 = .int .i64 (c : Int) ∧ Hid (Hw w0 wr pb C R 1 v v rows) ∧ Hid (rows.length = r * C + c)) (fun v7 _ => C - (intOf v7).toNat)
      case atStart => exact ⟨0, _, _, Nat.zero_le _, rfl, HG, HN⟩
      case round =>
        clear HG HN
        obtain ⟨c, v, rows, hc, rfl, HG, HN⟩ := hrel
        by_cases hlc : c < C
        case pos =>
          have ic : (c : Int) < (C : Int) := by omega
          have hgl := grid_lt (C := C) (R := R) hlc hlt
          have hrn : rows.length ≤ 1000 := by have := HN.out; omega
          obtain ⟨A0, d0, rfl, _⟩ := own_form HG.out.ho.own (by omega)
          obtain ⟨k0, k1, k2, kl⟩ := HG.out.blk.c3
          have HKL : Hid (pb + 1 ≤ wr.heap.size) := Lib.hid kl
          have HS1 := Lib.hid (leaf_lit wr 0 (Nat.zero_le _) ⟨(c : Int), (r : Int), 0, 0⟩)
          go_wp2_with (first | (at_builtin; refine list_appendC placeElt rfl (.tmp 22) (.tmp 27) rfl (pb + 1) rows.length _ (rows.map SLf.val) rfl (own_later HG.out.ho.own (by repeat (first | exact Ext.refl _ | assumption | refine Ext.alloc ?_ _ | refine Ext.drew ?_ | refine Ext.drewN ?_ _ | (refine Ext.setCell ?_ (by simp <;> omega) _) | refine Ext.trans ?_ (by assumption)))) (some ⟨wr.heap.size + 1, 0, none⟩) 1 1 [.slice (some ⟨wr.heap.size, 0, none⟩) 1 1] rfl (RC.blk (n := 1) (size := 1) (Blk.new1 _ _ _ _) rfl (by omega)) (fun x hx => by rw [List.mem_singleton.1 hx]; rfl) (by omega) (by have := HKL.out; simp; omega) ?_; intro v' w' ho hg; have HM := Lib.hid ((HG.out.next (by repeat (first | exact Ext.refl _ | assumption | refine Ext.alloc ?_ _ | refine Ext.drew ?_ | refine Ext.drewN ?_ _ | (refine Ext.setCell ?_ (by simp <;> omega) _) | refine Ext.trans ?_ (by assumption)))).push (s := ⟨some ⟨wr.heap.size, 0, none⟩, 1, [⟨(c : Int), (r : Int), 0, 0⟩]⟩) (HS1.out.ext (by repeat (first | exact Ext.refl _ | assumption | refine Ext.alloc ?_ _ | refine Ext.drew ?_ | refine Ext.drewN ?_ _ | (refine Ext.setCell ?_ (by simp <;> omega) _) | refine Ext.trans ?_ (by assumption)))) (Nat.le_refl _) hg ho); obtain ⟨A9, c9, rfl, _⟩ := own_form ho (by omega); obtain ⟨m0, m1, m2, ml⟩ := HM.out.blk.c3; have F := HM.out.blk.frozen 2; clear ho hg))
          go_roundw
          case rel => exact ⟨c + 1, _, _, by omega, by go_num, Lib.hid HM.out.store, Lib.hid (by rw [List.length_append, HN.out]; rfl)⟩
          case measure => simp [intOf]; omega
        case neg =>
          obtain rfl : C = c := by omega
          have iC : ¬ (C : Int) < (C : Int) := by omega
          clear hlc
          go_wp2
          go_roundw
          case rel => exact ⟨r + 1, v, rows, by omega, by go_num, HG, Lib.hid (by rw [Nat.add_mul, Nat.one_mul]; exact HN.out)⟩
          case measure => simp [intOf]; omega
    case neg =>
      obtain rfl : R = r := by omega
      clear hr
      have hRn : rows.length ≤ 1000 := by have := HN.out; omega
      obtain ⟨A9, d9, rfl, _⟩ := own_form HG.out.ho.own (by omega)
      obtain ⟨k0, k1, k2, kl⟩ := HG.out.blk.c3
      have HB1 := Lib.hid (HB0.out.ext HG.out.ext)
      obtain ⟨r0, r1, r2, rl⟩ := HB1.out.c3
      have F := HB1.out.frozen
      have iR : ¬ (R : Int) < (R : Int) := by omega
      have HM := Lib.hid HG.out
      clear hlt HG
      go_wp2
      have HV := Lib.hid (HX0.out.trans HM.out.ext)
      have h9 := (HM.out.ho.mono (base' := w.heap.size + 1) (by have := HPB.out; omega)).far3 (Nat.lt_succ_self _) (by decide) HB1.out
      refine bodyPost_ret (v := .agg #[.int .i64 (C : Int), .int .i64 (R : Int), .slice A9 rows.length d9]) (by simp [results, Try.results57, go_sem, r0, r1, r2]) rfl ⟨A9, d9, rows, rfl, HN.out, (h9 _ _ _).mono (by have := HX0.out.size; omega), setCell3 HV.out (by omega) _ _ _⟩
end Go.Proofs.Ytniiahddpdiocaa
