/-
  Walks: within, checkSheet, stack, flat; over and round.
-/
import Derived.Test.YtniiahddpdiocaaFoldGrid
namespace Go.Proofs.Ytniiahddpdiocaa
open Go.RowKit

theorem iWithin_any (n lo hi : Int) (w : World) :
    Calls Try.prog 60 #[.int .i64 n, .int .i64 lo, .int .i64 hi] w (Same (.bool (decide (lo ≤ n) && decide (n ≤ hi))) w) := by
  go_enter Try.func60, Try.ntmps60
  go_wp2 <;> go_ret <;> refine ⟨?_, rfl⟩ <;> simp_all
  omega
theorem iWithin_yes (n lo hi : Int) (w : World) (h : lo ≤ n ∧ n ≤ hi) : Calls Try.prog 60 #[.int .i64 n, .int .i64 lo, .int .i64 hi] w (Same (.bool true) w) :=
  (iWithin_any n lo hi w).mono fun _ _ ⟨he, hw⟩ => ⟨by rw [he]; simp [h], hw⟩
theorem iWithin_no (n lo hi : Int) (w : World) (h : ¬ (lo ≤ n ∧ n ≤ hi)) : Calls Try.prog 60 #[.int .i64 n, .int .i64 lo, .int .i64 hi] w (Same (.bool false) w) :=
  (iWithin_any n lo hi w).mono fun _ _ ⟨he, hw⟩ => ⟨by rw [he]; congr 2; rw [Bool.and_eq_false_iff, decide_eq_false_iff_not, decide_eq_false_iff_not]; omega, hw⟩
/-- The error of a sheet. -/
def sheetE (C R : Int) : Int := if ¬ (1 ≤ C ∧ C ≤ 8) then 2 else if ¬ (1 ≤ R ∧ R ≤ 8) then 2 else if 32 < C * R then 8 else 0
theorem sheetE_zero {C R : Int} (h : sheetE C R = 0) : ∃ c r : Nat, C = (c : Int) ∧ R = (r : Int) ∧ 1 ≤ c ∧ c ≤ 8 ∧ 1 ≤ r ∧ r ≤ 8 ∧ r * c ≤ 32 := by
  unfold sheetE at h
  split at h
  · omega
  · split at h
    · omega
    · split at h
      · omega
      · rename_i h1 h2 h3
        obtain ⟨c, rfl⟩ : ∃ c : Nat, C = (c : Int) := ⟨C.toNat, by omega⟩
        obtain ⟨r, rfl⟩ : ∃ r : Nat, R = (r : Int) := ⟨R.toNat, by omega⟩
        refine ⟨c, r, rfl, rfl, by omega, by omega, by omega, by omega, ?_⟩
        rw [← Int.natCast_mul] at h3
        rw [Nat.mul_comm]
        omega
theorem checkSheet_any (C R : Int) (w : World) : Calls Try.prog 54 #[.int .i64 C, .int .i64 R] w (Same (.int .i64 (sheetE C R)) w) := by
  by_cases h1 : 1 ≤ C ∧ C ≤ 8
  · by_cases h2 : 1 ≤ R ∧ R ≤ 8
    · have hm := mul_bd (a := C) (b := R) (M := 8) (N := 8) (by omega) (by omega)
      have hw := IntWalk.i64_in (C * R) (by omega)
      by_cases h3 : 32 < C * R
      · have he : Hid (sheetE C R = 8) := Lib.hid (by unfold sheetE; rw [if_neg (by omega), if_neg (by omega), if_pos h3])
        go_enter Try.func54, Try.ntmps54
        go_wp2_with (first | (go_at_call 60; refine Calls.mono (iWithin_yes _ _ _ _ ?_) ?_; (omega); rintro e w1 ⟨rfl, rfl⟩) | (go_at_call 60; refine Calls.mono (iWithin_no _ _ _ _ ?_) ?_; (omega); rintro e w1 ⟨rfl, rfl⟩))
        go_ret
        exact ⟨by rw [he.out]; rfl, rfl⟩
      · have he : Hid (sheetE C R = 0) := Lib.hid (by unfold sheetE; rw [if_neg (by omega), if_neg (by omega), if_neg h3])
        go_enter Try.func54, Try.ntmps54
        go_wp2_with (first | (go_at_call 60; refine Calls.mono (iWithin_yes _ _ _ _ ?_) ?_; (omega); rintro e w1 ⟨rfl, rfl⟩) | (go_at_call 60; refine Calls.mono (iWithin_no _ _ _ _ ?_) ?_; (omega); rintro e w1 ⟨rfl, rfl⟩))
        go_ret
        exact ⟨by rw [he.out]; rfl, rfl⟩
    · have he : Hid (sheetE C R = 2) := Lib.hid (by unfold sheetE; rw [if_neg (by omega), if_pos h2])
      go_enter Try.func54, Try.ntmps54
      go_wp2_with (first | (go_at_call 60; refine Calls.mono (iWithin_yes _ _ _ _ ?_) ?_; (omega); rintro e w1 ⟨rfl, rfl⟩) | (go_at_call 60; refine Calls.mono (iWithin_no _ _ _ _ ?_) ?_; (omega); rintro e w1 ⟨rfl, rfl⟩))
      go_ret
      exact ⟨by rw [he.out]; rfl, rfl⟩
  · have he : Hid (sheetE C R = 2) := Lib.hid (by unfold sheetE; rw [if_pos h1])
    go_enter Try.func54, Try.ntmps54
    go_wp2_with (first | (go_at_call 60; refine Calls.mono (iWithin_yes _ _ _ _ ?_) ?_; (omega); rintro e w1 ⟨rfl, rfl⟩) | (go_at_call 60; refine Calls.mono (iWithin_no _ _ _ _ ?_) ?_; (omega); rintro e w1 ⟨rfl, rfl⟩))
    go_ret
    exact ⟨by rw [he.out]; rfl, rfl⟩
/-- The stack at a place. -/
theorem stack_any (p : Pl) (A : Option Addr) (d : Nat) (rows : List SLf) (c r : Nat) (w : World) (h : PR w p A rows) (hl : p.at_.length = p.R * p.C) (h8 : p.C ≤ 8) (h9 : p.R ≤ 8) (hc : c < p.C) (hr : r < p.R) :
    Calls Try.prog 86 #[plV p A rows.length d, .int .i64 (c : Int), .int .i64 (r : Int)] w (fun e w' => ∃ s : SLf, e = .returned s.val ∧ s.l = p.st c r ∧ RLf w' s.A s.l ∧ Ext w w') := by
  have hk := grid_lt hc hr
  have hlen := h.len
  have hRC : p.R * p.C ≤ 64 := Nat.mul_le_mul h9 h8
  obtain ⟨b, off, s, rfl, hb, hcell, hs, hlf⟩ := h.at_ (k := r * p.C + c) (by omega)
  have HS : Hid (s.l = p.st c r) := Lib.hid hs
  have HLF := Lib.hid hlf
  have hrc : r * p.C ≤ 64 := by omega
  have w1 : IntKind.i64.wrap ((r : Int) * (p.C : Int)) = ((r * p.C : Nat) : Int) := by rw [IntWalk.i64_in _ (by rw [← Int.natCast_mul]; omega), Int.natCast_mul]
  obtain ⟨q, hq⟩ : ∃ q : Nat, q = r * p.C := ⟨_, rfl⟩
  rw [← hq] at w1 hcell hk hrc
  have w2 : IntKind.i64.wrap ((q : Int) + (c : Int)) = ((q + c : Nat) : Int) := by rw [IntWalk.i64_in _ (by omega)]; omega
  obtain ⟨k, hk2⟩ : ∃ k : Nat, k = q + c := ⟨_, rfl⟩
  rw [← hk2] at w2 hcell hk
  have ik : (k : Int) < (rows.length : Int) := by omega
  have hbig : rows.length ≤ 9223372036854775807 := by omega
  obtain ⟨sA, sc, sl⟩ := s
  simp only [SLf.val] at hcell HS HLF
  unfold plV
  clear hs hlf h hl hlen hq hk2 hk
  go_enter Try.func86, Try.ntmps86
  go_wp2
  go_ret
  exact ⟨⟨sA, sc, sl⟩, rfl, HS.out, HLF.out.ext (by repeat (first | exact Ext.refl _ | assumption | refine Ext.alloc ?_ _ | refine Ext.drew ?_ | refine Ext.drewN ?_ _ | (refine Ext.setCell ?_ (by simp <;> omega) _) | refine Ext.trans ?_ (by assumption))), (by repeat (first | exact Ext.refl _ | assumption | refine Ext.alloc ?_ _ | refine Ext.drew ?_ | refine Ext.drewN ?_ _ | (refine Ext.setCell ?_ (by simp <;> omega) _) | refine Ext.trans ?_ (by assumption)))⟩
theorem leaf_lit (w : World) (base : Nat) (hb : base ≤ w.heap.size) (x : Lf) : OLf (w.alloc (.cells #[.int .i64 x.c, .int .i64 x.r, .int .i64 x.o, .int .i64 x.u] 90)) base (.slice (some ⟨w.heap.size, 0, none⟩) 1 1) [x] :=
  World.ownsRow_lit (e := 90) (size := 4) w #[.int .i64 x.c, .int .i64 x.r, .int .i64 x.o, .int .i64 x.u] 1 hb (by unfold maxLen; omega) rfl
set_option maxRecDepth 100000 in
set_option maxHeartbeats 8000000 in
theorem flat_any (C R : Nat) (w : World) (hC : C ≤ 8) (hR : R ≤ 8) :
    Calls Try.prog 55 #[.int .i64 (C : Int), .int .i64 (R : Int)] w (RetPl (flatP C R) w) := by
  have hRC : R * C ≤ 64 := Nat.mul_le_mul hR hC
  have HB0 : Hid (Blk (w.alloc (.cells #[.int .i64 0, .int .i64 0, .slice none 0 0] 123)) w.heap.size 123 #[.int .i64 0, .int .i64 0, .slice none 0 0]) := Lib.hid (Blk.new _ _ _)
  have HX0 : Hid (Ext w (w.alloc (.cells #[.int .i64 0, .int .i64 0, .slice none 0 0] 123))) := Lib.hid (by repeat (first | exact Ext.refl _ | assumption | refine Ext.alloc ?_ _ | refine Ext.drew ?_ | refine Ext.drewN ?_ _ | (refine Ext.setCell ?_ (by simp <;> omega) _) | refine Ext.trans ?_ (by assumption)))
  have HG0 : Hid (Gd (w.alloc (.cells #[.int .i64 0, .int .i64 0, .slice none 0 0] 123)) ((w.alloc (.cells #[.int .i64 0, .int .i64 0, .slice none 0 0] 123)).alloc (.cells #[.int .i64 (C : Int), .int .i64 (R : Int), .slice none 0 0] 123)) (w.heap.size + 1) C R (fun c r => [⟨(c : Int), (r : Int), 0, 0⟩]) (0 * C) (.slice none 0 0) []) := Lib.hid
    ⟨⟨(by repeat (first | exact Ext.refl _ | assumption | refine Ext.alloc ?_ _ | refine Ext.drew ?_ | refine Ext.drewN ?_ _ | (refine Ext.setCell ?_ (by simp <;> omega) _) | refine Ext.trans ?_ (by assumption))), by simp, Blk.new1 _ _ _ _, World.ownsRow_nil _ _ _ _, fun s hs => by cases hs⟩, by simp, by rw [Nat.zero_mul]; rfl⟩
  go_enter Try.func55, Try.ntmps55
  go_wp2
  generalize (w.alloc (.cells #[.int .i64 0, .int .i64 0, .slice none 0 0] 123)) = w0 at *
  generalize (w0.alloc (.cells #[.int .i64 (C : Int), .int .i64 (R : Int), .slice none 0 0] 123)) = w1 at *
  have HPB : Hid (w.heap.size < w.heap.size + 1) := Lib.hid (Nat.lt_succ_self _)
  generalize w.heap.size + 1 = pb at *
  go_loopw [12, 6, 7] (fun v12 _ _ wr => ∃ (r : Nat) (v : Value) (rows : List SLf), r ≤ R ∧ v12 = .int .i64 (r : Int) ∧ Hid (Gd w0 wr pb C R (fun c r => [⟨(c : Int), (r : Int), 0, 0⟩]) (r * C) v rows)) (fun v12 _ _ _ => R - (intOf v12).toNat)
  case atStart => exact ⟨0, _, _, Nat.zero_le _, rfl, HG0⟩
  case round =>
    obtain ⟨r, v, rows, hr, rfl, HG⟩ := hrel
    clear HG0
    by_cases hlt : r < R
    case pos =>
      have ir : (r : Int) < (R : Int) := by omega
      go_wp2
      go_loopw [16, 7] (fun v16 _ wr => ∃ (c : Nat) (v : Value) (rows : List SLf), c ≤ C ∧ v16 = .int .i64 (c : Int) ∧ Hid (Gd w0 wr pb C R (fun c r => [⟨(c : Int), (r : Int), 0, 0⟩]) (r * C + c) v rows)) (fun v16 _ _ => C - (intOf v16).toNat)
      case atStart => exact ⟨0, _, _, Nat.zero_le _, rfl, HG⟩
      case round =>
        clear HG
        obtain ⟨c, v, rows, hc, rfl, HG⟩ := hrel
        by_cases hlc : c < C
        case pos =>
          have ic : (c : Int) < (C : Int) := by omega
          have hgl := grid_lt (C := C) (R := R) hlc hlt
          have hrn : rows.length ≤ 1000 := by have := HG.out.len; omega
          obtain ⟨A0, d0, rfl, _⟩ := own_form HG.out.mv.own (by omega)
          obtain ⟨k0, k1, k2, kl⟩ := HG.out.mv.blk.c3
          have HKL : Hid (pb + 1 ≤ wr.heap.size) := Lib.hid kl
          have HS1 := Lib.hid (leaf_lit wr (pb + 1) HKL.out ⟨(c : Int), (r : Int), 0, 0⟩)
          go_wp2_with (first | (at_builtin; refine list_appendC stackElt rfl (.tmp 20) (.tmp 25) rfl (pb + 1) rows.length _ (rows.map SLf.val) rfl (own_later HG.out.mv.own (by repeat (first | exact Ext.refl _ | assumption | refine Ext.alloc ?_ _ | refine Ext.drew ?_ | refine Ext.drewN ?_ _ | (refine Ext.setCell ?_ (by simp <;> omega) _) | refine Ext.trans ?_ (by assumption)))) (some ⟨wr.heap.size + 1, 0, none⟩) 1 1 [.slice (some ⟨wr.heap.size, 0, none⟩) 1 1] rfl (RC.blk (n := 1) (size := 1) (Blk.new1 _ _ _ _) rfl (by omega)) (fun x hx => by rw [List.mem_singleton.1 hx]; rfl) (by omega) (by have := HKL.out; simp; omega) ?_; intro v' w' ho hg; have HM := Lib.hid ((HG.out.mv.next (by repeat (first | exact Ext.refl _ | assumption | refine Ext.alloc ?_ _ | refine Ext.drew ?_ | refine Ext.drewN ?_ _ | (refine Ext.setCell ?_ (by simp <;> omega) _) | refine Ext.trans ?_ (by assumption)))).push (s := ⟨some ⟨wr.heap.size, 0, none⟩, 1, [⟨(c : Int), (r : Int), 0, 0⟩]⟩) (HS1.out.ext (by repeat (first | exact Ext.refl _ | assumption | refine Ext.alloc ?_ _ | refine Ext.drew ?_ | refine Ext.drewN ?_ _ | (refine Ext.setCell ?_ (by simp <;> omega) _) | refine Ext.trans ?_ (by assumption)))) hg ho); obtain ⟨A9, c9, rfl, _⟩ := own_form ho (by omega); obtain ⟨m0, m1, m2, ml⟩ := HM.out.blk.c3; have F := HM.out.blk.frozen 2; clear ho hg))
          go_roundw
          case rel => exact ⟨c + 1, _, _, by omega, by go_num, Lib.hid (Gd.push HG.out hlc rfl HM.out.store)⟩
          case measure => simp [intOf]; omega
        case neg =>
          obtain rfl : C = c := by omega
          have iC : ¬ (C : Int) < (C : Int) := by omega
          clear hlc
          go_wp2
          go_roundw
          case rel => exact ⟨r + 1, v, rows, by omega, by go_num, by rw [Nat.add_mul, Nat.one_mul]; exact HG⟩
          case measure => simp [intOf]; omega
    case neg =>
      obtain rfl : R = r := by omega
      clear hr
      have hRn : rows.length ≤ 1000 := by have := HG.out.len; omega
      obtain ⟨A9, d9, rfl, _⟩ := own_form HG.out.mv.own (by omega)
      obtain ⟨k0, k1, k2, kl⟩ := HG.out.mv.blk.c3
      have HB1 := Lib.hid (HB0.out.ext HG.out.mv.ext)
      obtain ⟨r0, r1, r2, rl⟩ := HB1.out.c3
      have F := HB1.out.frozen
      have iR : ¬ (R : Int) < (R : Int) := by omega
      have HM := Lib.hid HG.out.mv
      have HLS := Lib.hid HG.out.ls
      clear hlt HG
      go_wp2
      have HV := Lib.hid (HX0.out.trans HM.out.ext)
      have hop := ((HM.out.opl (flatP C R) HLS.out).mono (base' := w.heap.size + 1) (by have := HPB.out; omega))
      refine bodyPost_ret (v := plV (flatP C R) A9 rows.length d9) (by simp [results, Try.results55, go_sem, plV, flatP, mkP, r0, r1, r2]) rfl ⟨A9, d9, rows, rfl, (hop.far3 (Nat.lt_succ_self _) _ _ _).mono (Nat.le_succ _), setCell3 HV.out (Nat.le_refl _) _ _ _⟩
end Go.Proofs.Ytniiahddpdiocaa
