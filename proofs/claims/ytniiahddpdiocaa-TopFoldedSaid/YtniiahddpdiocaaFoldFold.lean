/-
  Walk: fold.
-/
import Derived.Test.YtniiahddpdiocaaFoldLaid2
namespace Go.Proofs.Ytniiahddpdiocaa
open Go.RowKit

/-- A fold that is not possible: the pile stays, and the error. -/
def RetBad (p : Pl) (A : Option Addr) (n d : Nat) (z : Int) (w : World) (e : Ending) (w' : World) : Prop := e = .returned (.tuple #[plV p A n d, .int .i64 z]) ∧ Ext w w'
def RetFold (p : Pl) (w : World) (e : Ending) (w' : World) : Prop := ∃ A d rows, e = .returned (.tuple #[plV p A (List.length rows) d, .int .i64 0]) ∧ OPl w' w.heap.size p (.slice A (List.length rows) d) rows ∧ Ext w w'
set_option maxRecDepth 100000 in
set_option maxHeartbeats 8000000 in
theorem fold_bad (p : Pl) (A : Option Addr) (d : Nat) (rows : List SLf) (k n : Int) (w : World) (hn : I64 n) (h8 : p.C ≤ 8) (h9 : p.R ≤ 8) (hz : foldE p.C p.R k n ≠ 0) :
    Calls Try.prog 56 #[plV p A rows.length d, .agg #[.int .i64 k, .int .i64 n]] w (RetBad p A rows.length d (foldE p.C p.R k n) w) := by
  have hn1 := hn.1; have hn2 := hn.2
  by_cases hk : 1 ≤ k ∧ k ≤ 6
  case neg =>
    have HE : Hid (foldE p.C p.R k n = 15) := Lib.hid (by unfold foldE; rw [if_pos hk])
    have e5 : (k == 5) = false := by simp; omega
    have e6 : (k == 6) = false := by simp; omega
    have e3 : (k == 3) = false := by simp; omega
    have e4 : (k == 4) = false := by simp; omega
    clear hz
    unfold plV
    go_enter Try.func56, Try.ntmps56
    go_wp2_with (first | (go_at_call 60; refine Calls.mono (iWithin_yes _ _ _ _ ?_) ?_; (omega); rintro e w1 ⟨rfl, rfl⟩) | (go_at_call 60; refine Calls.mono (iWithin_no _ _ _ _ ?_) ?_; (omega); rintro e w1 ⟨rfl, rfl⟩))
    refine bodyPost_ret (v := .tuple #[plV p A rows.length d, .int .i64 15]) (by simp [results, Try.results56, go_sem, plV]) rfl ⟨by rw [HE.out], ?_⟩
    exact (by repeat (first | exact Ext.refl _ | assumption | refine Ext.alloc ?_ _ | refine Ext.drew ?_ | refine Ext.drewN ?_ _ | (refine Ext.setCell ?_ (by simp <;> omega) _) | refine Ext.trans ?_ (by assumption)))
  case pos =>
  by_cases ht : k = 5 ∨ k = 6
  case pos =>
    have hn0 : n ≠ 0 := fun e => hz (by unfold foldE; rw [if_neg (by omega), if_pos ht, if_pos e])
    have HE : Hid (foldE p.C p.R k n = 2) := Lib.hid (by unfold foldE; rw [if_neg (by omega), if_pos ht, if_neg hn0])
    have en : (n != 0) = true := by simpa using hn0
    clear hz hn0 hk
    rcases ht with rfl | rfl
    ·
      unfold plV
      go_enter Try.func56, Try.ntmps56
      go_wp2_with (first | (go_at_call 60; refine Calls.mono (iWithin_yes _ _ _ _ ?_) ?_; (omega); rintro e w1 ⟨rfl, rfl⟩) | (go_at_call 60; refine Calls.mono (iWithin_no _ _ _ _ ?_) ?_; (omega); rintro e w1 ⟨rfl, rfl⟩))
      refine bodyPost_ret (v := .tuple #[plV p A rows.length d, .int .i64 2]) (by simp [results, Try.results56, go_sem, plV]) rfl ⟨by rw [HE.out], ?_⟩
      exact (by repeat (first | exact Ext.refl _ | assumption | refine Ext.alloc ?_ _ | refine Ext.drew ?_ | refine Ext.drewN ?_ _ | (refine Ext.setCell ?_ (by simp <;> omega) _) | refine Ext.trans ?_ (by assumption)))
    ·
      unfold plV
      go_enter Try.func56, Try.ntmps56
      go_wp2_with (first | (go_at_call 60; refine Calls.mono (iWithin_yes _ _ _ _ ?_) ?_; (omega); rintro e w1 ⟨rfl, rfl⟩) | (go_at_call 60; refine Calls.mono (iWithin_no _ _ _ _ ?_) ?_; (omega); rintro e w1 ⟨rfl, rfl⟩))
      refine bodyPost_ret (v := .tuple #[plV p A rows.length d, .int .i64 2]) (by simp [results, Try.results56, go_sem, plV]) rfl ⟨by rw [HE.out], ?_⟩
      exact (by repeat (first | exact Ext.refl _ | assumption | refine Ext.alloc ?_ _ | refine Ext.drew ?_ | refine Ext.drewN ?_ _ | (refine Ext.setCell ?_ (by simp <;> omega) _) | refine Ext.trans ?_ (by assumption)))
  case neg =>
  by_cases hn0 : n < 1
  case pos =>
    have HE : Hid (foldE p.C p.R k n = 2) := Lib.hid (by unfold foldE; rw [if_neg (by omega), if_neg ht, if_pos hn0])
    clear hz
    obtain rfl | rfl | rfl | rfl : k = 1 ∨ k = 2 ∨ k = 3 ∨ k = 4 := by omega
    ·
      unfold plV
      go_enter Try.func56, Try.ntmps56
      go_wp2_with (first | (go_at_call 60; refine Calls.mono (iWithin_yes _ _ _ _ ?_) ?_; (omega); rintro e w1 ⟨rfl, rfl⟩) | (go_at_call 60; refine Calls.mono (iWithin_no _ _ _ _ ?_) ?_; (omega); rintro e w1 ⟨rfl, rfl⟩))
      refine bodyPost_ret (v := .tuple #[plV p A rows.length d, .int .i64 2]) (by simp [results, Try.results56, go_sem, plV]) rfl ⟨by rw [HE.out], ?_⟩
      exact (by repeat (first | exact Ext.refl _ | assumption | refine Ext.alloc ?_ _ | refine Ext.drew ?_ | refine Ext.drewN ?_ _ | (refine Ext.setCell ?_ (by simp <;> omega) _) | refine Ext.trans ?_ (by assumption)))
    ·
      unfold plV
      go_enter Try.func56, Try.ntmps56
      go_wp2_with (first | (go_at_call 60; refine Calls.mono (iWithin_yes _ _ _ _ ?_) ?_; (omega); rintro e w1 ⟨rfl, rfl⟩) | (go_at_call 60; refine Calls.mono (iWithin_no _ _ _ _ ?_) ?_; (omega); rintro e w1 ⟨rfl, rfl⟩))
      refine bodyPost_ret (v := .tuple #[plV p A rows.length d, .int .i64 2]) (by simp [results, Try.results56, go_sem, plV]) rfl ⟨by rw [HE.out], ?_⟩
      exact (by repeat (first | exact Ext.refl _ | assumption | refine Ext.alloc ?_ _ | refine Ext.drew ?_ | refine Ext.drewN ?_ _ | (refine Ext.setCell ?_ (by simp <;> omega) _) | refine Ext.trans ?_ (by assumption)))
    ·
      unfold plV
      go_enter Try.func56, Try.ntmps56
      go_wp2_with (first | (go_at_call 60; refine Calls.mono (iWithin_yes _ _ _ _ ?_) ?_; (omega); rintro e w1 ⟨rfl, rfl⟩) | (go_at_call 60; refine Calls.mono (iWithin_no _ _ _ _ ?_) ?_; (omega); rintro e w1 ⟨rfl, rfl⟩))
      refine bodyPost_ret (v := .tuple #[plV p A rows.length d, .int .i64 2]) (by simp [results, Try.results56, go_sem, plV]) rfl ⟨by rw [HE.out], ?_⟩
      exact (by repeat (first | exact Ext.refl _ | assumption | refine Ext.alloc ?_ _ | refine Ext.drew ?_ | refine Ext.drewN ?_ _ | (refine Ext.setCell ?_ (by simp <;> omega) _) | refine Ext.trans ?_ (by assumption)))
    ·
      unfold plV
      go_enter Try.func56, Try.ntmps56
      go_wp2_with (first | (go_at_call 60; refine Calls.mono (iWithin_yes _ _ _ _ ?_) ?_; (omega); rintro e w1 ⟨rfl, rfl⟩) | (go_at_call 60; refine Calls.mono (iWithin_no _ _ _ _ ?_) ?_; (omega); rintro e w1 ⟨rfl, rfl⟩))
      refine bodyPost_ret (v := .tuple #[plV p A rows.length d, .int .i64 2]) (by simp [results, Try.results56, go_sem, plV]) rfl ⟨by rw [HE.out], ?_⟩
      exact (by repeat (first | exact Ext.refl _ | assumption | refine Ext.alloc ?_ _ | refine Ext.drew ?_ | refine Ext.drewN ?_ _ | (refine Ext.setCell ?_ (by simp <;> omega) _) | refine Ext.trans ?_ (by assumption)))
  case neg =>
  have hbr : (sideOf p.C p.R k : Int) - n < n := by
    apply Int.not_le.1
    intro h
    exact hz (by unfold foldE; rw [if_neg (by omega), if_neg ht, if_neg hn0, if_neg (by omega)])
  have HE : Hid (foldE p.C p.R k n = 26) := Lib.hid (by unfold foldE; rw [if_neg (by omega), if_neg ht, if_neg hn0, if_pos hbr])
  clear hz
  obtain rfl | rfl | rfl | rfl : k = 1 ∨ k = 2 ∨ k = 3 ∨ k = 4 := by omega
  · have hs : sideOf p.C p.R 1 = p.C := rfl
    rw [hs] at hbr
    have ww : IntKind.i64.wrap ((p.C : Int) - n) = (p.C : Int) - n := IntWalk.i64_in _ (by omega)
    unfold plV
    go_enter Try.func56, Try.ntmps56
    go_wp2_with (first | (go_at_call 60; refine Calls.mono (iWithin_yes _ _ _ _ ?_) ?_; (omega); rintro e w1 ⟨rfl, rfl⟩) | (go_at_call 60; refine Calls.mono (iWithin_no _ _ _ _ ?_) ?_; (omega); rintro e w1 ⟨rfl, rfl⟩))
    refine bodyPost_ret (v := .tuple #[plV p A rows.length d, .int .i64 26]) (by simp [results, Try.results56, go_sem, plV]) rfl ⟨by rw [HE.out], ?_⟩
    exact (by repeat (first | exact Ext.refl _ | assumption | refine Ext.alloc ?_ _ | refine Ext.drew ?_ | refine Ext.drewN ?_ _ | (refine Ext.setCell ?_ (by simp <;> omega) _) | refine Ext.trans ?_ (by assumption)))
  · have hs : sideOf p.C p.R 2 = p.C := rfl
    rw [hs] at hbr
    have ww : IntKind.i64.wrap ((p.C : Int) - n) = (p.C : Int) - n := IntWalk.i64_in _ (by omega)
    unfold plV
    go_enter Try.func56, Try.ntmps56
    go_wp2_with (first | (go_at_call 60; refine Calls.mono (iWithin_yes _ _ _ _ ?_) ?_; (omega); rintro e w1 ⟨rfl, rfl⟩) | (go_at_call 60; refine Calls.mono (iWithin_no _ _ _ _ ?_) ?_; (omega); rintro e w1 ⟨rfl, rfl⟩))
    refine bodyPost_ret (v := .tuple #[plV p A rows.length d, .int .i64 26]) (by simp [results, Try.results56, go_sem, plV]) rfl ⟨by rw [HE.out], ?_⟩
    exact (by repeat (first | exact Ext.refl _ | assumption | refine Ext.alloc ?_ _ | refine Ext.drew ?_ | refine Ext.drewN ?_ _ | (refine Ext.setCell ?_ (by simp <;> omega) _) | refine Ext.trans ?_ (by assumption)))
  · have hs : sideOf p.C p.R 3 = p.R := rfl
    rw [hs] at hbr
    have ww : IntKind.i64.wrap ((p.R : Int) - n) = (p.R : Int) - n := IntWalk.i64_in _ (by omega)
    unfold plV
    go_enter Try.func56, Try.ntmps56
    go_wp2_with (first | (go_at_call 60; refine Calls.mono (iWithin_yes _ _ _ _ ?_) ?_; (omega); rintro e w1 ⟨rfl, rfl⟩) | (go_at_call 60; refine Calls.mono (iWithin_no _ _ _ _ ?_) ?_; (omega); rintro e w1 ⟨rfl, rfl⟩))
    refine bodyPost_ret (v := .tuple #[plV p A rows.length d, .int .i64 26]) (by simp [results, Try.results56, go_sem, plV]) rfl ⟨by rw [HE.out], ?_⟩
    exact (by repeat (first | exact Ext.refl _ | assumption | refine Ext.alloc ?_ _ | refine Ext.drew ?_ | refine Ext.drewN ?_ _ | (refine Ext.setCell ?_ (by simp <;> omega) _) | refine Ext.trans ?_ (by assumption)))
  · have hs : sideOf p.C p.R 4 = p.R := rfl
    rw [hs] at hbr
    have ww : IntKind.i64.wrap ((p.R : Int) - n) = (p.R : Int) - n := IntWalk.i64_in _ (by omega)
    unfold plV
    go_enter Try.func56, Try.ntmps56
    go_wp2_with (first | (go_at_call 60; refine Calls.mono (iWithin_yes _ _ _ _ ?_) ?_; (omega); rintro e w1 ⟨rfl, rfl⟩) | (go_at_call 60; refine Calls.mono (iWithin_no _ _ _ _ ?_) ?_; (omega); rintro e w1 ⟨rfl, rfl⟩))
    refine bodyPost_ret (v := .tuple #[plV p A rows.length d, .int .i64 26]) (by simp [results, Try.results56, go_sem, plV]) rfl ⟨by rw [HE.out], ?_⟩
    exact (by repeat (first | exact Ext.refl _ | assumption | refine Ext.alloc ?_ _ | refine Ext.drew ?_ | refine Ext.drewN ?_ _ | (refine Ext.setCell ?_ (by simp <;> omega) _) | refine Ext.trans ?_ (by assumption)))
/-- The worlds with the boxes and the result's own cells. -/
abbrev W3f (w : World) (p : Pl) (A : Option Addr) (n d : Nat) (k m : Int) : World := ((w.alloc (.cells #[.int .i64 (p.C : Int), .int .i64 (p.R : Int), .slice A n d] 123)).alloc (.cells #[.int .i64 k, .int .i64 m] 82)).alloc (.cells #[.int .i64 0, .int .i64 0, .slice none 0 0] 123)
theorem W3f.facts (w : World) (p : Pl) (A : Option Addr) (n d : Nat) (k m : Int) : Blk (W3f w p A n d k m) (w.heap.size + 1 + 1) 123 #[.int .i64 0, .int .i64 0, .slice none 0 0] ∧ Ext w (W3f w p A n d k m) ∧ (W3f w p A n d k m).heap.size = w.heap.size + 1 + 1 + 1 :=
  ⟨Blk.new2 _ _ _ _ _, (by repeat (first | exact Ext.refl _ | assumption | refine Ext.alloc ?_ _ | refine Ext.drew ?_ | refine Ext.drewN ?_ _ | (refine Ext.setCell ?_ (by simp <;> omega) _) | refine Ext.trans ?_ (by assumption))), by simp [W3f]⟩
set_option maxRecDepth 100000 in
set_option maxHeartbeats 8000000 in
theorem fold_ok (p : Pl) (A : Option Addr) (d : Nat) (rows : List SLf) (k n : Int) (w : World) (h : PR w p A rows) (ho : OkP p) (hz : foldE p.C p.R k n = 0) :
    Calls Try.prog 56 #[plV p A rows.length d, .agg #[.int .i64 k, .int .i64 n]] w (RetFold (foldP p k n) w) := by
  have h8 := ho.c8; have h9 := ho.r8
  obtain ⟨f2, f3, f4⟩ := W3f.facts w p A rows.length d k n
  have HB := Lib.hid f2; have HX := Lib.hid f3; have HZ := Lib.hid f4
  have h3 := h.ext f3
  unfold W3f at HB HX HZ h3
  clear f2 f3 f4
  rcases foldE_zero hz with ⟨rfl, rfl⟩ | ⟨rfl, rfl⟩ | ⟨hk, hn1, hn2⟩
  · have CM := Lib.hid (over_any p A d rows _ h3 ho)
    have HFP : Hid (foldP p 5 0 = overP p) := Lib.hid rfl
    unfold plV at CM
    clear h h3 ho hz
    unfold plV
    go_enter Try.func56, Try.ntmps56
    go_wp2_with (first | (go_at_call 60; refine Calls.mono (iWithin_yes _ _ _ _ ?_) ?_; (omega); rintro e w1 ⟨rfl, rfl⟩) | (go_at_call 60; refine Calls.mono (iWithin_no _ _ _ _ ?_) ?_; (omega); rintro e w1 ⟨rfl, rfl⟩) | (go_at_call 72; refine Calls.mono CM.out ?_; rintro e w1 ⟨B, e9, rows9, rfl, hop, hx⟩; have HOP := Lib.hid hop; have HX1 := Lib.hid hx; simp only [plV]; obtain ⟨r0, r1, r2, rl⟩ := (HB.out.ext HX1.out).c3; have F := (HB.out.ext HX1.out).frozen; clear hop hx))
    have h9 := (HOP.out.mono (base' := w.heap.size + 1 + 1 + 1) (by have := HZ.out; omega)).far3 (p0 := w.heap.size + 1 + 1) (Nat.lt_succ_self _)
    refine bodyPost_ret (v := .tuple #[plV (overP p) B rows9.length e9, .int .i64 0]) (by simp [results, Try.results56, go_sem, plV, r0, r1, r2]) rfl ⟨B, e9, rows9, by rw [HFP.out], by rw [HFP.out]; exact (h9 _ _ _).mono (by omega), setCell3 (HX.out.trans HX1.out) (by omega) _ _ _⟩
  · have CM := Lib.hid (round_any p A d rows _ h3 ho)
    have HFP : Hid (foldP p 6 0 = roundP p) := Lib.hid rfl
    unfold plV at CM
    clear h h3 ho hz
    unfold plV
    go_enter Try.func56, Try.ntmps56
    go_wp2_with (first | (go_at_call 60; refine Calls.mono (iWithin_yes _ _ _ _ ?_) ?_; (omega); rintro e w1 ⟨rfl, rfl⟩) | (go_at_call 60; refine Calls.mono (iWithin_no _ _ _ _ ?_) ?_; (omega); rintro e w1 ⟨rfl, rfl⟩) | (go_at_call 73; refine Calls.mono CM.out ?_; rintro e w1 ⟨B, e9, rows9, rfl, hop, hx⟩; have HOP := Lib.hid hop; have HX1 := Lib.hid hx; simp only [plV]; obtain ⟨r0, r1, r2, rl⟩ := (HB.out.ext HX1.out).c3; have F := (HB.out.ext HX1.out).frozen; clear hop hx))
    have h9 := (HOP.out.mono (base' := w.heap.size + 1 + 1 + 1) (by have := HZ.out; omega)).far3 (p0 := w.heap.size + 1 + 1) (Nat.lt_succ_self _)
    refine bodyPost_ret (v := .tuple #[plV (roundP p) B rows9.length e9, .int .i64 0]) (by simp [results, Try.results56, go_sem, plV, r0, r1, r2]) rfl ⟨B, e9, rows9, by rw [HFP.out], by rw [HFP.out]; exact (h9 _ _ _).mono (by omega), setCell3 (HX.out.trans HX1.out) (by omega) _ _ _⟩
  · have hl : n ≤ 8 := by
      have : sideOf p.C p.R k ≤ 8 := by unfold sideOf; split <;> omega
      omega
    obtain ⟨m, rfl⟩ : ∃ m : Nat, n = (m : Int) := ⟨n.toNat, by omega⟩
    have hmt : ((m : Nat) : Int).toNat = m := Int.toNat_natCast m
    rcases hk with rfl | rfl | rfl | rfl
    · have hs : sideOf p.C p.R 1 = p.C := rfl
      rw [hs] at hn2
      obtain ⟨q, hq⟩ : ∃ q, q = p.C - m := ⟨_, rfl⟩
      have HFP : Hid (foldP p 1 (m : Int) = laidP p q false false) := Lib.hid (by unfold foldP; rw [if_neg (by omega), if_neg (by omega), hmt, hs, hq]; rfl)
      have CM := Lib.hid (laid_any p A d q rows false false _ h3 ho (by simp; omega) (by simp; omega))
      have ww : IntKind.i64.wrap ((p.C : Int) - (m : Int)) = (q : Int) := by rw [IntWalk.i64_in _ (by omega)]; omega
      have it : ¬ (q : Int) < (m : Int) := by omega
      unfold plV at CM
      clear h h3 ho hz hq hs hmt
      unfold plV
      go_enter Try.func56, Try.ntmps56
      go_wp2_with (first | (go_at_call 60; refine Calls.mono (iWithin_yes _ _ _ _ ?_) ?_; (omega); rintro e w1 ⟨rfl, rfl⟩) | (go_at_call 60; refine Calls.mono (iWithin_no _ _ _ _ ?_) ?_; (omega); rintro e w1 ⟨rfl, rfl⟩) | (go_at_call 74; refine Calls.mono CM.out ?_; rintro e w1 ⟨B, e9, rows9, rfl, hop, hx⟩; have HOP := Lib.hid hop; have HX1 := Lib.hid hx; simp only [plV]; obtain ⟨r0, r1, r2, rl⟩ := (HB.out.ext HX1.out).c3; have F := (HB.out.ext HX1.out).frozen; clear hop hx))
      have h9 := (HOP.out.mono (base' := w.heap.size + 1 + 1 + 1) (by have := HZ.out; omega)).far3 (p0 := w.heap.size + 1 + 1) (Nat.lt_succ_self _)
      refine bodyPost_ret (v := .tuple #[plV (laidP p q false false) B rows9.length e9, .int .i64 0]) (by simp [results, Try.results56, go_sem, plV, r0, r1, r2]) rfl ⟨B, e9, rows9, by rw [HFP.out], by rw [HFP.out]; exact (h9 _ _ _).mono (by omega), setCell3 (HX.out.trans HX1.out) (by omega) _ _ _⟩
    · have hs : sideOf p.C p.R 2 = p.C := rfl
      rw [hs] at hn2
      obtain ⟨q, hq⟩ : ∃ q, q = p.C - m := ⟨_, rfl⟩
      have HFP : Hid (foldP p 2 (m : Int) = laidP p q false true) := Lib.hid (by unfold foldP; rw [if_neg (by omega), if_neg (by omega), hmt, hs, hq]; rfl)
      have CM := Lib.hid (laid_any p A d q rows false true _ h3 ho (by simp; omega) (by simp; omega))
      have ww : IntKind.i64.wrap ((p.C : Int) - (m : Int)) = (q : Int) := by rw [IntWalk.i64_in _ (by omega)]; omega
      have it : ¬ (q : Int) < (m : Int) := by omega
      unfold plV at CM
      clear h h3 ho hz hq hs hmt
      unfold plV
      go_enter Try.func56, Try.ntmps56
      go_wp2_with (first | (go_at_call 60; refine Calls.mono (iWithin_yes _ _ _ _ ?_) ?_; (omega); rintro e w1 ⟨rfl, rfl⟩) | (go_at_call 60; refine Calls.mono (iWithin_no _ _ _ _ ?_) ?_; (omega); rintro e w1 ⟨rfl, rfl⟩) | (go_at_call 74; refine Calls.mono CM.out ?_; rintro e w1 ⟨B, e9, rows9, rfl, hop, hx⟩; have HOP := Lib.hid hop; have HX1 := Lib.hid hx; simp only [plV]; obtain ⟨r0, r1, r2, rl⟩ := (HB.out.ext HX1.out).c3; have F := (HB.out.ext HX1.out).frozen; clear hop hx))
      have h9 := (HOP.out.mono (base' := w.heap.size + 1 + 1 + 1) (by have := HZ.out; omega)).far3 (p0 := w.heap.size + 1 + 1) (Nat.lt_succ_self _)
      refine bodyPost_ret (v := .tuple #[plV (laidP p q false true) B rows9.length e9, .int .i64 0]) (by simp [results, Try.results56, go_sem, plV, r0, r1, r2]) rfl ⟨B, e9, rows9, by rw [HFP.out], by rw [HFP.out]; exact (h9 _ _ _).mono (by omega), setCell3 (HX.out.trans HX1.out) (by omega) _ _ _⟩
    · have hs : sideOf p.C p.R 3 = p.R := rfl
      rw [hs] at hn2
      obtain ⟨q, hq⟩ : ∃ q, q = p.R - m := ⟨_, rfl⟩
      have HFP : Hid (foldP p 3 (m : Int) = laidP p q true false) := Lib.hid (by unfold foldP; rw [if_neg (by omega), if_neg (by omega), hmt, hs, hq]; rfl)
      have CM := Lib.hid (laid_any p A d q rows true false _ h3 ho (by simp; omega) (by simp; omega))
      have ww : IntKind.i64.wrap ((p.R : Int) - (m : Int)) = (q : Int) := by rw [IntWalk.i64_in _ (by omega)]; omega
      have it : ¬ (q : Int) < (m : Int) := by omega
      unfold plV at CM
      clear h h3 ho hz hq hs hmt
      unfold plV
      go_enter Try.func56, Try.ntmps56
      go_wp2_with (first | (go_at_call 60; refine Calls.mono (iWithin_yes _ _ _ _ ?_) ?_; (omega); rintro e w1 ⟨rfl, rfl⟩) | (go_at_call 60; refine Calls.mono (iWithin_no _ _ _ _ ?_) ?_; (omega); rintro e w1 ⟨rfl, rfl⟩) | (go_at_call 74; refine Calls.mono CM.out ?_; rintro e w1 ⟨B, e9, rows9, rfl, hop, hx⟩; have HOP := Lib.hid hop; have HX1 := Lib.hid hx; simp only [plV]; obtain ⟨r0, r1, r2, rl⟩ := (HB.out.ext HX1.out).c3; have F := (HB.out.ext HX1.out).frozen; clear hop hx))
      have h9 := (HOP.out.mono (base' := w.heap.size + 1 + 1 + 1) (by have := HZ.out; omega)).far3 (p0 := w.heap.size + 1 + 1) (Nat.lt_succ_self _)
      refine bodyPost_ret (v := .tuple #[plV (laidP p q true false) B rows9.length e9, .int .i64 0]) (by simp [results, Try.results56, go_sem, plV, r0, r1, r2]) rfl ⟨B, e9, rows9, by rw [HFP.out], by rw [HFP.out]; exact (h9 _ _ _).mono (by omega), setCell3 (HX.out.trans HX1.out) (by omega) _ _ _⟩
    · have hs : sideOf p.C p.R 4 = p.R := rfl
      rw [hs] at hn2
      obtain ⟨q, hq⟩ : ∃ q, q = p.R - m := ⟨_, rfl⟩
      have HFP : Hid (foldP p 4 (m : Int) = laidP p q true true) := Lib.hid (by unfold foldP; rw [if_neg (by omega), if_neg (by omega), hmt, hs, hq]; rfl)
      have CM := Lib.hid (laid_any p A d q rows true true _ h3 ho (by simp; omega) (by simp; omega))
      have ww : IntKind.i64.wrap ((p.R : Int) - (m : Int)) = (q : Int) := by rw [IntWalk.i64_in _ (by omega)]; omega
      have it : ¬ (q : Int) < (m : Int) := by omega
      unfold plV at CM
      clear h h3 ho hz hq hs hmt
      unfold plV
      go_enter Try.func56, Try.ntmps56
      go_wp2_with (first | (go_at_call 60; refine Calls.mono (iWithin_yes _ _ _ _ ?_) ?_; (omega); rintro e w1 ⟨rfl, rfl⟩) | (go_at_call 60; refine Calls.mono (iWithin_no _ _ _ _ ?_) ?_; (omega); rintro e w1 ⟨rfl, rfl⟩) | (go_at_call 74; refine Calls.mono CM.out ?_; rintro e w1 ⟨B, e9, rows9, rfl, hop, hx⟩; have HOP := Lib.hid hop; have HX1 := Lib.hid hx; simp only [plV]; obtain ⟨r0, r1, r2, rl⟩ := (HB.out.ext HX1.out).c3; have F := (HB.out.ext HX1.out).frozen; clear hop hx))
      have h9 := (HOP.out.mono (base' := w.heap.size + 1 + 1 + 1) (by have := HZ.out; omega)).far3 (p0 := w.heap.size + 1 + 1) (Nat.lt_succ_self _)
      refine bodyPost_ret (v := .tuple #[plV (laidP p q true true) B rows9.length e9, .int .i64 0]) (by simp [results, Try.results56, go_sem, plV, r0, r1, r2]) rfl ⟨B, e9, rows9, by rw [HFP.out], by rw [HFP.out]; exact (h9 _ _ _).mono (by omega), setCell3 (HX.out.trans HX1.out) (by omega) _ _ _⟩
end Go.Proofs.Ytniiahddpdiocaa
