/-
  Walk: PageLongest returns true.
-/
import Derived.Test.YtpkmapngdkkglaaGreatDoorPgGrd
import Derived.Test.YtpkmapngdkkglaaGreatDoorRGrd
import Derived.Test.YtpkmapngdkkglaaGreatDoorLaw5
namespace Go.Proofs.YtpkmapngdkkglaaGreatDoor.longest
open Go.RowKit
attribute [local go_sem ↓] Go.wp_at_zero Go.wp_at_succ

set_option maxRecDepth 100000 in
set_option maxHeartbeats 32000000 in
theorem walk (g : GT) (a : GA) (r : QT) (X : Option Addr) (cx : Nat) (xs : List Int) (w : World) (hg : GR w a g) (hx : RI w X xs.length xs) (hT : Tab5 w) :
    Calls Tryz.prog 8 #[g.val a, r.val, .slice X xs.length cx] w (Ret (.bool true) w) := by
  have CA := Lib.hid (fun W h => awake5_any W h)
  have cS := fun W => short_any g a W
  have HG := Lib.hid hg; have HT := Lib.hid hT; have HXS := Lib.hid hx
  have hxb := hx.big
  clear hT hx
  cases hsh : shortB g with
  | false =>
    rw [hsh] at cS
    simp only [GT.val, QT.val] at *
    have CS := Lib.hid cS; clear cS hsh hg
    go_enter Tryz.func8, Tryz.ntmps8
    have HB := Lib.hid (BQ.start w #[.slice a.A g.items.length a.c, .slice a.B g.notes.length a.d] #[.int .i64 r.height, .int .i64 r.gap, .int .i64 r.widow, .int .i64 r.orphan])
    obtain ⟨g0, g1, gl0, ⟨q0, q1, q2, q3⟩, gl⟩ := HB.out.at
    go_wp2_with (first | (go_at_call 9; refine Calls.mono (CA.out _ (HT.out.ext (by repeat (first | exact Ext.refl _ | assumption | refine Ext.alloc ?_ _ | refine Ext.drew ?_ | refine Ext.drewN ?_ _ | (refine Ext.setCell ?_ (by simp <;> omega) _) | refine Ext.trans ?_ (by assumption))))) ?_; rintro e w1 ⟨rfl, hb⟩; have HB9 := Lib.hid (HB.out.next (Ext.trans (by repeat (first | exact Ext.refl _ | assumption | refine Ext.alloc ?_ _ | refine Ext.drew ?_ | refine Ext.drewN ?_ _ | (refine Ext.setCell ?_ (by simp <;> omega) _) | refine Ext.trans ?_ (by assumption))) hb)); clear g0 g1 gl0 q0 q1 q2 q3 gl HB; have HB := HB9; clear HB9; obtain ⟨g0, g1, gl0, ⟨q0, q1, q2, q3⟩, gl⟩ := HB.out.at; (try (have q9 := Lib.hid (HLI.out.ext (Ext.trans (by repeat (first | exact Ext.refl _ | assumption | refine Ext.alloc ?_ _ | refine Ext.drew ?_ | refine Ext.drewN ?_ _ | (refine Ext.setCell ?_ (by simp <;> omega) _) | refine Ext.trans ?_ (by assumption))) hb)); clear HLI; have HLI := q9; clear q9)); clear hb) | (go_at_call 10; refine Calls.mono (CS.out _) ?_; rintro e w1 ⟨rfl, hb⟩; have HB9 := Lib.hid (HB.out.next (Ext.trans (by repeat (first | exact Ext.refl _ | assumption | refine Ext.alloc ?_ _ | refine Ext.drew ?_ | refine Ext.drewN ?_ _ | (refine Ext.setCell ?_ (by simp <;> omega) _) | refine Ext.trans ?_ (by assumption))) hb)); clear g0 g1 gl0 q0 q1 q2 q3 gl HB; have HB := HB9; clear HB9; obtain ⟨g0, g1, gl0, ⟨q0, q1, q2, q3⟩, gl⟩ := HB.out.at; (try (have q9 := Lib.hid (HLI.out.ext (Ext.trans (by repeat (first | exact Ext.refl _ | assumption | refine Ext.alloc ?_ _ | refine Ext.drew ?_ | refine Ext.drewN ?_ _ | (refine Ext.setCell ?_ (by simp <;> omega) _) | refine Ext.trans ?_ (by assumption))) hb)); clear HLI; have HLI := q9; clear q9)); clear hb))
    go_ret
    exact Ret.mk' rfl (HB.out.ext.trans (by repeat (first | exact Ext.refl _ | assumption | refine Ext.alloc ?_ _ | refine Ext.drew ?_ | refine Ext.drewN ?_ _ | (refine Ext.setCell ?_ (by simp <;> omega) _) | refine Ext.trans ?_ (by assumption))))
  | true =>
  rw [hsh] at cS
  by_cases h14 : 14 < xs.length
  case pos =>
    have i1 : (14 : Int) < (xs.length : Int) := by omega
    simp only [GT.val, QT.val] at *
    have CS := Lib.hid cS; clear cS hsh hg h14
    go_enter Tryz.func8, Tryz.ntmps8
    have HB := Lib.hid (BQ.start w #[.slice a.A g.items.length a.c, .slice a.B g.notes.length a.d] #[.int .i64 r.height, .int .i64 r.gap, .int .i64 r.widow, .int .i64 r.orphan])
    obtain ⟨g0, g1, gl0, ⟨q0, q1, q2, q3⟩, gl⟩ := HB.out.at
    go_wp2_with (first | (go_at_call 9; refine Calls.mono (CA.out _ (HT.out.ext (by repeat (first | exact Ext.refl _ | assumption | refine Ext.alloc ?_ _ | refine Ext.drew ?_ | refine Ext.drewN ?_ _ | (refine Ext.setCell ?_ (by simp <;> omega) _) | refine Ext.trans ?_ (by assumption))))) ?_; rintro e w1 ⟨rfl, hb⟩; have HB9 := Lib.hid (HB.out.next (Ext.trans (by repeat (first | exact Ext.refl _ | assumption | refine Ext.alloc ?_ _ | refine Ext.drew ?_ | refine Ext.drewN ?_ _ | (refine Ext.setCell ?_ (by simp <;> omega) _) | refine Ext.trans ?_ (by assumption))) hb)); clear g0 g1 gl0 q0 q1 q2 q3 gl HB; have HB := HB9; clear HB9; obtain ⟨g0, g1, gl0, ⟨q0, q1, q2, q3⟩, gl⟩ := HB.out.at; (try (have q9 := Lib.hid (HLI.out.ext (Ext.trans (by repeat (first | exact Ext.refl _ | assumption | refine Ext.alloc ?_ _ | refine Ext.drew ?_ | refine Ext.drewN ?_ _ | (refine Ext.setCell ?_ (by simp <;> omega) _) | refine Ext.trans ?_ (by assumption))) hb)); clear HLI; have HLI := q9; clear q9)); clear hb) | (go_at_call 10; refine Calls.mono (CS.out _) ?_; rintro e w1 ⟨rfl, hb⟩; have HB9 := Lib.hid (HB.out.next (Ext.trans (by repeat (first | exact Ext.refl _ | assumption | refine Ext.alloc ?_ _ | refine Ext.drew ?_ | refine Ext.drewN ?_ _ | (refine Ext.setCell ?_ (by simp <;> omega) _) | refine Ext.trans ?_ (by assumption))) hb)); clear g0 g1 gl0 q0 q1 q2 q3 gl HB; have HB := HB9; clear HB9; obtain ⟨g0, g1, gl0, ⟨q0, q1, q2, q3⟩, gl⟩ := HB.out.at; (try (have q9 := Lib.hid (HLI.out.ext (Ext.trans (by repeat (first | exact Ext.refl _ | assumption | refine Ext.alloc ?_ _ | refine Ext.drew ?_ | refine Ext.drewN ?_ _ | (refine Ext.setCell ?_ (by simp <;> omega) _) | refine Ext.trans ?_ (by assumption))) hb)); clear HLI; have HLI := q9; clear q9)); clear hb))
    go_ret
    exact Ret.mk' rfl (HB.out.ext.trans (by repeat (first | exact Ext.refl _ | assumption | refine Ext.alloc ?_ _ | refine Ext.drew ?_ | refine Ext.drewN ?_ _ | (refine Ext.setCell ?_ (by simp <;> omega) _) | refine Ext.trans ?_ (by assumption))))
  case neg =>
  have i1 : ¬ (14 : Int) < (xs.length : Int) := by omega
  obtain ⟨hl1, hl2⟩ := short_len hsh
  have cW := fun W h => own_any g a W h (by omega) (by omega)
  have cGR := fun W p h => greedy_any g p r W h
  have cE := fun W h => bErr_any g a r W h
  have CX := Lib.hid (fun W h => copyInts_any X cx xs W h (by omega))
  by_cases hb : bookErr g r = 0
  case neg =>
    obtain ⟨L, hL⟩ : ∃ L, L = ([] : List Int) := ⟨_, rfl⟩
    have hP : grdP g r = (L, bookErr g r) := by unfold grdP; rw [if_pos hb, hL]
    rw [hP] at cGR
    have e1 : (bookErr g r == 0) = false := by simpa using hb
    have e2 : (bookErr g r != 0) = true := by simpa using hb
    generalize bookErr g r = z at *
    simp only [GT.val, QT.val] at *
    have CS := Lib.hid cS; have CW := Lib.hid cW; have CGR := Lib.hid cGR; have CE := Lib.hid cE; have HL0 := Lib.hid hL
    clear cS cW cGR cE hsh hg h14 hl1 hl2
    clear hb hP hL
    go_enter Tryz.func8, Tryz.ntmps8
    have HB := Lib.hid (BQ.start w #[.slice a.A g.items.length a.c, .slice a.B g.notes.length a.d] #[.int .i64 r.height, .int .i64 r.gap, .int .i64 r.widow, .int .i64 r.orphan])
    obtain ⟨g0, g1, gl0, ⟨q0, q1, q2, q3⟩, gl⟩ := HB.out.at
    go_upto_region 5 with (first | (go_at_call 9; refine Calls.mono (CA.out _ (HT.out.ext (by repeat (first | exact Ext.refl _ | assumption | refine Ext.alloc ?_ _ | refine Ext.drew ?_ | refine Ext.drewN ?_ _ | (refine Ext.setCell ?_ (by simp <;> omega) _) | refine Ext.trans ?_ (by assumption))))) ?_; rintro e w1 ⟨rfl, hb⟩; have HB9 := Lib.hid (HB.out.next (Ext.trans (by repeat (first | exact Ext.refl _ | assumption | refine Ext.alloc ?_ _ | refine Ext.drew ?_ | refine Ext.drewN ?_ _ | (refine Ext.setCell ?_ (by simp <;> omega) _) | refine Ext.trans ?_ (by assumption))) hb)); clear g0 g1 gl0 q0 q1 q2 q3 gl HB; have HB := HB9; clear HB9; obtain ⟨g0, g1, gl0, ⟨q0, q1, q2, q3⟩, gl⟩ := HB.out.at; (try (have q9 := Lib.hid (HLI.out.ext (Ext.trans (by repeat (first | exact Ext.refl _ | assumption | refine Ext.alloc ?_ _ | refine Ext.drew ?_ | refine Ext.drewN ?_ _ | (refine Ext.setCell ?_ (by simp <;> omega) _) | refine Ext.trans ?_ (by assumption))) hb)); clear HLI; have HLI := q9; clear q9)); clear hb) | (go_at_call 10; refine Calls.mono (CS.out _) ?_; rintro e w1 ⟨rfl, hb⟩; have HB9 := Lib.hid (HB.out.next (Ext.trans (by repeat (first | exact Ext.refl _ | assumption | refine Ext.alloc ?_ _ | refine Ext.drew ?_ | refine Ext.drewN ?_ _ | (refine Ext.setCell ?_ (by simp <;> omega) _) | refine Ext.trans ?_ (by assumption))) hb)); clear g0 g1 gl0 q0 q1 q2 q3 gl HB; have HB := HB9; clear HB9; obtain ⟨g0, g1, gl0, ⟨q0, q1, q2, q3⟩, gl⟩ := HB.out.at; (try (have q9 := Lib.hid (HLI.out.ext (Ext.trans (by repeat (first | exact Ext.refl _ | assumption | refine Ext.alloc ?_ _ | refine Ext.drew ?_ | refine Ext.drewN ?_ _ | (refine Ext.setCell ?_ (by simp <;> omega) _) | refine Ext.trans ?_ (by assumption))) hb)); clear HLI; have HLI := q9; clear q9)); clear hb))
    go_cut [7, 8] from 26 to 32 (fun v7 v8 wx => ∃ LA lc, v7 = .slice LA (L).length lc ∧ v8 = .int .i64 z ∧ Hid (RI wx LA (L).length (L)) ∧ Hid (BQ w #[.slice a.A g.items.length a.c, .slice a.B g.notes.length a.d] #[.int .i64 r.height, .int .i64 r.gap, .int .i64 r.widow, .int .i64 r.orphan] wx))
    case first =>
      go_region_held3 (fun W => (W.cell? ⟨w.heap.size, 0, none⟩ = some (.slice a.A g.items.length a.c) ∧ W.cell? ⟨w.heap.size, 1, none⟩ = some (.slice a.B g.notes.length a.d)) ∧ (W.cell? ⟨w.heap.size + 1, 0, none⟩ = some (.int .i64 r.height) ∧ W.cell? ⟨w.heap.size + 1, 1, none⟩ = some (.int .i64 r.gap) ∧ W.cell? ⟨w.heap.size + 1, 2, none⟩ = some (.int .i64 r.widow) ∧ W.cell? ⟨w.heap.size + 1, 3, none⟩ = some (.int .i64 r.orphan)) ∧ w.heap.size < W.heap.size ∧ w.heap.size + 1 < W.heap.size) (first | exact ⟨⟨g0, g1⟩, ⟨q0, q1, q2, q3⟩, gl0, gl⟩ | go_keep) (first | (go_at_call 12; refine Calls.mono (CW.out _ (HG.out.ext (HB.out.ext.trans (by repeat (first | exact Ext.refl _ | assumption | refine Ext.alloc ?_ _ | refine Ext.drew ?_ | refine Ext.drewN ?_ _ | (refine Ext.setCell ?_ (by simp <;> omega) _) | refine Ext.trans ?_ (by assumption)))))) ?_; rintro e w1 ⟨aa, rfl, hga, hb⟩; (try (have q9 := Lib.hid (HCI.out.ext (Ext.trans (by repeat (first | exact Ext.refl _ | assumption | refine Ext.alloc ?_ _ | refine Ext.drew ?_ | refine Ext.drewN ?_ _ | (refine Ext.setCell ?_ (by simp <;> omega) _) | refine Ext.trans ?_ (by assumption))) hb)); clear HCI; have HCI := q9; clear q9)); have HB9 := Lib.hid (HB.out.next (Ext.trans (by repeat (first | exact Ext.refl _ | assumption | refine Ext.alloc ?_ _ | refine Ext.drew ?_ | refine Ext.drewN ?_ _ | (refine Ext.setCell ?_ (by simp <;> omega) _) | refine Ext.trans ?_ (by assumption))) hb)); clear g0 g1 gl0 q0 q1 q2 q3 gl HB; have HB := HB9; clear HB9; obtain ⟨g0, g1, gl0, ⟨q0, q1, q2, q3⟩, gl⟩ := HB.out.at; (try (have q9 := Lib.hid (HLI.out.ext (Ext.trans (by repeat (first | exact Ext.refl _ | assumption | refine Ext.alloc ?_ _ | refine Ext.drew ?_ | refine Ext.drewN ?_ _ | (refine Ext.setCell ?_ (by simp <;> omega) _) | refine Ext.trans ?_ (by assumption))) hb)); clear HLI; have HLI := q9; clear q9)); have HGA := Lib.hid hga; clear hga hb) | (go_at_call 44; refine Calls.mono (CGR.out _ _ (HGA.out.ext (by repeat (first | exact Ext.refl _ | assumption | refine Ext.alloc ?_ _ | refine Ext.drew ?_ | refine Ext.drewN ?_ _ | (refine Ext.setCell ?_ (by simp <;> omega) _) | refine Ext.trans ?_ (by assumption))))) ?_; rintro e w2 ⟨LA, lc, rfl, hri, hb⟩; have HLI0 := Lib.hid hri; have HB9 := Lib.hid (HB.out.next (Ext.trans (by repeat (first | exact Ext.refl _ | assumption | refine Ext.alloc ?_ _ | refine Ext.drew ?_ | refine Ext.drewN ?_ _ | (refine Ext.setCell ?_ (by simp <;> omega) _) | refine Ext.trans ?_ (by assumption))) hb)); clear g0 g1 gl0 q0 q1 q2 q3 gl HB; have HB := HB9; clear HB9; obtain ⟨g0, g1, gl0, ⟨q0, q1, q2, q3⟩, gl⟩ := HB.out.at; (try (have q9 := Lib.hid (HLI.out.ext (Ext.trans (by repeat (first | exact Ext.refl _ | assumption | refine Ext.alloc ?_ _ | refine Ext.drew ?_ | refine Ext.drewN ?_ _ | (refine Ext.setCell ?_ (by simp <;> omega) _) | refine Ext.trans ?_ (by assumption))) hb)); clear HLI; have HLI := q9; clear q9)); have HLI := HLI0; clear hri hb))
      all_goals
        go_wp2_with fail
        go_meet
        case rel => exact ⟨LA, lc, rfl, rfl, Lib.hid (HLI.out.ext (by repeat (first | exact Ext.refl _ | assumption | refine Ext.alloc ?_ _ | refine Ext.drew ?_ | refine Ext.drewN ?_ _ | (refine Ext.setCell ?_ (by simp <;> omega) _) | refine Ext.trans ?_ (by assumption)))), Lib.hid (HB.out.next (by repeat (first | exact Ext.refl _ | assumption | refine Ext.alloc ?_ _ | refine Ext.drew ?_ | refine Ext.drewN ?_ _ | (refine Ext.setCell ?_ (by simp <;> omega) _) | refine Ext.trans ?_ (by assumption))))⟩
    case rest =>
    obtain ⟨LA, lc, rfl, rfl, HLI, HB2⟩ := hcut
    clear g0 g1 gl0 q0 q1 q2 q3 gl
    clear HB
    have HB := HB2; clear HB2
    obtain ⟨g0, g1, gl0, ⟨q0, q1, q2, q3⟩, gl⟩ := HB.out.at
    go_wp2_with (first | (go_at_call 16; refine Calls.mono (CE.out _ (HG.out.ext (HB.out.ext.trans (by repeat (first | exact Ext.refl _ | assumption | refine Ext.alloc ?_ _ | refine Ext.drew ?_ | refine Ext.drewN ?_ _ | (refine Ext.setCell ?_ (by simp <;> omega) _) | refine Ext.trans ?_ (by assumption)))))) ?_; rintro e w1 ⟨rfl, hb⟩; have HB9 := Lib.hid (HB.out.next (Ext.trans (by repeat (first | exact Ext.refl _ | assumption | refine Ext.alloc ?_ _ | refine Ext.drew ?_ | refine Ext.drewN ?_ _ | (refine Ext.setCell ?_ (by simp <;> omega) _) | refine Ext.trans ?_ (by assumption))) hb)); clear g0 g1 gl0 q0 q1 q2 q3 gl HB; have HB := HB9; clear HB9; obtain ⟨g0, g1, gl0, ⟨q0, q1, q2, q3⟩, gl⟩ := HB.out.at; (try (have q9 := Lib.hid (HLI.out.ext (Ext.trans (by repeat (first | exact Ext.refl _ | assumption | refine Ext.alloc ?_ _ | refine Ext.drew ?_ | refine Ext.drewN ?_ _ | (refine Ext.setCell ?_ (by simp <;> omega) _) | refine Ext.trans ?_ (by assumption))) hb)); clear HLI; have HLI := q9; clear q9)); clear hb) | (go_at_call 18; refine Calls.mono (ints_nil _ _ L _ (HLI.out.ext (by repeat (first | exact Ext.refl _ | assumption | refine Ext.alloc ?_ _ | refine Ext.drew ?_ | refine Ext.drewN ?_ _ | (refine Ext.setCell ?_ (by simp <;> omega) _) | refine Ext.trans ?_ (by assumption)))) HL0.out) ?_; rintro e w1 ⟨rfl, hb⟩; have HB9 := Lib.hid (HB.out.next (Ext.trans (by repeat (first | exact Ext.refl _ | assumption | refine Ext.alloc ?_ _ | refine Ext.drew ?_ | refine Ext.drewN ?_ _ | (refine Ext.setCell ?_ (by simp <;> omega) _) | refine Ext.trans ?_ (by assumption))) hb)); clear g0 g1 gl0 q0 q1 q2 q3 gl HB; have HB := HB9; clear HB9; obtain ⟨g0, g1, gl0, ⟨q0, q1, q2, q3⟩, gl⟩ := HB.out.at; (try (have q9 := Lib.hid (HLI.out.ext (Ext.trans (by repeat (first | exact Ext.refl _ | assumption | refine Ext.alloc ?_ _ | refine Ext.drew ?_ | refine Ext.drewN ?_ _ | (refine Ext.setCell ?_ (by simp <;> omega) _) | refine Ext.trans ?_ (by assumption))) hb)); clear HLI; have HLI := q9; clear q9)); clear hb))
    go_ret
    exact Ret.mk' rfl (HB.out.ext.trans (by repeat (first | exact Ext.refl _ | assumption | refine Ext.alloc ?_ _ | refine Ext.drew ?_ | refine Ext.drewN ?_ _ | (refine Ext.setCell ?_ (by simp <;> omega) _) | refine Ext.trans ?_ (by assumption))))
  case pos =>
  have hck : (chkG g).2 = 0 := by
    unfold bookErr at hb
    by_cases h9 : (chkG g).2 ≠ 0
    · rw [if_pos h9] at hb; exact hb
    · simpa using h9
  have hq : chkQ r = 0 := by unfold bookErr at hb; rwa [if_neg (by simpa using hck)] at hb
  have hr := chkG_zero hck
  have hP : grdP g r = grdR (costR g r) g.items.length := by unfold grdP; rw [if_neg (by simpa using hb)]
  have cRG := fun W h => rGreedy_any g a r W h hr hq
  have HLE := Lib.hid (fun (h : (grdR (costR g r) g.items.length).2 = 0) (hbr : Bare g) (h2 : (cbR (costR g r) g.items.length xs).2 = 0) => greedy_least hr hbr h h2)
  have HAC := Lib.hid (fun (h : (grdR (costR g r) g.items.length).2 = 0) => grd_accepted h)
  have HLN : Hid ((grdR (costR g r) g.items.length).1.length ≤ 1000) := Lib.hid (grdR_len hr.many)
  have hcbP : ∀ ys, cbP g r ys = cbR (costR g r) g.items.length ys := fun ys => by unfold cbP; rw [if_neg (by simpa using hb)]
  have cB := fun ys W p A c h k => checkBreaks_any g p r A c ys W h k
  simp only [hcbP] at cB
  unfold pairGV at cB
  rw [hP] at cGR; rw [hb] at cE
  generalize grdR (costR g r) g.items.length = V at *
  obtain ⟨L, d⟩ := V
  simp only at cGR cRG HLE HAC HLN
  by_cases hd : d = 0
  case neg =>
    have e1 : (d != 0) = true := by simpa using hd
    simp only [GT.val, QT.val] at *
    have CS := Lib.hid cS; have CW := Lib.hid cW; have CGR := Lib.hid cGR; have CE := Lib.hid cE; have CRG := Lib.hid cRG
    clear cS cW cGR cE hsh hg h14 hl1 hl2
    clear hb hP hck hq hr hcbP cB cRG hd HLE HAC
    go_enter Tryz.func8, Tryz.ntmps8
    have HB := Lib.hid (BQ.start w #[.slice a.A g.items.length a.c, .slice a.B g.notes.length a.d] #[.int .i64 r.height, .int .i64 r.gap, .int .i64 r.widow, .int .i64 r.orphan])
    obtain ⟨g0, g1, gl0, ⟨q0, q1, q2, q3⟩, gl⟩ := HB.out.at
    go_upto_region 5 with (first | (go_at_call 9; refine Calls.mono (CA.out _ (HT.out.ext (by repeat (first | exact Ext.refl _ | assumption | refine Ext.alloc ?_ _ | refine Ext.drew ?_ | refine Ext.drewN ?_ _ | (refine Ext.setCell ?_ (by simp <;> omega) _) | refine Ext.trans ?_ (by assumption))))) ?_; rintro e w1 ⟨rfl, hb⟩; have HB9 := Lib.hid (HB.out.next (Ext.trans (by repeat (first | exact Ext.refl _ | assumption | refine Ext.alloc ?_ _ | refine Ext.drew ?_ | refine Ext.drewN ?_ _ | (refine Ext.setCell ?_ (by simp <;> omega) _) | refine Ext.trans ?_ (by assumption))) hb)); clear g0 g1 gl0 q0 q1 q2 q3 gl HB; have HB := HB9; clear HB9; obtain ⟨g0, g1, gl0, ⟨q0, q1, q2, q3⟩, gl⟩ := HB.out.at; (try (have q9 := Lib.hid (HLI.out.ext (Ext.trans (by repeat (first | exact Ext.refl _ | assumption | refine Ext.alloc ?_ _ | refine Ext.drew ?_ | refine Ext.drewN ?_ _ | (refine Ext.setCell ?_ (by simp <;> omega) _) | refine Ext.trans ?_ (by assumption))) hb)); clear HLI; have HLI := q9; clear q9)); clear hb) | (go_at_call 10; refine Calls.mono (CS.out _) ?_; rintro e w1 ⟨rfl, hb⟩; have HB9 := Lib.hid (HB.out.next (Ext.trans (by repeat (first | exact Ext.refl _ | assumption | refine Ext.alloc ?_ _ | refine Ext.drew ?_ | refine Ext.drewN ?_ _ | (refine Ext.setCell ?_ (by simp <;> omega) _) | refine Ext.trans ?_ (by assumption))) hb)); clear g0 g1 gl0 q0 q1 q2 q3 gl HB; have HB := HB9; clear HB9; obtain ⟨g0, g1, gl0, ⟨q0, q1, q2, q3⟩, gl⟩ := HB.out.at; (try (have q9 := Lib.hid (HLI.out.ext (Ext.trans (by repeat (first | exact Ext.refl _ | assumption | refine Ext.alloc ?_ _ | refine Ext.drew ?_ | refine Ext.drewN ?_ _ | (refine Ext.setCell ?_ (by simp <;> omega) _) | refine Ext.trans ?_ (by assumption))) hb)); clear HLI; have HLI := q9; clear q9)); clear hb))
    go_cut [7, 8] from 26 to 32 (fun v7 v8 wx => ∃ LA lc, v7 = .slice LA (L).length lc ∧ v8 = .int .i64 d ∧ Hid (RI wx LA (L).length (L)) ∧ Hid (BQ w #[.slice a.A g.items.length a.c, .slice a.B g.notes.length a.d] #[.int .i64 r.height, .int .i64 r.gap, .int .i64 r.widow, .int .i64 r.orphan] wx))
    case first =>
      go_region_held3 (fun W => (W.cell? ⟨w.heap.size, 0, none⟩ = some (.slice a.A g.items.length a.c) ∧ W.cell? ⟨w.heap.size, 1, none⟩ = some (.slice a.B g.notes.length a.d)) ∧ (W.cell? ⟨w.heap.size + 1, 0, none⟩ = some (.int .i64 r.height) ∧ W.cell? ⟨w.heap.size + 1, 1, none⟩ = some (.int .i64 r.gap) ∧ W.cell? ⟨w.heap.size + 1, 2, none⟩ = some (.int .i64 r.widow) ∧ W.cell? ⟨w.heap.size + 1, 3, none⟩ = some (.int .i64 r.orphan)) ∧ w.heap.size < W.heap.size ∧ w.heap.size + 1 < W.heap.size) (first | exact ⟨⟨g0, g1⟩, ⟨q0, q1, q2, q3⟩, gl0, gl⟩ | go_keep) (first | (go_at_call 12; refine Calls.mono (CW.out _ (HG.out.ext (HB.out.ext.trans (by repeat (first | exact Ext.refl _ | assumption | refine Ext.alloc ?_ _ | refine Ext.drew ?_ | refine Ext.drewN ?_ _ | (refine Ext.setCell ?_ (by simp <;> omega) _) | refine Ext.trans ?_ (by assumption)))))) ?_; rintro e w1 ⟨aa, rfl, hga, hb⟩; (try (have q9 := Lib.hid (HCI.out.ext (Ext.trans (by repeat (first | exact Ext.refl _ | assumption | refine Ext.alloc ?_ _ | refine Ext.drew ?_ | refine Ext.drewN ?_ _ | (refine Ext.setCell ?_ (by simp <;> omega) _) | refine Ext.trans ?_ (by assumption))) hb)); clear HCI; have HCI := q9; clear q9)); have HB9 := Lib.hid (HB.out.next (Ext.trans (by repeat (first | exact Ext.refl _ | assumption | refine Ext.alloc ?_ _ | refine Ext.drew ?_ | refine Ext.drewN ?_ _ | (refine Ext.setCell ?_ (by simp <;> omega) _) | refine Ext.trans ?_ (by assumption))) hb)); clear g0 g1 gl0 q0 q1 q2 q3 gl HB; have HB := HB9; clear HB9; obtain ⟨g0, g1, gl0, ⟨q0, q1, q2, q3⟩, gl⟩ := HB.out.at; (try (have q9 := Lib.hid (HLI.out.ext (Ext.trans (by repeat (first | exact Ext.refl _ | assumption | refine Ext.alloc ?_ _ | refine Ext.drew ?_ | refine Ext.drewN ?_ _ | (refine Ext.setCell ?_ (by simp <;> omega) _) | refine Ext.trans ?_ (by assumption))) hb)); clear HLI; have HLI := q9; clear q9)); have HGA := Lib.hid hga; clear hga hb) | (go_at_call 44; refine Calls.mono (CGR.out _ _ (HGA.out.ext (by repeat (first | exact Ext.refl _ | assumption | refine Ext.alloc ?_ _ | refine Ext.drew ?_ | refine Ext.drewN ?_ _ | (refine Ext.setCell ?_ (by simp <;> omega) _) | refine Ext.trans ?_ (by assumption))))) ?_; rintro e w2 ⟨LA, lc, rfl, hri, hb⟩; have HLI0 := Lib.hid hri; have HB9 := Lib.hid (HB.out.next (Ext.trans (by repeat (first | exact Ext.refl _ | assumption | refine Ext.alloc ?_ _ | refine Ext.drew ?_ | refine Ext.drewN ?_ _ | (refine Ext.setCell ?_ (by simp <;> omega) _) | refine Ext.trans ?_ (by assumption))) hb)); clear g0 g1 gl0 q0 q1 q2 q3 gl HB; have HB := HB9; clear HB9; obtain ⟨g0, g1, gl0, ⟨q0, q1, q2, q3⟩, gl⟩ := HB.out.at; (try (have q9 := Lib.hid (HLI.out.ext (Ext.trans (by repeat (first | exact Ext.refl _ | assumption | refine Ext.alloc ?_ _ | refine Ext.drew ?_ | refine Ext.drewN ?_ _ | (refine Ext.setCell ?_ (by simp <;> omega) _) | refine Ext.trans ?_ (by assumption))) hb)); clear HLI; have HLI := q9; clear q9)); have HLI := HLI0; clear hri hb))
      all_goals
        go_wp2_with fail
        go_meet
        case rel => exact ⟨LA, lc, rfl, rfl, Lib.hid (HLI.out.ext (by repeat (first | exact Ext.refl _ | assumption | refine Ext.alloc ?_ _ | refine Ext.drew ?_ | refine Ext.drewN ?_ _ | (refine Ext.setCell ?_ (by simp <;> omega) _) | refine Ext.trans ?_ (by assumption)))), Lib.hid (HB.out.next (by repeat (first | exact Ext.refl _ | assumption | refine Ext.alloc ?_ _ | refine Ext.drew ?_ | refine Ext.drewN ?_ _ | (refine Ext.setCell ?_ (by simp <;> omega) _) | refine Ext.trans ?_ (by assumption))))⟩
    case rest =>
    obtain ⟨LA, lc, rfl, rfl, HLI, HB2⟩ := hcut
    clear g0 g1 gl0 q0 q1 q2 q3 gl
    clear HB
    have HB := HB2; clear HB2
    obtain ⟨g0, g1, gl0, ⟨q0, q1, q2, q3⟩, gl⟩ := HB.out.at
    go_wp2_with (first | (go_at_call 16; refine Calls.mono (CE.out _ (HG.out.ext (HB.out.ext.trans (by repeat (first | exact Ext.refl _ | assumption | refine Ext.alloc ?_ _ | refine Ext.drew ?_ | refine Ext.drewN ?_ _ | (refine Ext.setCell ?_ (by simp <;> omega) _) | refine Ext.trans ?_ (by assumption)))))) ?_; rintro e w1 ⟨rfl, hb⟩; have HB9 := Lib.hid (HB.out.next (Ext.trans (by repeat (first | exact Ext.refl _ | assumption | refine Ext.alloc ?_ _ | refine Ext.drew ?_ | refine Ext.drewN ?_ _ | (refine Ext.setCell ?_ (by simp <;> omega) _) | refine Ext.trans ?_ (by assumption))) hb)); clear g0 g1 gl0 q0 q1 q2 q3 gl HB; have HB := HB9; clear HB9; obtain ⟨g0, g1, gl0, ⟨q0, q1, q2, q3⟩, gl⟩ := HB.out.at; (try (have q9 := Lib.hid (HLI.out.ext (Ext.trans (by repeat (first | exact Ext.refl _ | assumption | refine Ext.alloc ?_ _ | refine Ext.drew ?_ | refine Ext.drewN ?_ _ | (refine Ext.setCell ?_ (by simp <;> omega) _) | refine Ext.trans ?_ (by assumption))) hb)); clear HLI; have HLI := q9; clear q9)); clear hb) | (go_at_call 45; refine Calls.mono (CRG.out _ (HG.out.ext (HB.out.ext.trans (by repeat (first | exact Ext.refl _ | assumption | refine Ext.alloc ?_ _ | refine Ext.drew ?_ | refine Ext.drewN ?_ _ | (refine Ext.setCell ?_ (by simp <;> omega) _) | refine Ext.trans ?_ (by assumption)))))) ?_; rintro e w1 ⟨RA, rc, rfl, hsl, hb⟩; have HB9 := Lib.hid (HB.out.next (Ext.trans (by repeat (first | exact Ext.refl _ | assumption | refine Ext.alloc ?_ _ | refine Ext.drew ?_ | refine Ext.drewN ?_ _ | (refine Ext.setCell ?_ (by simp <;> omega) _) | refine Ext.trans ?_ (by assumption))) hb)); clear g0 g1 gl0 q0 q1 q2 q3 gl HB; have HB := HB9; clear HB9; obtain ⟨g0, g1, gl0, ⟨q0, q1, q2, q3⟩, gl⟩ := HB.out.at; (try (have q9 := Lib.hid (HLI.out.ext (Ext.trans (by repeat (first | exact Ext.refl _ | assumption | refine Ext.alloc ?_ _ | refine Ext.drew ?_ | refine Ext.drewN ?_ _ | (refine Ext.setCell ?_ (by simp <;> omega) _) | refine Ext.trans ?_ (by assumption))) hb)); clear HLI; have HLI := q9; clear q9)); have HRI := Lib.hid hsl.ri; clear hsl hb) | (go_at_call 18; refine Calls.mono (ints_same _ _ _ _ L _ (HLI.out.ext (by repeat (first | exact Ext.refl _ | assumption | refine Ext.alloc ?_ _ | refine Ext.drew ?_ | refine Ext.drewN ?_ _ | (refine Ext.setCell ?_ (by simp <;> omega) _) | refine Ext.trans ?_ (by assumption)))) (HRI.out.ext (by repeat (first | exact Ext.refl _ | assumption | refine Ext.alloc ?_ _ | refine Ext.drew ?_ | refine Ext.drewN ?_ _ | (refine Ext.setCell ?_ (by simp <;> omega) _) | refine Ext.trans ?_ (by assumption))))) ?_; rintro e w1 ⟨rfl, hb⟩; have HB9 := Lib.hid (HB.out.next (Ext.trans (by repeat (first | exact Ext.refl _ | assumption | refine Ext.alloc ?_ _ | refine Ext.drew ?_ | refine Ext.drewN ?_ _ | (refine Ext.setCell ?_ (by simp <;> omega) _) | refine Ext.trans ?_ (by assumption))) hb)); clear g0 g1 gl0 q0 q1 q2 q3 gl HB; have HB := HB9; clear HB9; obtain ⟨g0, g1, gl0, ⟨q0, q1, q2, q3⟩, gl⟩ := HB.out.at; (try (have q9 := Lib.hid (HLI.out.ext (Ext.trans (by repeat (first | exact Ext.refl _ | assumption | refine Ext.alloc ?_ _ | refine Ext.drew ?_ | refine Ext.drewN ?_ _ | (refine Ext.setCell ?_ (by simp <;> omega) _) | refine Ext.trans ?_ (by assumption))) hb)); clear HLI; have HLI := q9; clear q9)); clear hb))
    go_ret
    exact Ret.mk' rfl (HB.out.ext.trans (by repeat (first | exact Ext.refl _ | assumption | refine Ext.alloc ?_ _ | refine Ext.drew ?_ | refine Ext.drewN ?_ _ | (refine Ext.setCell ?_ (by simp <;> omega) _) | refine Ext.trans ?_ (by assumption))))
  case pos =>
  subst hd
  have hac := HAC.out rfl
  have CB1 := cB L
  have CB2 := cB xs
  generalize hc1 : cbR (costR g r) g.items.length L = c1 at *
  obtain ⟨v1, d1⟩ := c1
  simp only at hac CB1
  subst hac
  have HLE2 : Hid (Bare g → (cbR (costR g r) g.items.length xs).2 = 0 → L.length ≤ xs.length) := Lib.hid fun h1 h2 => HLE.out rfl h1 h2
  generalize cbR (costR g r) g.items.length xs = c2 at *
  obtain ⟨v2, d2⟩ := c2
  simp only at CB2 HLE2
  have hll := HLN.out
  have CCL := Lib.hid (fun A c W h => copyInts_any A c L W h (by omega))
  simp only [GT.val, QT.val] at *
  have CS := Lib.hid cS; have CW := Lib.hid cW; have CGR := Lib.hid cGR; have CE := Lib.hid cE; have CRG := Lib.hid cRG; have CK1 := Lib.hid CB1; have CK2 := Lib.hid CB2
  have hnn := hg.ri.big
  have hni := hg.rp.2.1
  clear cS cW cGR cE hsh hg h14 hl1 hl2
  clear hb hP hck hq hr hcbP cB cRG HLE HAC CB1 CB2 hc1
  go_enter Tryz.func8, Tryz.ntmps8
  have HB := Lib.hid (BQ.start w #[.slice a.A g.items.length a.c, .slice a.B g.notes.length a.d] #[.int .i64 r.height, .int .i64 r.gap, .int .i64 r.widow, .int .i64 r.orphan])
  obtain ⟨g0, g1, gl0, ⟨q0, q1, q2, q3⟩, gl⟩ := HB.out.at
  go_upto_region 5 with (first | (go_at_call 9; refine Calls.mono (CA.out _ (HT.out.ext (by repeat (first | exact Ext.refl _ | assumption | refine Ext.alloc ?_ _ | refine Ext.drew ?_ | refine Ext.drewN ?_ _ | (refine Ext.setCell ?_ (by simp <;> omega) _) | refine Ext.trans ?_ (by assumption))))) ?_; rintro e w1 ⟨rfl, hb⟩; have HB9 := Lib.hid (HB.out.next (Ext.trans (by repeat (first | exact Ext.refl _ | assumption | refine Ext.alloc ?_ _ | refine Ext.drew ?_ | refine Ext.drewN ?_ _ | (refine Ext.setCell ?_ (by simp <;> omega) _) | refine Ext.trans ?_ (by assumption))) hb)); clear g0 g1 gl0 q0 q1 q2 q3 gl HB; have HB := HB9; clear HB9; obtain ⟨g0, g1, gl0, ⟨q0, q1, q2, q3⟩, gl⟩ := HB.out.at; (try (have q9 := Lib.hid (HLI.out.ext (Ext.trans (by repeat (first | exact Ext.refl _ | assumption | refine Ext.alloc ?_ _ | refine Ext.drew ?_ | refine Ext.drewN ?_ _ | (refine Ext.setCell ?_ (by simp <;> omega) _) | refine Ext.trans ?_ (by assumption))) hb)); clear HLI; have HLI := q9; clear q9)); clear hb) | (go_at_call 10; refine Calls.mono (CS.out _) ?_; rintro e w1 ⟨rfl, hb⟩; have HB9 := Lib.hid (HB.out.next (Ext.trans (by repeat (first | exact Ext.refl _ | assumption | refine Ext.alloc ?_ _ | refine Ext.drew ?_ | refine Ext.drewN ?_ _ | (refine Ext.setCell ?_ (by simp <;> omega) _) | refine Ext.trans ?_ (by assumption))) hb)); clear g0 g1 gl0 q0 q1 q2 q3 gl HB; have HB := HB9; clear HB9; obtain ⟨g0, g1, gl0, ⟨q0, q1, q2, q3⟩, gl⟩ := HB.out.at; (try (have q9 := Lib.hid (HLI.out.ext (Ext.trans (by repeat (first | exact Ext.refl _ | assumption | refine Ext.alloc ?_ _ | refine Ext.drew ?_ | refine Ext.drewN ?_ _ | (refine Ext.setCell ?_ (by simp <;> omega) _) | refine Ext.trans ?_ (by assumption))) hb)); clear HLI; have HLI := q9; clear q9)); clear hb))
  go_cut [7, 8] from 26 to 32 (fun v7 v8 wx => ∃ LA lc, v7 = .slice LA (L).length lc ∧ v8 = .int .i64 0 ∧ Hid (RI wx LA (L).length (L)) ∧ Hid (BQ w #[.slice a.A g.items.length a.c, .slice a.B g.notes.length a.d] #[.int .i64 r.height, .int .i64 r.gap, .int .i64 r.widow, .int .i64 r.orphan] wx))
  case first =>
    go_region_held3 (fun W => (W.cell? ⟨w.heap.size, 0, none⟩ = some (.slice a.A g.items.length a.c) ∧ W.cell? ⟨w.heap.size, 1, none⟩ = some (.slice a.B g.notes.length a.d)) ∧ (W.cell? ⟨w.heap.size + 1, 0, none⟩ = some (.int .i64 r.height) ∧ W.cell? ⟨w.heap.size + 1, 1, none⟩ = some (.int .i64 r.gap) ∧ W.cell? ⟨w.heap.size + 1, 2, none⟩ = some (.int .i64 r.widow) ∧ W.cell? ⟨w.heap.size + 1, 3, none⟩ = some (.int .i64 r.orphan)) ∧ w.heap.size < W.heap.size ∧ w.heap.size + 1 < W.heap.size) (first | exact ⟨⟨g0, g1⟩, ⟨q0, q1, q2, q3⟩, gl0, gl⟩ | go_keep) (first | (go_at_call 12; refine Calls.mono (CW.out _ (HG.out.ext (HB.out.ext.trans (by repeat (first | exact Ext.refl _ | assumption | refine Ext.alloc ?_ _ | refine Ext.drew ?_ | refine Ext.drewN ?_ _ | (refine Ext.setCell ?_ (by simp <;> omega) _) | refine Ext.trans ?_ (by assumption)))))) ?_; rintro e w1 ⟨aa, rfl, hga, hb⟩; (try (have q9 := Lib.hid (HCI.out.ext (Ext.trans (by repeat (first | exact Ext.refl _ | assumption | refine Ext.alloc ?_ _ | refine Ext.drew ?_ | refine Ext.drewN ?_ _ | (refine Ext.setCell ?_ (by simp <;> omega) _) | refine Ext.trans ?_ (by assumption))) hb)); clear HCI; have HCI := q9; clear q9)); have HB9 := Lib.hid (HB.out.next (Ext.trans (by repeat (first | exact Ext.refl _ | assumption | refine Ext.alloc ?_ _ | refine Ext.drew ?_ | refine Ext.drewN ?_ _ | (refine Ext.setCell ?_ (by simp <;> omega) _) | refine Ext.trans ?_ (by assumption))) hb)); clear g0 g1 gl0 q0 q1 q2 q3 gl HB; have HB := HB9; clear HB9; obtain ⟨g0, g1, gl0, ⟨q0, q1, q2, q3⟩, gl⟩ := HB.out.at; (try (have q9 := Lib.hid (HLI.out.ext (Ext.trans (by repeat (first | exact Ext.refl _ | assumption | refine Ext.alloc ?_ _ | refine Ext.drew ?_ | refine Ext.drewN ?_ _ | (refine Ext.setCell ?_ (by simp <;> omega) _) | refine Ext.trans ?_ (by assumption))) hb)); clear HLI; have HLI := q9; clear q9)); have HGA := Lib.hid hga; clear hga hb) | (go_at_call 44; refine Calls.mono (CGR.out _ _ (HGA.out.ext (by repeat (first | exact Ext.refl _ | assumption | refine Ext.alloc ?_ _ | refine Ext.drew ?_ | refine Ext.drewN ?_ _ | (refine Ext.setCell ?_ (by simp <;> omega) _) | refine Ext.trans ?_ (by assumption))))) ?_; rintro e w2 ⟨LA, lc, rfl, hri, hb⟩; have HLI0 := Lib.hid hri; have HB9 := Lib.hid (HB.out.next (Ext.trans (by repeat (first | exact Ext.refl _ | assumption | refine Ext.alloc ?_ _ | refine Ext.drew ?_ | refine Ext.drewN ?_ _ | (refine Ext.setCell ?_ (by simp <;> omega) _) | refine Ext.trans ?_ (by assumption))) hb)); clear g0 g1 gl0 q0 q1 q2 q3 gl HB; have HB := HB9; clear HB9; obtain ⟨g0, g1, gl0, ⟨q0, q1, q2, q3⟩, gl⟩ := HB.out.at; (try (have q9 := Lib.hid (HLI.out.ext (Ext.trans (by repeat (first | exact Ext.refl _ | assumption | refine Ext.alloc ?_ _ | refine Ext.drew ?_ | refine Ext.drewN ?_ _ | (refine Ext.setCell ?_ (by simp <;> omega) _) | refine Ext.trans ?_ (by assumption))) hb)); clear HLI; have HLI := q9; clear q9)); have HLI := HLI0; clear hri hb))
    all_goals
      go_wp2_with fail
      go_meet
      case rel => exact ⟨LA, lc, rfl, rfl, Lib.hid (HLI.out.ext (by repeat (first | exact Ext.refl _ | assumption | refine Ext.alloc ?_ _ | refine Ext.drew ?_ | refine Ext.drewN ?_ _ | (refine Ext.setCell ?_ (by simp <;> omega) _) | refine Ext.trans ?_ (by assumption)))), Lib.hid (HB.out.next (by repeat (first | exact Ext.refl _ | assumption | refine Ext.alloc ?_ _ | refine Ext.drew ?_ | refine Ext.drewN ?_ _ | (refine Ext.setCell ?_ (by simp <;> omega) _) | refine Ext.trans ?_ (by assumption))))⟩
  case rest =>
  obtain ⟨LA, lc, rfl, rfl, HLI, HB2⟩ := hcut
  clear g0 g1 gl0 q0 q1 q2 q3 gl
  clear HB
  have HB := HB2; clear HB2
  obtain ⟨g0, g1, gl0, ⟨q0, q1, q2, q3⟩, gl⟩ := HB.out.at
  go_upto_region 14 with (first | (go_at_call 16; refine Calls.mono (CE.out _ (HG.out.ext (HB.out.ext.trans (by repeat (first | exact Ext.refl _ | assumption | refine Ext.alloc ?_ _ | refine Ext.drew ?_ | refine Ext.drewN ?_ _ | (refine Ext.setCell ?_ (by simp <;> omega) _) | refine Ext.trans ?_ (by assumption)))))) ?_; rintro e w1 ⟨rfl, hb⟩; have HB9 := Lib.hid (HB.out.next (Ext.trans (by repeat (first | exact Ext.refl _ | assumption | refine Ext.alloc ?_ _ | refine Ext.drew ?_ | refine Ext.drewN ?_ _ | (refine Ext.setCell ?_ (by simp <;> omega) _) | refine Ext.trans ?_ (by assumption))) hb)); clear g0 g1 gl0 q0 q1 q2 q3 gl HB; have HB := HB9; clear HB9; obtain ⟨g0, g1, gl0, ⟨q0, q1, q2, q3⟩, gl⟩ := HB.out.at; (try (have q9 := Lib.hid (HLI.out.ext (Ext.trans (by repeat (first | exact Ext.refl _ | assumption | refine Ext.alloc ?_ _ | refine Ext.drew ?_ | refine Ext.drewN ?_ _ | (refine Ext.setCell ?_ (by simp <;> omega) _) | refine Ext.trans ?_ (by assumption))) hb)); clear HLI; have HLI := q9; clear q9)); clear hb) | (go_at_call 45; refine Calls.mono (CRG.out _ (HG.out.ext (HB.out.ext.trans (by repeat (first | exact Ext.refl _ | assumption | refine Ext.alloc ?_ _ | refine Ext.drew ?_ | refine Ext.drewN ?_ _ | (refine Ext.setCell ?_ (by simp <;> omega) _) | refine Ext.trans ?_ (by assumption)))))) ?_; rintro e w1 ⟨RA, rc, rfl, hsl, hb⟩; have HB9 := Lib.hid (HB.out.next (Ext.trans (by repeat (first | exact Ext.refl _ | assumption | refine Ext.alloc ?_ _ | refine Ext.drew ?_ | refine Ext.drewN ?_ _ | (refine Ext.setCell ?_ (by simp <;> omega) _) | refine Ext.trans ?_ (by assumption))) hb)); clear g0 g1 gl0 q0 q1 q2 q3 gl HB; have HB := HB9; clear HB9; obtain ⟨g0, g1, gl0, ⟨q0, q1, q2, q3⟩, gl⟩ := HB.out.at; (try (have q9 := Lib.hid (HLI.out.ext (Ext.trans (by repeat (first | exact Ext.refl _ | assumption | refine Ext.alloc ?_ _ | refine Ext.drew ?_ | refine Ext.drewN ?_ _ | (refine Ext.setCell ?_ (by simp <;> omega) _) | refine Ext.trans ?_ (by assumption))) hb)); clear HLI; have HLI := q9; clear q9)); have HRI := Lib.hid hsl.ri; clear hsl hb) | (go_at_call 18; refine Calls.mono (ints_same _ _ _ _ L _ (HLI.out.ext (by repeat (first | exact Ext.refl _ | assumption | refine Ext.alloc ?_ _ | refine Ext.drew ?_ | refine Ext.drewN ?_ _ | (refine Ext.setCell ?_ (by simp <;> omega) _) | refine Ext.trans ?_ (by assumption)))) (HRI.out.ext (by repeat (first | exact Ext.refl _ | assumption | refine Ext.alloc ?_ _ | refine Ext.drew ?_ | refine Ext.drewN ?_ _ | (refine Ext.setCell ?_ (by simp <;> omega) _) | refine Ext.trans ?_ (by assumption))))) ?_; rintro e w1 ⟨rfl, hb⟩; have HB9 := Lib.hid (HB.out.next (Ext.trans (by repeat (first | exact Ext.refl _ | assumption | refine Ext.alloc ?_ _ | refine Ext.drew ?_ | refine Ext.drewN ?_ _ | (refine Ext.setCell ?_ (by simp <;> omega) _) | refine Ext.trans ?_ (by assumption))) hb)); clear g0 g1 gl0 q0 q1 q2 q3 gl HB; have HB := HB9; clear HB9; obtain ⟨g0, g1, gl0, ⟨q0, q1, q2, q3⟩, gl⟩ := HB.out.at; (try (have q9 := Lib.hid (HLI.out.ext (Ext.trans (by repeat (first | exact Ext.refl _ | assumption | refine Ext.alloc ?_ _ | refine Ext.drew ?_ | refine Ext.drewN ?_ _ | (refine Ext.setCell ?_ (by simp <;> omega) _) | refine Ext.trans ?_ (by assumption))) hb)); clear HLI; have HLI := q9; clear q9)); clear hb))
  go_cut [11, 12] from 55 to 63 (fun va vb wx => va = .int .i64 v1 ∧ vb = .int .i64 0 ∧ Hid (RI wx LA L.length L) ∧ Hid (BQ w #[.slice a.A g.items.length a.c, .slice a.B g.notes.length a.d] #[.int .i64 r.height, .int .i64 r.gap, .int .i64 r.widow, .int .i64 r.orphan] wx))
  case first =>
    go_region_held3 (fun W => (W.cell? ⟨w.heap.size, 0, none⟩ = some (.slice a.A g.items.length a.c) ∧ W.cell? ⟨w.heap.size, 1, none⟩ = some (.slice a.B g.notes.length a.d)) ∧ (W.cell? ⟨w.heap.size + 1, 0, none⟩ = some (.int .i64 r.height) ∧ W.cell? ⟨w.heap.size + 1, 1, none⟩ = some (.int .i64 r.gap) ∧ W.cell? ⟨w.heap.size + 1, 2, none⟩ = some (.int .i64 r.widow) ∧ W.cell? ⟨w.heap.size + 1, 3, none⟩ = some (.int .i64 r.orphan)) ∧ w.heap.size < W.heap.size ∧ w.heap.size + 1 < W.heap.size) (first | exact ⟨⟨g0, g1⟩, ⟨q0, q1, q2, q3⟩, gl0, gl⟩ | go_keep) (first | (go_at_call 12; refine Calls.mono (CW.out _ (HG.out.ext (HB.out.ext.trans (by repeat (first | exact Ext.refl _ | assumption | refine Ext.alloc ?_ _ | refine Ext.drew ?_ | refine Ext.drewN ?_ _ | (refine Ext.setCell ?_ (by simp <;> omega) _) | refine Ext.trans ?_ (by assumption)))))) ?_; rintro e w1 ⟨aa, rfl, hga, hb⟩; (try (have q9 := Lib.hid (HCI.out.ext (Ext.trans (by repeat (first | exact Ext.refl _ | assumption | refine Ext.alloc ?_ _ | refine Ext.drew ?_ | refine Ext.drewN ?_ _ | (refine Ext.setCell ?_ (by simp <;> omega) _) | refine Ext.trans ?_ (by assumption))) hb)); clear HCI; have HCI := q9; clear q9)); have HB9 := Lib.hid (HB.out.next (Ext.trans (by repeat (first | exact Ext.refl _ | assumption | refine Ext.alloc ?_ _ | refine Ext.drew ?_ | refine Ext.drewN ?_ _ | (refine Ext.setCell ?_ (by simp <;> omega) _) | refine Ext.trans ?_ (by assumption))) hb)); clear g0 g1 gl0 q0 q1 q2 q3 gl HB; have HB := HB9; clear HB9; obtain ⟨g0, g1, gl0, ⟨q0, q1, q2, q3⟩, gl⟩ := HB.out.at; (try (have q9 := Lib.hid (HLI.out.ext (Ext.trans (by repeat (first | exact Ext.refl _ | assumption | refine Ext.alloc ?_ _ | refine Ext.drew ?_ | refine Ext.drewN ?_ _ | (refine Ext.setCell ?_ (by simp <;> omega) _) | refine Ext.trans ?_ (by assumption))) hb)); clear HLI; have HLI := q9; clear q9)); have HGA := Lib.hid hga; clear hga hb) | (go_at_call 27; refine Calls.mono (CCL.out _ _ _ ((HLI.out.ext (by repeat (first | exact Ext.refl _ | assumption | refine Ext.alloc ?_ _ | refine Ext.drew ?_ | refine Ext.drewN ?_ _ | (refine Ext.setCell ?_ (by simp <;> omega) _) | refine Ext.trans ?_ (by assumption)))))) ?_; rintro e w1 ⟨IA, ic, rfl, hsl, hb⟩; (try (have q9 := Lib.hid (HGA.out.ext (Ext.trans (by repeat (first | exact Ext.refl _ | assumption | refine Ext.alloc ?_ _ | refine Ext.drew ?_ | refine Ext.drewN ?_ _ | (refine Ext.setCell ?_ (by simp <;> omega) _) | refine Ext.trans ?_ (by assumption))) hb)); clear HGA; have HGA := q9; clear q9)); have HB9 := Lib.hid (HB.out.next (Ext.trans (by repeat (first | exact Ext.refl _ | assumption | refine Ext.alloc ?_ _ | refine Ext.drew ?_ | refine Ext.drewN ?_ _ | (refine Ext.setCell ?_ (by simp <;> omega) _) | refine Ext.trans ?_ (by assumption))) hb)); clear g0 g1 gl0 q0 q1 q2 q3 gl HB; have HB := HB9; clear HB9; obtain ⟨g0, g1, gl0, ⟨q0, q1, q2, q3⟩, gl⟩ := HB.out.at; (try (have q9 := Lib.hid (HLI.out.ext (Ext.trans (by repeat (first | exact Ext.refl _ | assumption | refine Ext.alloc ?_ _ | refine Ext.drew ?_ | refine Ext.drewN ?_ _ | (refine Ext.setCell ?_ (by simp <;> omega) _) | refine Ext.trans ?_ (by assumption))) hb)); clear HLI; have HLI := q9; clear q9)); have HCI := Lib.hid hsl.ri; clear hsl hb) | (go_at_call 42; refine Calls.mono (CK1.out _ _ _ _ (HGA.out.ext (by repeat (first | exact Ext.refl _ | assumption | refine Ext.alloc ?_ _ | refine Ext.drew ?_ | refine Ext.drewN ?_ _ | (refine Ext.setCell ?_ (by simp <;> omega) _) | refine Ext.trans ?_ (by assumption)))) (HCI.out.ext (by repeat (first | exact Ext.refl _ | assumption | refine Ext.alloc ?_ _ | refine Ext.drew ?_ | refine Ext.drewN ?_ _ | (refine Ext.setCell ?_ (by simp <;> omega) _) | refine Ext.trans ?_ (by assumption))))) ?_; rintro e w2 ⟨rfl, hb⟩; have HB9 := Lib.hid (HB.out.next (Ext.trans (by repeat (first | exact Ext.refl _ | assumption | refine Ext.alloc ?_ _ | refine Ext.drew ?_ | refine Ext.drewN ?_ _ | (refine Ext.setCell ?_ (by simp <;> omega) _) | refine Ext.trans ?_ (by assumption))) hb)); clear g0 g1 gl0 q0 q1 q2 q3 gl HB; have HB := HB9; clear HB9; obtain ⟨g0, g1, gl0, ⟨q0, q1, q2, q3⟩, gl⟩ := HB.out.at; (try (have q9 := Lib.hid (HLI.out.ext (Ext.trans (by repeat (first | exact Ext.refl _ | assumption | refine Ext.alloc ?_ _ | refine Ext.drew ?_ | refine Ext.drewN ?_ _ | (refine Ext.setCell ?_ (by simp <;> omega) _) | refine Ext.trans ?_ (by assumption))) hb)); clear HLI; have HLI := q9; clear q9)); clear hb))
    all_goals
      go_wp2_with fail
      go_meet
      case rel => exact ⟨rfl, rfl, Lib.hid (HLI.out.ext (by repeat (first | exact Ext.refl _ | assumption | refine Ext.alloc ?_ _ | refine Ext.drew ?_ | refine Ext.drewN ?_ _ | (refine Ext.setCell ?_ (by simp <;> omega) _) | refine Ext.trans ?_ (by assumption)))), Lib.hid (HB.out.next (by repeat (first | exact Ext.refl _ | assumption | refine Ext.alloc ?_ _ | refine Ext.drew ?_ | refine Ext.drewN ?_ _ | (refine Ext.setCell ?_ (by simp <;> omega) _) | refine Ext.trans ?_ (by assumption))))⟩
  case rest =>
  obtain ⟨rfl, rfl, HLI2, HB2⟩ := hcut
  clear g0 g1 gl0 q0 q1 q2 q3 gl
  clear HB HLI
  have HB := HB2; clear HB2
  have HLI := HLI2; clear HLI2
  obtain ⟨g0, g1, gl0, ⟨q0, q1, q2, q3⟩, gl⟩ := HB.out.at
  by_cases hno : 0 < g.notes.length
  case pos =>
    have i2 : (0 : Int) < (g.notes.length : Int) := by omega
    go_wp2
    go_ret
    exact Ret.mk' rfl (HB.out.ext.trans (by repeat (first | exact Ext.refl _ | assumption | refine Ext.alloc ?_ _ | refine Ext.drew ?_ | refine Ext.drewN ?_ _ | (refine Ext.setCell ?_ (by simp <;> omega) _) | refine Ext.trans ?_ (by assumption))))
  case neg =>
  have i2 : ¬ (0 : Int) < (g.notes.length : Int) := by omega
  have HNO : Hid (g.notes.length = 0) := Lib.hid (by omega)
  clear hno
  go_wp2
  have HB0 := Lib.hid (HB.out.next (by repeat (first | exact Ext.refl _ | assumption | refine Ext.alloc ?_ _ | refine Ext.drew ?_ | refine Ext.drewN ?_ _ | (refine Ext.setCell ?_ (by simp <;> omega) _) | refine Ext.trans ?_ (by assumption))))
  have HLI0 := Lib.hid (HLI.out.ext (w' := _) (by repeat (first | exact Ext.refl _ | assumption | refine Ext.alloc ?_ _ | refine Ext.drew ?_ | refine Ext.drewN ?_ _ | (refine Ext.setCell ?_ (by simp <;> omega) _) | refine Ext.trans ?_ (by assumption))))
  clear g0 g1 gl0 q0 q1 q2 q3 gl
  clear HB HLI
  go_loopw [13] (fun i wr => ∃ k : Nat, k ≤ g.items.length ∧ i = .int .i64 (k : Int) ∧ Hid (∀ j, j < k → (g.items.getD j IT.zero).kind ≠ 2) ∧ Hid (BQ w #[.slice a.A g.items.length a.c, .slice a.B g.notes.length a.d] #[.int .i64 r.height, .int .i64 r.gap, .int .i64 r.widow, .int .i64 r.orphan] wr) ∧ Hid (RI wr LA L.length L)) (fun i _ => g.items.length - (intOf i).toNat)
  case atStart => exact ⟨0, Nat.zero_le _, rfl, Lib.hid (fun j hj => absurd hj (by omega)), HB0, HLI0⟩
  case round =>
    obtain ⟨k, hk, rfl, HK, HB, HLI⟩ := hrel
    clear HB0 HLI0
    obtain ⟨g0, g1, gl0, ⟨q0, q1, q2, q3⟩, gl⟩ := HB.out.at
    by_cases hkn : k < g.items.length
    case pos =>
      have i3 : (k : Int) < (g.items.length : Int) := by omega
      obtain ⟨xb, xo, hxe, hxb, hxc⟩ := (HG.out.rp.ext HB.out.ext).2.2 (by omega)
      rw [hxe] at g0
      obtain ⟨x0, _, _, _, _⟩ := hxc k hkn
      have HKS : Hid ((g.items.getD k IT.zero).kind ≠ 2 → ∀ j, j < k + 1 → (g.items.getD j IT.zero).kind ≠ 2) := Lib.hid fun h j hj => by
        rcases Nat.lt_or_ge j k with h9 | h9
        · exact HK.out j h9
        · obtain rfl : j = k := by omega
          exact h
      generalize (g.items.getD k IT.zero).kind = xk at *
      clear hxc hxe
      by_cases h2 : xk = 2
      case pos =>
        subst h2
        clear HKS
        go_wp2
        go_ret
        exact Ret.mk' rfl (HB.out.ext.trans (by repeat (first | exact Ext.refl _ | assumption | refine Ext.alloc ?_ _ | refine Ext.drew ?_ | refine Ext.drewN ?_ _ | (refine Ext.setCell ?_ (by simp <;> omega) _) | refine Ext.trans ?_ (by assumption))))
      case neg =>
        have HK2 := Lib.hid (HKS.out h2)
        have e2 : (xk == 2) = false := by simpa using h2
        clear HKS h2
        go_wp2
        go_roundw
        case rel => exact ⟨k + 1, by omega, by go_num, HK2, Lib.hid (HB.out.next (by repeat (first | exact Ext.refl _ | assumption | refine Ext.alloc ?_ _ | refine Ext.drew ?_ | refine Ext.drewN ?_ _ | (refine Ext.setCell ?_ (by simp <;> omega) _) | refine Ext.trans ?_ (by assumption)))), Lib.hid (HLI.out.ext (by repeat (first | exact Ext.refl _ | assumption | refine Ext.alloc ?_ _ | refine Ext.drew ?_ | refine Ext.drewN ?_ _ | (refine Ext.setCell ?_ (by simp <;> omega) _) | refine Ext.trans ?_ (by assumption))))⟩
        case measure => simp [intOf] <;> omega
    case neg =>
      obtain rfl : k = g.items.length := by omega
      have HLE3 := Lib.hid (HLE2.out ⟨HNO.out, HK.out⟩)
      clear HLE2 HK hkn
      go_upto_region 24 with fail
      go_cut [14, 15] from 84 to 92 (fun va vb wx => va = .int .i64 v2 ∧ vb = .int .i64 d2 ∧ Hid (RI wx LA L.length L) ∧ Hid (BQ w #[.slice a.A g.items.length a.c, .slice a.B g.notes.length a.d] #[.int .i64 r.height, .int .i64 r.gap, .int .i64 r.widow, .int .i64 r.orphan] wx))
      case first =>
        go_region_held3 (fun W => (W.cell? ⟨w.heap.size, 0, none⟩ = some (.slice a.A g.items.length a.c) ∧ W.cell? ⟨w.heap.size, 1, none⟩ = some (.slice a.B g.notes.length a.d)) ∧ (W.cell? ⟨w.heap.size + 1, 0, none⟩ = some (.int .i64 r.height) ∧ W.cell? ⟨w.heap.size + 1, 1, none⟩ = some (.int .i64 r.gap) ∧ W.cell? ⟨w.heap.size + 1, 2, none⟩ = some (.int .i64 r.widow) ∧ W.cell? ⟨w.heap.size + 1, 3, none⟩ = some (.int .i64 r.orphan)) ∧ w.heap.size < W.heap.size ∧ w.heap.size + 1 < W.heap.size) (first | exact ⟨⟨g0, g1⟩, ⟨q0, q1, q2, q3⟩, gl0, gl⟩ | go_keep) (first | (go_at_call 12; refine Calls.mono (CW.out _ (HG.out.ext (HB.out.ext.trans (by repeat (first | exact Ext.refl _ | assumption | refine Ext.alloc ?_ _ | refine Ext.drew ?_ | refine Ext.drewN ?_ _ | (refine Ext.setCell ?_ (by simp <;> omega) _) | refine Ext.trans ?_ (by assumption)))))) ?_; rintro e w1 ⟨aa, rfl, hga, hb⟩; (try (have q9 := Lib.hid (HCI.out.ext (Ext.trans (by repeat (first | exact Ext.refl _ | assumption | refine Ext.alloc ?_ _ | refine Ext.drew ?_ | refine Ext.drewN ?_ _ | (refine Ext.setCell ?_ (by simp <;> omega) _) | refine Ext.trans ?_ (by assumption))) hb)); clear HCI; have HCI := q9; clear q9)); have HB9 := Lib.hid (HB.out.next (Ext.trans (by repeat (first | exact Ext.refl _ | assumption | refine Ext.alloc ?_ _ | refine Ext.drew ?_ | refine Ext.drewN ?_ _ | (refine Ext.setCell ?_ (by simp <;> omega) _) | refine Ext.trans ?_ (by assumption))) hb)); clear g0 g1 gl0 q0 q1 q2 q3 gl HB; have HB := HB9; clear HB9; obtain ⟨g0, g1, gl0, ⟨q0, q1, q2, q3⟩, gl⟩ := HB.out.at; (try (have q9 := Lib.hid (HLI.out.ext (Ext.trans (by repeat (first | exact Ext.refl _ | assumption | refine Ext.alloc ?_ _ | refine Ext.drew ?_ | refine Ext.drewN ?_ _ | (refine Ext.setCell ?_ (by simp <;> omega) _) | refine Ext.trans ?_ (by assumption))) hb)); clear HLI; have HLI := q9; clear q9)); have HGA := Lib.hid hga; clear hga hb) | (go_at_call 27; refine Calls.mono (CX.out _ ((HXS.out.ext (HB.out.ext.trans (by repeat (first | exact Ext.refl _ | assumption | refine Ext.alloc ?_ _ | refine Ext.drew ?_ | refine Ext.drewN ?_ _ | (refine Ext.setCell ?_ (by simp <;> omega) _) | refine Ext.trans ?_ (by assumption))))))) ?_; rintro e w1 ⟨IA, ic, rfl, hsl, hb⟩; (try (have q9 := Lib.hid (HGA.out.ext (Ext.trans (by repeat (first | exact Ext.refl _ | assumption | refine Ext.alloc ?_ _ | refine Ext.drew ?_ | refine Ext.drewN ?_ _ | (refine Ext.setCell ?_ (by simp <;> omega) _) | refine Ext.trans ?_ (by assumption))) hb)); clear HGA; have HGA := q9; clear q9)); have HB9 := Lib.hid (HB.out.next (Ext.trans (by repeat (first | exact Ext.refl _ | assumption | refine Ext.alloc ?_ _ | refine Ext.drew ?_ | refine Ext.drewN ?_ _ | (refine Ext.setCell ?_ (by simp <;> omega) _) | refine Ext.trans ?_ (by assumption))) hb)); clear g0 g1 gl0 q0 q1 q2 q3 gl HB; have HB := HB9; clear HB9; obtain ⟨g0, g1, gl0, ⟨q0, q1, q2, q3⟩, gl⟩ := HB.out.at; (try (have q9 := Lib.hid (HLI.out.ext (Ext.trans (by repeat (first | exact Ext.refl _ | assumption | refine Ext.alloc ?_ _ | refine Ext.drew ?_ | refine Ext.drewN ?_ _ | (refine Ext.setCell ?_ (by simp <;> omega) _) | refine Ext.trans ?_ (by assumption))) hb)); clear HLI; have HLI := q9; clear q9)); have HCI := Lib.hid hsl.ri; clear hsl hb) | (go_at_call 42; refine Calls.mono (CK2.out _ _ _ _ (HGA.out.ext (by repeat (first | exact Ext.refl _ | assumption | refine Ext.alloc ?_ _ | refine Ext.drew ?_ | refine Ext.drewN ?_ _ | (refine Ext.setCell ?_ (by simp <;> omega) _) | refine Ext.trans ?_ (by assumption)))) (HCI.out.ext (by repeat (first | exact Ext.refl _ | assumption | refine Ext.alloc ?_ _ | refine Ext.drew ?_ | refine Ext.drewN ?_ _ | (refine Ext.setCell ?_ (by simp <;> omega) _) | refine Ext.trans ?_ (by assumption))))) ?_; rintro e w2 ⟨rfl, hb⟩; have HB9 := Lib.hid (HB.out.next (Ext.trans (by repeat (first | exact Ext.refl _ | assumption | refine Ext.alloc ?_ _ | refine Ext.drew ?_ | refine Ext.drewN ?_ _ | (refine Ext.setCell ?_ (by simp <;> omega) _) | refine Ext.trans ?_ (by assumption))) hb)); clear g0 g1 gl0 q0 q1 q2 q3 gl HB; have HB := HB9; clear HB9; obtain ⟨g0, g1, gl0, ⟨q0, q1, q2, q3⟩, gl⟩ := HB.out.at; (try (have q9 := Lib.hid (HLI.out.ext (Ext.trans (by repeat (first | exact Ext.refl _ | assumption | refine Ext.alloc ?_ _ | refine Ext.drew ?_ | refine Ext.drewN ?_ _ | (refine Ext.setCell ?_ (by simp <;> omega) _) | refine Ext.trans ?_ (by assumption))) hb)); clear HLI; have HLI := q9; clear q9)); clear hb))
        all_goals
          go_wp2_with fail
          go_meet
          case rel => exact ⟨rfl, rfl, Lib.hid (HLI.out.ext (by repeat (first | exact Ext.refl _ | assumption | refine Ext.alloc ?_ _ | refine Ext.drew ?_ | refine Ext.drewN ?_ _ | (refine Ext.setCell ?_ (by simp <;> omega) _) | refine Ext.trans ?_ (by assumption)))), Lib.hid (HB.out.next (by repeat (first | exact Ext.refl _ | assumption | refine Ext.alloc ?_ _ | refine Ext.drew ?_ | refine Ext.drewN ?_ _ | (refine Ext.setCell ?_ (by simp <;> omega) _) | refine Ext.trans ?_ (by assumption))))⟩
      case rest =>
      obtain ⟨rfl, rfl, HLI2, HB2⟩ := hcut
      clear g0 g1 gl0 q0 q1 q2 q3 gl
      clear HB HLI
      have HB := HB2; clear HB2
      have HLI := HLI2; clear HLI2
      obtain ⟨g0, g1, gl0, ⟨q0, q1, q2, q3⟩, gl⟩ := HB.out.at
      by_cases hd2 : d2 = 0
      case pos =>
        have i4 := HLE3.out hd2
        subst hd2
        have i5 : (L.length : Int) ≤ (xs.length : Int) := by omega
        clear HLE3
        go_wp2
        go_ret
        exact Ret.mk' rfl (HB.out.ext.trans (by repeat (first | exact Ext.refl _ | assumption | refine Ext.alloc ?_ _ | refine Ext.drew ?_ | refine Ext.drewN ?_ _ | (refine Ext.setCell ?_ (by simp <;> omega) _) | refine Ext.trans ?_ (by assumption))))
      case neg =>
        have e3 : (d2 != 0) = true := by simpa using hd2
        clear HLE3 hd2
        go_wp2
        go_ret
        exact Ret.mk' rfl (HB.out.ext.trans (by repeat (first | exact Ext.refl _ | assumption | refine Ext.alloc ?_ _ | refine Ext.drew ?_ | refine Ext.drewN ?_ _ | (refine Ext.setCell ?_ (by simp <;> omega) _) | refine Ext.trans ?_ (by assumption))))
end Go.Proofs.YtpkmapngdkkglaaGreatDoor.longest
