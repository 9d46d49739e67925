/-
  Walk: PageBests returns true.
-/
import Derived.Test.YtpkmapngdkkglaaGreatDoorPgFind
import Derived.Test.YtpkmapngdkkglaaGreatDoorPgCL
import Derived.Test.YtpkmapngdkkglaaGreatDoorRLab
import Derived.Test.YtpkmapngdkkglaaGreatDoorRLst
import Derived.Test.YtpkmapngdkkglaaGreatDoorLaw5
namespace Go.Proofs.YtpkmapngdkkglaaGreatDoor.bests
open Go.RowKit
attribute [local go_sem ↓] Go.wp_at_zero Go.wp_at_succ

/-- What the breaks that are found are. -/
theorem best_brk {g : GT} {r : QT} (hR : RightG g) (hq : chkQ r = 0) (hE : bestE g r = 0) : Brk (costR g r) 0 (bestB g r) (bestC g r) g.items.length := by
  have hne : (allB (costR g r) g.items.length g.items.length).lab.getD g.items.length 0 ≠ farC := fun h => by
    unfold bestE at hE
    by_cases h1 : bookErr g r ≠ 0
    · rw [if_pos h1] at hE; exact h1 hE
    rw [if_neg h1] at hE
    by_cases h2 : g.items.length = 0
    · rw [if_pos h2] at hE; cases hE
    rw [if_neg h2, if_pos h] at hE; cases hE
  have := (best_law (cost_small hR hq) hR.many).2 hne
  unfold bestB bestC
  rw [if_pos hE, if_pos hE]
  exact this
set_option maxRecDepth 100000 in
set_option maxHeartbeats 32000000 in
theorem walk (g : GT) (a : GA) (r : QT) (w : World) (hg : GR w a g) (hT : Tab5 w) :
    Calls Tryz.prog 6 #[g.val a, r.val] w (Ret (.bool true) w) := by
  have CA := Lib.hid (fun W h => awake5_any W h)
  have cS := fun W => short_any g a W
  have HG := Lib.hid hg; have HT := Lib.hid hT
  have hnn := hg.ri.big
  have hni := hg.rp.2.1
  clear hT
  cases hsh : shortB g with
  | false =>
    rw [hsh] at cS
    simp only [GT.val, QT.val] at *
    have CS := Lib.hid cS; clear cS hsh hg
    go_enter Tryz.func6, Tryz.ntmps6
    have HB := Lib.hid (BQ.start w #[.slice a.A g.items.length a.c, .slice a.B g.notes.length a.d] #[.int .i64 r.height, .int .i64 r.gap, .int .i64 r.widow, .int .i64 r.orphan])
    obtain ⟨g0, g1, gl0, ⟨q0, q1, q2, q3⟩, gl⟩ := HB.out.at
    go_wp2_with (first | (go_at_call 9; refine Calls.mono (CA.out _ (HT.out.ext (by repeat first | exact xe0 _ | assumption | refine xea ?_ _ | refine xed ?_ | refine xet ?_ (by assumption)))) ?_; rintro e w1 ⟨rfl, hb⟩; have HB9 := Lib.hid (HB.out.next (Ext.trans (by repeat first | exact xe0 _ | assumption | refine xea ?_ _ | refine xed ?_ | refine xet ?_ (by assumption)) hb)); clear g0 g1 gl0 q0 q1 q2 q3 gl HB; have HB := HB9; clear HB9; obtain ⟨g0, g1, gl0, ⟨q0, q1, q2, q3⟩, gl⟩ := HB.out.at; (try (have q9 := Lib.hid (HLI.out.ext (Ext.trans (by repeat first | exact xe0 _ | assumption | refine xea ?_ _ | refine xed ?_ | refine xet ?_ (by assumption)) hb)); clear HLI; have HLI := q9; clear q9)); (try (have q9 := Lib.hid (HLM.out.ext (Ext.trans (by repeat first | exact xe0 _ | assumption | refine xea ?_ _ | refine xed ?_ | refine xet ?_ (by assumption)) hb)); clear HLM; have HLM := q9; clear q9)); clear hb) | (go_at_call 10; refine Calls.mono (CS.out _) ?_; rintro e w1 ⟨rfl, hb⟩; have HB9 := Lib.hid (HB.out.next (Ext.trans (by repeat first | exact xe0 _ | assumption | refine xea ?_ _ | refine xed ?_ | refine xet ?_ (by assumption)) hb)); clear g0 g1 gl0 q0 q1 q2 q3 gl HB; have HB := HB9; clear HB9; obtain ⟨g0, g1, gl0, ⟨q0, q1, q2, q3⟩, gl⟩ := HB.out.at; (try (have q9 := Lib.hid (HLI.out.ext (Ext.trans (by repeat first | exact xe0 _ | assumption | refine xea ?_ _ | refine xed ?_ | refine xet ?_ (by assumption)) hb)); clear HLI; have HLI := q9; clear q9)); (try (have q9 := Lib.hid (HLM.out.ext (Ext.trans (by repeat first | exact xe0 _ | assumption | refine xea ?_ _ | refine xed ?_ | refine xet ?_ (by assumption)) hb)); clear HLM; have HLM := q9; clear q9)); clear hb))
    go_ret
    exact Ret.mk' rfl (HB.out.ext.trans (by repeat first | exact xe0 _ | assumption | refine xea ?_ _ | refine xed ?_ | refine xet ?_ (by assumption)))
  | true =>
  rw [hsh] at cS
  obtain ⟨hl1, hl2⟩ := short_len hsh
  have cW := fun W h => own_any g a W h (by omega) (by omega)
  have cBS := fun W p h => best_any g p r W h
  have cE := fun W h => bErr_any g a r W h
  by_cases hb : bookErr g r = 0
  case neg =>
    have hE : bestE g r = bookErr g r := by unfold bestE; rw [if_pos hb]
    obtain ⟨q1, q2, q3⟩ := bestE_none hE hb
    obtain ⟨B, hB⟩ : ∃ B, B = bestB g r := ⟨_, rfl⟩
    obtain ⟨L, hL⟩ : ∃ L, L = bestL g r := ⟨_, rfl⟩
    have hB0 : B.length ≤ 0 := by rw [hB, q1]; exact Nat.le_refl _
    have hL0 : L.length ≤ 0 := by rw [hL, q2]; exact Nat.le_refl _
    have iS : ((B.length : Int) + (L.length : Int) == 0) = true := by rw [beq_iff_eq]; omega
    rw [← hB, ← hL, q3, hE] at cBS
    have e1 : (bookErr g r == 0) = false := by simpa using hb
    have e2 : (bookErr g r != 0) = true := by simpa using hb
    generalize bookErr g r = z at *
    simp only [GT.val, QT.val] at *
    have CS := Lib.hid cS; have CW := Lib.hid cW; have CBS := Lib.hid cBS; have CE := Lib.hid cE
    clear cS cW cBS cE hsh hg hl1 hl2
    clear hb hE q1 q2 q3 hB hL
    go_enter Tryz.func6, Tryz.ntmps6
    have HB := Lib.hid (BQ.start w #[.slice a.A g.items.length a.c, .slice a.B g.notes.length a.d] #[.int .i64 r.height, .int .i64 r.gap, .int .i64 r.widow, .int .i64 r.orphan])
    obtain ⟨g0, g1, gl0, ⟨q0, q1, q2, q3⟩, gl⟩ := HB.out.at
    go_upto_region 5 with (first | (go_at_call 9; refine Calls.mono (CA.out _ (HT.out.ext (by repeat first | exact xe0 _ | assumption | refine xea ?_ _ | refine xed ?_ | refine xet ?_ (by assumption)))) ?_; rintro e w1 ⟨rfl, hb⟩; have HB9 := Lib.hid (HB.out.next (Ext.trans (by repeat first | exact xe0 _ | assumption | refine xea ?_ _ | refine xed ?_ | refine xet ?_ (by assumption)) hb)); clear g0 g1 gl0 q0 q1 q2 q3 gl HB; have HB := HB9; clear HB9; obtain ⟨g0, g1, gl0, ⟨q0, q1, q2, q3⟩, gl⟩ := HB.out.at; (try (have q9 := Lib.hid (HLI.out.ext (Ext.trans (by repeat first | exact xe0 _ | assumption | refine xea ?_ _ | refine xed ?_ | refine xet ?_ (by assumption)) hb)); clear HLI; have HLI := q9; clear q9)); (try (have q9 := Lib.hid (HLM.out.ext (Ext.trans (by repeat first | exact xe0 _ | assumption | refine xea ?_ _ | refine xed ?_ | refine xet ?_ (by assumption)) hb)); clear HLM; have HLM := q9; clear q9)); clear hb) | (go_at_call 10; refine Calls.mono (CS.out _) ?_; rintro e w1 ⟨rfl, hb⟩; have HB9 := Lib.hid (HB.out.next (Ext.trans (by repeat first | exact xe0 _ | assumption | refine xea ?_ _ | refine xed ?_ | refine xet ?_ (by assumption)) hb)); clear g0 g1 gl0 q0 q1 q2 q3 gl HB; have HB := HB9; clear HB9; obtain ⟨g0, g1, gl0, ⟨q0, q1, q2, q3⟩, gl⟩ := HB.out.at; (try (have q9 := Lib.hid (HLI.out.ext (Ext.trans (by repeat first | exact xe0 _ | assumption | refine xea ?_ _ | refine xed ?_ | refine xet ?_ (by assumption)) hb)); clear HLI; have HLI := q9; clear q9)); (try (have q9 := Lib.hid (HLM.out.ext (Ext.trans (by repeat first | exact xe0 _ | assumption | refine xea ?_ _ | refine xed ?_ | refine xet ?_ (by assumption)) hb)); clear HLM; have HLM := q9; clear q9)); clear hb))
    go_cut [5, 6, 7, 8] from 25 to 33 (fun v5 v6 v7 v8 wx => ∃ LA lc MA mc, v5 = .slice LA B.length lc ∧ v6 = .slice MA L.length mc ∧ v7 = .int .i64 0 ∧ v8 = .int .i64 z ∧ Hid (RI wx LA B.length B) ∧ Hid (RI wx MA L.length L) ∧ Hid (BQ w #[.slice a.A g.items.length a.c, .slice a.B g.notes.length a.d] #[.int .i64 r.height, .int .i64 r.gap, .int .i64 r.widow, .int .i64 r.orphan] wx))
    case first =>
      go_region_held3 (fun W => (W.cell? ⟨w.heap.size, 0, none⟩ = some (.slice a.A g.items.length a.c) ∧ W.cell? ⟨w.heap.size, 1, none⟩ = some (.slice a.B g.notes.length a.d)) ∧ (W.cell? ⟨w.heap.size + 1, 0, none⟩ = some (.int .i64 r.height) ∧ W.cell? ⟨w.heap.size + 1, 1, none⟩ = some (.int .i64 r.gap) ∧ W.cell? ⟨w.heap.size + 1, 2, none⟩ = some (.int .i64 r.widow) ∧ W.cell? ⟨w.heap.size + 1, 3, none⟩ = some (.int .i64 r.orphan)) ∧ w.heap.size < W.heap.size ∧ w.heap.size + 1 < W.heap.size) (first | exact ⟨⟨g0, g1⟩, ⟨q0, q1, q2, q3⟩, gl0, gl⟩ | go_keep) (first | (go_at_call 12; refine Calls.mono (CW.out _ (HG.out.ext (HB.out.ext.trans (by repeat first | exact xe0 _ | assumption | refine xea ?_ _ | refine xed ?_ | refine xet ?_ (by assumption))))) ?_; rintro e w1 ⟨aa, rfl, hga, hb⟩; (try (have q9 := Lib.hid (HCI.out.ext (Ext.trans (by repeat first | exact xe0 _ | assumption | refine xea ?_ _ | refine xed ?_ | refine xet ?_ (by assumption)) hb)); clear HCI; have HCI := q9; clear q9)); have HB9 := Lib.hid (HB.out.next (Ext.trans (by repeat first | exact xe0 _ | assumption | refine xea ?_ _ | refine xed ?_ | refine xet ?_ (by assumption)) hb)); clear g0 g1 gl0 q0 q1 q2 q3 gl HB; have HB := HB9; clear HB9; obtain ⟨g0, g1, gl0, ⟨q0, q1, q2, q3⟩, gl⟩ := HB.out.at; (try (have q9 := Lib.hid (HLI.out.ext (Ext.trans (by repeat first | exact xe0 _ | assumption | refine xea ?_ _ | refine xed ?_ | refine xet ?_ (by assumption)) hb)); clear HLI; have HLI := q9; clear q9)); (try (have q9 := Lib.hid (HLM.out.ext (Ext.trans (by repeat first | exact xe0 _ | assumption | refine xea ?_ _ | refine xed ?_ | refine xet ?_ (by assumption)) hb)); clear HLM; have HLM := q9; clear q9)); have HGA := Lib.hid hga; clear hga hb) | (go_at_call 38; refine Calls.mono (CBS.out _ _ (HGA.out.ext (by repeat first | exact xe0 _ | assumption | refine xea ?_ _ | refine xed ?_ | refine xet ?_ (by assumption)))) ?_; rintro e w2 ⟨LA, lc, MA, mc, rfl, hri, hrm, _, _, hb⟩; have HLI0 := Lib.hid hri; have HLM0 := Lib.hid hrm; have HB9 := Lib.hid (HB.out.next (Ext.trans (by repeat first | exact xe0 _ | assumption | refine xea ?_ _ | refine xed ?_ | refine xet ?_ (by assumption)) hb)); clear g0 g1 gl0 q0 q1 q2 q3 gl HB; have HB := HB9; clear HB9; obtain ⟨g0, g1, gl0, ⟨q0, q1, q2, q3⟩, gl⟩ := HB.out.at; (try (have q9 := Lib.hid (HLI.out.ext (Ext.trans (by repeat first | exact xe0 _ | assumption | refine xea ?_ _ | refine xed ?_ | refine xet ?_ (by assumption)) hb)); clear HLI; have HLI := q9; clear q9)); (try (have q9 := Lib.hid (HLM.out.ext (Ext.trans (by repeat first | exact xe0 _ | assumption | refine xea ?_ _ | refine xed ?_ | refine xet ?_ (by assumption)) hb)); clear HLM; have HLM := q9; clear q9)); have HLI := HLI0; have HLM := HLM0; clear hri hrm hb))
      all_goals
        go_wp2_with fail
        go_meet
        case rel => exact ⟨LA, lc, MA, mc, rfl, rfl, rfl, rfl, Lib.hid (HLI.out.ext (by repeat first | exact xe0 _ | assumption | refine xea ?_ _ | refine xed ?_ | refine xet ?_ (by assumption))), Lib.hid (HLM.out.ext (by repeat first | exact xe0 _ | assumption | refine xea ?_ _ | refine xed ?_ | refine xet ?_ (by assumption))), Lib.hid (HB.out.next (by repeat first | exact xe0 _ | assumption | refine xea ?_ _ | refine xed ?_ | refine xet ?_ (by assumption)))⟩
    case rest =>
    obtain ⟨LA, lc, MA, mc, rfl, rfl, rfl, rfl, HLI, HLM, HB2⟩ := hcut
    clear g0 g1 gl0 q0 q1 q2 q3 gl
    clear HB
    have HB := HB2; clear HB2
    obtain ⟨g0, g1, gl0, ⟨q0, q1, q2, q3⟩, gl⟩ := HB.out.at
    go_wp2_with (first | (go_at_call 16; refine Calls.mono (CE.out _ (HG.out.ext (HB.out.ext.trans (by repeat first | exact xe0 _ | assumption | refine xea ?_ _ | refine xed ?_ | refine xet ?_ (by assumption))))) ?_; rintro e w1 ⟨rfl, hb⟩; have HB9 := Lib.hid (HB.out.next (Ext.trans (by repeat first | exact xe0 _ | assumption | refine xea ?_ _ | refine xed ?_ | refine xet ?_ (by assumption)) hb)); clear g0 g1 gl0 q0 q1 q2 q3 gl HB; have HB := HB9; clear HB9; obtain ⟨g0, g1, gl0, ⟨q0, q1, q2, q3⟩, gl⟩ := HB.out.at; (try (have q9 := Lib.hid (HLI.out.ext (Ext.trans (by repeat first | exact xe0 _ | assumption | refine xea ?_ _ | refine xed ?_ | refine xet ?_ (by assumption)) hb)); clear HLI; have HLI := q9; clear q9)); (try (have q9 := Lib.hid (HLM.out.ext (Ext.trans (by repeat first | exact xe0 _ | assumption | refine xea ?_ _ | refine xed ?_ | refine xet ?_ (by assumption)) hb)); clear HLM; have HLM := q9; clear q9)); clear hb))
    go_ret
    exact Ret.mk' rfl (HB.out.ext.trans (by repeat first | exact xe0 _ | assumption | refine xea ?_ _ | refine xed ?_ | refine xet ?_ (by assumption)))
  case pos =>
  have hck : (chkG g).2 = 0 := by
    unfold bookErr at hb
    by_cases h9 : (chkG g).2 ≠ 0
    · rw [if_pos h9] at hb; exact hb
    · simpa using h9
  have hq : chkQ r = 0 := by unfold bookErr at hb; rwa [if_neg (by simpa using hck)] at hb
  have hr := chkG_zero hck
  by_cases hn0 : g.items.length = 0
  case pos =>
    have hE : bestE g r = 10 := by unfold bestE; rw [if_neg (by rw [hb]; decide), if_pos hn0]
    obtain ⟨q1, q2, q3⟩ := bestE_none hE (by decide)
    obtain ⟨B, hB⟩ : ∃ B, B = bestB g r := ⟨_, rfl⟩
    obtain ⟨L, hL⟩ : ∃ L, L = bestL g r := ⟨_, rfl⟩
    have hB0 : B.length ≤ 0 := by rw [hB, q1]; exact Nat.le_refl _
    have hL0 : L.length ≤ 0 := by rw [hL, q2]; exact Nat.le_refl _
    have iS : ((B.length : Int) + (L.length : Int) == 0) = true := by rw [beq_iff_eq]; omega
    have iN : ((g.items.length : Int) == 0) = true := by rw [beq_iff_eq]; omega
    rw [← hB, ← hL, q3, hE] at cBS; rw [hb] at cE
    simp only [GT.val, QT.val] at *
    have CS := Lib.hid cS; have CW := Lib.hid cW; have CBS := Lib.hid cBS; have CE := Lib.hid cE
    clear cS cW cBS cE hsh hg hl1 hl2
    clear hb hE q1 q2 q3 hB hL hn0 hck hq hr
    go_enter Tryz.func6, Tryz.ntmps6
    have HB := Lib.hid (BQ.start w #[.slice a.A g.items.length a.c, .slice a.B g.notes.length a.d] #[.int .i64 r.height, .int .i64 r.gap, .int .i64 r.widow, .int .i64 r.orphan])
    obtain ⟨g0, g1, gl0, ⟨q0, q1, q2, q3⟩, gl⟩ := HB.out.at
    go_upto_region 5 with (first | (go_at_call 9; refine Calls.mono (CA.out _ (HT.out.ext (by repeat first | exact xe0 _ | assumption | refine xea ?_ _ | refine xed ?_ | refine xet ?_ (by assumption)))) ?_; rintro e w1 ⟨rfl, hb⟩; have HB9 := Lib.hid (HB.out.next (Ext.trans (by repeat first | exact xe0 _ | assumption | refine xea ?_ _ | refine xed ?_ | refine xet ?_ (by assumption)) hb)); clear g0 g1 gl0 q0 q1 q2 q3 gl HB; have HB := HB9; clear HB9; obtain ⟨g0, g1, gl0, ⟨q0, q1, q2, q3⟩, gl⟩ := HB.out.at; (try (have q9 := Lib.hid (HLI.out.ext (Ext.trans (by repeat first | exact xe0 _ | assumption | refine xea ?_ _ | refine xed ?_ | refine xet ?_ (by assumption)) hb)); clear HLI; have HLI := q9; clear q9)); (try (have q9 := Lib.hid (HLM.out.ext (Ext.trans (by repeat first | exact xe0 _ | assumption | refine xea ?_ _ | refine xed ?_ | refine xet ?_ (by assumption)) hb)); clear HLM; have HLM := q9; clear q9)); clear hb) | (go_at_call 10; refine Calls.mono (CS.out _) ?_; rintro e w1 ⟨rfl, hb⟩; have HB9 := Lib.hid (HB.out.next (Ext.trans (by repeat first | exact xe0 _ | assumption | refine xea ?_ _ | refine xed ?_ | refine xet ?_ (by assumption)) hb)); clear g0 g1 gl0 q0 q1 q2 q3 gl HB; have HB := HB9; clear HB9; obtain ⟨g0, g1, gl0, ⟨q0, q1, q2, q3⟩, gl⟩ := HB.out.at; (try (have q9 := Lib.hid (HLI.out.ext (Ext.trans (by repeat first | exact xe0 _ | assumption | refine xea ?_ _ | refine xed ?_ | refine xet ?_ (by assumption)) hb)); clear HLI; have HLI := q9; clear q9)); (try (have q9 := Lib.hid (HLM.out.ext (Ext.trans (by repeat first | exact xe0 _ | assumption | refine xea ?_ _ | refine xed ?_ | refine xet ?_ (by assumption)) hb)); clear HLM; have HLM := q9; clear q9)); clear hb))
    go_cut [5, 6, 7, 8] from 25 to 33 (fun v5 v6 v7 v8 wx => ∃ LA lc MA mc, v5 = .slice LA B.length lc ∧ v6 = .slice MA L.length mc ∧ v7 = .int .i64 0 ∧ v8 = .int .i64 10 ∧ Hid (RI wx LA B.length B) ∧ Hid (RI wx MA L.length L) ∧ Hid (BQ w #[.slice a.A g.items.length a.c, .slice a.B g.notes.length a.d] #[.int .i64 r.height, .int .i64 r.gap, .int .i64 r.widow, .int .i64 r.orphan] wx))
    case first =>
      go_region_held3 (fun W => (W.cell? ⟨w.heap.size, 0, none⟩ = some (.slice a.A g.items.length a.c) ∧ W.cell? ⟨w.heap.size, 1, none⟩ = some (.slice a.B g.notes.length a.d)) ∧ (W.cell? ⟨w.heap.size + 1, 0, none⟩ = some (.int .i64 r.height) ∧ W.cell? ⟨w.heap.size + 1, 1, none⟩ = some (.int .i64 r.gap) ∧ W.cell? ⟨w.heap.size + 1, 2, none⟩ = some (.int .i64 r.widow) ∧ W.cell? ⟨w.heap.size + 1, 3, none⟩ = some (.int .i64 r.orphan)) ∧ w.heap.size < W.heap.size ∧ w.heap.size + 1 < W.heap.size) (first | exact ⟨⟨g0, g1⟩, ⟨q0, q1, q2, q3⟩, gl0, gl⟩ | go_keep) (first | (go_at_call 12; refine Calls.mono (CW.out _ (HG.out.ext (HB.out.ext.trans (by repeat first | exact xe0 _ | assumption | refine xea ?_ _ | refine xed ?_ | refine xet ?_ (by assumption))))) ?_; rintro e w1 ⟨aa, rfl, hga, hb⟩; (try (have q9 := Lib.hid (HCI.out.ext (Ext.trans (by repeat first | exact xe0 _ | assumption | refine xea ?_ _ | refine xed ?_ | refine xet ?_ (by assumption)) hb)); clear HCI; have HCI := q9; clear q9)); have HB9 := Lib.hid (HB.out.next (Ext.trans (by repeat first | exact xe0 _ | assumption | refine xea ?_ _ | refine xed ?_ | refine xet ?_ (by assumption)) hb)); clear g0 g1 gl0 q0 q1 q2 q3 gl HB; have HB := HB9; clear HB9; obtain ⟨g0, g1, gl0, ⟨q0, q1, q2, q3⟩, gl⟩ := HB.out.at; (try (have q9 := Lib.hid (HLI.out.ext (Ext.trans (by repeat first | exact xe0 _ | assumption | refine xea ?_ _ | refine xed ?_ | refine xet ?_ (by assumption)) hb)); clear HLI; have HLI := q9; clear q9)); (try (have q9 := Lib.hid (HLM.out.ext (Ext.trans (by repeat first | exact xe0 _ | assumption | refine xea ?_ _ | refine xed ?_ | refine xet ?_ (by assumption)) hb)); clear HLM; have HLM := q9; clear q9)); have HGA := Lib.hid hga; clear hga hb) | (go_at_call 38; refine Calls.mono (CBS.out _ _ (HGA.out.ext (by repeat first | exact xe0 _ | assumption | refine xea ?_ _ | refine xed ?_ | refine xet ?_ (by assumption)))) ?_; rintro e w2 ⟨LA, lc, MA, mc, rfl, hri, hrm, _, _, hb⟩; have HLI0 := Lib.hid hri; have HLM0 := Lib.hid hrm; have HB9 := Lib.hid (HB.out.next (Ext.trans (by repeat first | exact xe0 _ | assumption | refine xea ?_ _ | refine xed ?_ | refine xet ?_ (by assumption)) hb)); clear g0 g1 gl0 q0 q1 q2 q3 gl HB; have HB := HB9; clear HB9; obtain ⟨g0, g1, gl0, ⟨q0, q1, q2, q3⟩, gl⟩ := HB.out.at; (try (have q9 := Lib.hid (HLI.out.ext (Ext.trans (by repeat first | exact xe0 _ | assumption | refine xea ?_ _ | refine xed ?_ | refine xet ?_ (by assumption)) hb)); clear HLI; have HLI := q9; clear q9)); (try (have q9 := Lib.hid (HLM.out.ext (Ext.trans (by repeat first | exact xe0 _ | assumption | refine xea ?_ _ | refine xed ?_ | refine xet ?_ (by assumption)) hb)); clear HLM; have HLM := q9; clear q9)); have HLI := HLI0; have HLM := HLM0; clear hri hrm hb))
      all_goals
        go_wp2_with fail
        go_meet
        case rel => exact ⟨LA, lc, MA, mc, rfl, rfl, rfl, rfl, Lib.hid (HLI.out.ext (by repeat first | exact xe0 _ | assumption | refine xea ?_ _ | refine xed ?_ | refine xet ?_ (by assumption))), Lib.hid (HLM.out.ext (by repeat first | exact xe0 _ | assumption | refine xea ?_ _ | refine xed ?_ | refine xet ?_ (by assumption))), Lib.hid (HB.out.next (by repeat first | exact xe0 _ | assumption | refine xea ?_ _ | refine xed ?_ | refine xet ?_ (by assumption)))⟩
    case rest =>
    obtain ⟨LA, lc, MA, mc, rfl, rfl, rfl, rfl, HLI, HLM, HB2⟩ := hcut
    clear g0 g1 gl0 q0 q1 q2 q3 gl
    clear HB
    have HB := HB2; clear HB2
    obtain ⟨g0, g1, gl0, ⟨q0, q1, q2, q3⟩, gl⟩ := HB.out.at
    go_wp2_with (first | (go_at_call 16; refine Calls.mono (CE.out _ (HG.out.ext (HB.out.ext.trans (by repeat first | exact xe0 _ | assumption | refine xea ?_ _ | refine xed ?_ | refine xet ?_ (by assumption))))) ?_; rintro e w1 ⟨rfl, hb⟩; have HB9 := Lib.hid (HB.out.next (Ext.trans (by repeat first | exact xe0 _ | assumption | refine xea ?_ _ | refine xed ?_ | refine xet ?_ (by assumption)) hb)); clear g0 g1 gl0 q0 q1 q2 q3 gl HB; have HB := HB9; clear HB9; obtain ⟨g0, g1, gl0, ⟨q0, q1, q2, q3⟩, gl⟩ := HB.out.at; (try (have q9 := Lib.hid (HLI.out.ext (Ext.trans (by repeat first | exact xe0 _ | assumption | refine xea ?_ _ | refine xed ?_ | refine xet ?_ (by assumption)) hb)); clear HLI; have HLI := q9; clear q9)); (try (have q9 := Lib.hid (HLM.out.ext (Ext.trans (by repeat first | exact xe0 _ | assumption | refine xea ?_ _ | refine xed ?_ | refine xet ?_ (by assumption)) hb)); clear HLM; have HLM := q9; clear q9)); clear hb))
    go_ret
    exact Ret.mk' rfl (HB.out.ext.trans (by repeat first | exact xe0 _ | assumption | refine xea ?_ _ | refine xed ?_ | refine xet ?_ (by assumption)))
  case neg =>
  have iN : ((g.items.length : Int) == 0) = false := by rw [beq_eq_false_iff_ne]; omega
  have hs := cost_small hr hq
  have cRS := fun W h => rLeast_any g a r W h hr hq
  have hlen := lstTo_len (costR g r) g.items.length
  have hlst := least_lab hs hr.many
  have HLP : Hid (0 < (lstTo (costR g r) g.items.length).length ∧ g.items.length < (lstTo (costR g r) g.items.length).length) := Lib.hid ⟨by omega, by omega⟩
  have j0 : (0 : Int) ≤ ((lstTo (costR g r) g.items.length).length : Int) - 1 := by omega
  have j1 : ((lstTo (costR g r) g.items.length).length : Int) - 1 < ((lstTo (costR g r) g.items.length).length : Int) := by omega
  have j2 : (((lstTo (costR g r) g.items.length).length : Int) - 1).toNat = g.items.length := by omega
  have j3 : (1 : Int) ≤ ((lstTo (costR g r) g.items.length).length : Int) := by omega
  by_cases hfar : (allB (costR g r) g.items.length g.items.length).lab.getD g.items.length 0 = farC
  case pos =>
    have hE : bestE g r = 12 := by unfold bestE; rw [if_neg (by rw [hb]; decide), if_neg hn0, if_pos hfar]
    obtain ⟨q1, q2, q3⟩ := bestE_none hE (by decide)
    obtain ⟨B, hB⟩ : ∃ B, B = bestB g r := ⟨_, rfl⟩
    obtain ⟨L, hL⟩ : ∃ L, L = bestL g r := ⟨_, rfl⟩
    have hB0 : B.length ≤ 0 := by rw [hB, q1]; exact Nat.le_refl _
    have hL0 : L.length ≤ 0 := by rw [hL, q2]; exact Nat.le_refl _
    have iS : ((B.length : Int) + (L.length : Int) == 0) = true := by rw [beq_iff_eq]; omega
    rw [← hB, ← hL, q3, hE] at cBS; rw [hb] at cE
    rw [if_pos hfar] at hlst
    obtain ⟨le, hle⟩ : ∃ le, le = (lstTo (costR g r) g.items.length).getD g.items.length 0 := ⟨_, rfl⟩
    have hle2 : le < 0 := by rw [hle, hlst]; decide
    have HLG : Hid ((lstTo (costR g r) g.items.length).getD g.items.length 0 = le) := Lib.hid hle.symm
    generalize lstTo (costR g r) g.items.length = ll at *
    simp only [GT.val, QT.val] at *
    have CS := Lib.hid cS; have CW := Lib.hid cW; have CBS := Lib.hid cBS; have CE := Lib.hid cE; have CRS := Lib.hid cRS
    clear cS cW cBS cE hsh hg hl1 hl2
    clear hb hE q1 q2 q3 hB hL hn0 hck hq hr hs cRS hlen hlst hfar hle
    go_enter Tryz.func6, Tryz.ntmps6
    have HB := Lib.hid (BQ.start w #[.slice a.A g.items.length a.c, .slice a.B g.notes.length a.d] #[.int .i64 r.height, .int .i64 r.gap, .int .i64 r.widow, .int .i64 r.orphan])
    obtain ⟨g0, g1, gl0, ⟨q0, q1, q2, q3⟩, gl⟩ := HB.out.at
    go_upto_region 5 with (first | (go_at_call 9; refine Calls.mono (CA.out _ (HT.out.ext (by repeat first | exact xe0 _ | assumption | refine xea ?_ _ | refine xed ?_ | refine xet ?_ (by assumption)))) ?_; rintro e w1 ⟨rfl, hb⟩; have HB9 := Lib.hid (HB.out.next (Ext.trans (by repeat first | exact xe0 _ | assumption | refine xea ?_ _ | refine xed ?_ | refine xet ?_ (by assumption)) hb)); clear g0 g1 gl0 q0 q1 q2 q3 gl HB; have HB := HB9; clear HB9; obtain ⟨g0, g1, gl0, ⟨q0, q1, q2, q3⟩, gl⟩ := HB.out.at; (try (have q9 := Lib.hid (HLI.out.ext (Ext.trans (by repeat first | exact xe0 _ | assumption | refine xea ?_ _ | refine xed ?_ | refine xet ?_ (by assumption)) hb)); clear HLI; have HLI := q9; clear q9)); (try (have q9 := Lib.hid (HLM.out.ext (Ext.trans (by repeat first | exact xe0 _ | assumption | refine xea ?_ _ | refine xed ?_ | refine xet ?_ (by assumption)) hb)); clear HLM; have HLM := q9; clear q9)); clear hb) | (go_at_call 10; refine Calls.mono (CS.out _) ?_; rintro e w1 ⟨rfl, hb⟩; have HB9 := Lib.hid (HB.out.next (Ext.trans (by repeat first | exact xe0 _ | assumption | refine xea ?_ _ | refine xed ?_ | refine xet ?_ (by assumption)) hb)); clear g0 g1 gl0 q0 q1 q2 q3 gl HB; have HB := HB9; clear HB9; obtain ⟨g0, g1, gl0, ⟨q0, q1, q2, q3⟩, gl⟩ := HB.out.at; (try (have q9 := Lib.hid (HLI.out.ext (Ext.trans (by repeat first | exact xe0 _ | assumption | refine xea ?_ _ | refine xed ?_ | refine xet ?_ (by assumption)) hb)); clear HLI; have HLI := q9; clear q9)); (try (have q9 := Lib.hid (HLM.out.ext (Ext.trans (by repeat first | exact xe0 _ | assumption | refine xea ?_ _ | refine xed ?_ | refine xet ?_ (by assumption)) hb)); clear HLM; have HLM := q9; clear q9)); clear hb))
    go_cut [5, 6, 7, 8] from 25 to 33 (fun v5 v6 v7 v8 wx => ∃ LA lc MA mc, v5 = .slice LA B.length lc ∧ v6 = .slice MA L.length mc ∧ v7 = .int .i64 0 ∧ v8 = .int .i64 12 ∧ Hid (RI wx LA B.length B) ∧ Hid (RI wx MA L.length L) ∧ Hid (BQ w #[.slice a.A g.items.length a.c, .slice a.B g.notes.length a.d] #[.int .i64 r.height, .int .i64 r.gap, .int .i64 r.widow, .int .i64 r.orphan] wx))
    case first =>
      go_region_held3 (fun W => (W.cell? ⟨w.heap.size, 0, none⟩ = some (.slice a.A g.items.length a.c) ∧ W.cell? ⟨w.heap.size, 1, none⟩ = some (.slice a.B g.notes.length a.d)) ∧ (W.cell? ⟨w.heap.size + 1, 0, none⟩ = some (.int .i64 r.height) ∧ W.cell? ⟨w.heap.size + 1, 1, none⟩ = some (.int .i64 r.gap) ∧ W.cell? ⟨w.heap.size + 1, 2, none⟩ = some (.int .i64 r.widow) ∧ W.cell? ⟨w.heap.size + 1, 3, none⟩ = some (.int .i64 r.orphan)) ∧ w.heap.size < W.heap.size ∧ w.heap.size + 1 < W.heap.size) (first | exact ⟨⟨g0, g1⟩, ⟨q0, q1, q2, q3⟩, gl0, gl⟩ | go_keep) (first | (go_at_call 12; refine Calls.mono (CW.out _ (HG.out.ext (HB.out.ext.trans (by repeat first | exact xe0 _ | assumption | refine xea ?_ _ | refine xed ?_ | refine xet ?_ (by assumption))))) ?_; rintro e w1 ⟨aa, rfl, hga, hb⟩; (try (have q9 := Lib.hid (HCI.out.ext (Ext.trans (by repeat first | exact xe0 _ | assumption | refine xea ?_ _ | refine xed ?_ | refine xet ?_ (by assumption)) hb)); clear HCI; have HCI := q9; clear q9)); have HB9 := Lib.hid (HB.out.next (Ext.trans (by repeat first | exact xe0 _ | assumption | refine xea ?_ _ | refine xed ?_ | refine xet ?_ (by assumption)) hb)); clear g0 g1 gl0 q0 q1 q2 q3 gl HB; have HB := HB9; clear HB9; obtain ⟨g0, g1, gl0, ⟨q0, q1, q2, q3⟩, gl⟩ := HB.out.at; (try (have q9 := Lib.hid (HLI.out.ext (Ext.trans (by repeat first | exact xe0 _ | assumption | refine xea ?_ _ | refine xed ?_ | refine xet ?_ (by assumption)) hb)); clear HLI; have HLI := q9; clear q9)); (try (have q9 := Lib.hid (HLM.out.ext (Ext.trans (by repeat first | exact xe0 _ | assumption | refine xea ?_ _ | refine xed ?_ | refine xet ?_ (by assumption)) hb)); clear HLM; have HLM := q9; clear q9)); have HGA := Lib.hid hga; clear hga hb) | (go_at_call 38; refine Calls.mono (CBS.out _ _ (HGA.out.ext (by repeat first | exact xe0 _ | assumption | refine xea ?_ _ | refine xed ?_ | refine xet ?_ (by assumption)))) ?_; rintro e w2 ⟨LA, lc, MA, mc, rfl, hri, hrm, _, _, hb⟩; have HLI0 := Lib.hid hri; have HLM0 := Lib.hid hrm; have HB9 := Lib.hid (HB.out.next (Ext.trans (by repeat first | exact xe0 _ | assumption | refine xea ?_ _ | refine xed ?_ | refine xet ?_ (by assumption)) hb)); clear g0 g1 gl0 q0 q1 q2 q3 gl HB; have HB := HB9; clear HB9; obtain ⟨g0, g1, gl0, ⟨q0, q1, q2, q3⟩, gl⟩ := HB.out.at; (try (have q9 := Lib.hid (HLI.out.ext (Ext.trans (by repeat first | exact xe0 _ | assumption | refine xea ?_ _ | refine xed ?_ | refine xet ?_ (by assumption)) hb)); clear HLI; have HLI := q9; clear q9)); (try (have q9 := Lib.hid (HLM.out.ext (Ext.trans (by repeat first | exact xe0 _ | assumption | refine xea ?_ _ | refine xed ?_ | refine xet ?_ (by assumption)) hb)); clear HLM; have HLM := q9; clear q9)); have HLI := HLI0; have HLM := HLM0; clear hri hrm hb))
      all_goals
        go_wp2_with fail
        go_meet
        case rel => exact ⟨LA, lc, MA, mc, rfl, rfl, rfl, rfl, Lib.hid (HLI.out.ext (by repeat first | exact xe0 _ | assumption | refine xea ?_ _ | refine xed ?_ | refine xet ?_ (by assumption))), Lib.hid (HLM.out.ext (by repeat first | exact xe0 _ | assumption | refine xea ?_ _ | refine xed ?_ | refine xet ?_ (by assumption))), Lib.hid (HB.out.next (by repeat first | exact xe0 _ | assumption | refine xea ?_ _ | refine xed ?_ | refine xet ?_ (by assumption)))⟩
    case rest =>
    obtain ⟨LA, lc, MA, mc, rfl, rfl, rfl, rfl, HLI, HLM, HB2⟩ := hcut
    clear g0 g1 gl0 q0 q1 q2 q3 gl
    clear HB
    have HB := HB2; clear HB2
    obtain ⟨g0, g1, gl0, ⟨q0, q1, q2, q3⟩, gl⟩ := HB.out.at
    go_wp2_with (first | (go_at_call 16; refine Calls.mono (CE.out _ (HG.out.ext (HB.out.ext.trans (by repeat first | exact xe0 _ | assumption | refine xea ?_ _ | refine xed ?_ | refine xet ?_ (by assumption))))) ?_; rintro e w1 ⟨rfl, hb⟩; have HB9 := Lib.hid (HB.out.next (Ext.trans (by repeat first | exact xe0 _ | assumption | refine xea ?_ _ | refine xed ?_ | refine xet ?_ (by assumption)) hb)); clear g0 g1 gl0 q0 q1 q2 q3 gl HB; have HB := HB9; clear HB9; obtain ⟨g0, g1, gl0, ⟨q0, q1, q2, q3⟩, gl⟩ := HB.out.at; (try (have q9 := Lib.hid (HLI.out.ext (Ext.trans (by repeat first | exact xe0 _ | assumption | refine xea ?_ _ | refine xed ?_ | refine xet ?_ (by assumption)) hb)); clear HLI; have HLI := q9; clear q9)); (try (have q9 := Lib.hid (HLM.out.ext (Ext.trans (by repeat first | exact xe0 _ | assumption | refine xea ?_ _ | refine xed ?_ | refine xet ?_ (by assumption)) hb)); clear HLM; have HLM := q9; clear q9)); clear hb) | (go_at_call 39; refine Calls.mono (CRS.out _ (HG.out.ext (HB.out.ext.trans (by repeat first | exact xe0 _ | assumption | refine xea ?_ _ | refine xed ?_ | refine xet ?_ (by assumption))))) ?_; rintro e w1 ⟨RA, rc, rfl, hsl, hb⟩; obtain ⟨rb, ro, rfl, hrb, hrc⟩ := hsl.ri.2.2 HLP.out.1; have hlast := hrc _ HLP.out.2; rw [HLG.out] at hlast; have HB9 := Lib.hid (HB.out.next (Ext.trans (by repeat first | exact xe0 _ | assumption | refine xea ?_ _ | refine xed ?_ | refine xet ?_ (by assumption)) hb)); clear g0 g1 gl0 q0 q1 q2 q3 gl HB; have HB := HB9; clear HB9; obtain ⟨g0, g1, gl0, ⟨q0, q1, q2, q3⟩, gl⟩ := HB.out.at; (try (have q9 := Lib.hid (HLI.out.ext (Ext.trans (by repeat first | exact xe0 _ | assumption | refine xea ?_ _ | refine xed ?_ | refine xet ?_ (by assumption)) hb)); clear HLI; have HLI := q9; clear q9)); (try (have q9 := Lib.hid (HLM.out.ext (Ext.trans (by repeat first | exact xe0 _ | assumption | refine xea ?_ _ | refine xed ?_ | refine xet ?_ (by assumption)) hb)); clear HLM; have HLM := q9; clear q9)); clear hrc hsl hb))
    go_ret
    exact Ret.mk' rfl (HB.out.ext.trans (by repeat first | exact xe0 _ | assumption | refine xea ?_ _ | refine xed ?_ | refine xet ?_ (by assumption)))
  case neg =>
    have hE : bestE g r = 0 := by unfold bestE; rw [if_neg (by rw [hb]; decide), if_neg hn0, if_neg hfar]
    have hBK := best_brk hr hq hE
    have hLB := best_labels hs hr.many
    have hLV : bestL g r = (allB (costR g r) g.items.length g.items.length).lab := by unfold bestL; rw [if_pos hE]
    have hCV : bestC g r = (allB (costR g r) g.items.length g.items.length).lab.getD g.items.length 0 := by unfold bestC; rw [if_pos hE]
    have hcb := cbR_of (by omega) hBK
    have hfew := hBK.few
    rw [← hCV, ← hLV] at hLB
    rw [if_neg hfar, ← hCV] at hlst
    have hC0 : 0 ≤ bestC g r := by
      obtain ⟨_, _, q3, _⟩ := cb_bd (l := bestB g r) hs (bestB g r).length (fun j hj => firstE_zero (by
        by_cases h9 : firstE (cbE (costR g r) g.items.length (bestB g r)) (bestB g r).length = 0
        · exact h9
        · exfalso
          unfold cbR at hcb
          rw [if_pos h9] at hcb
          exact h9 (congrArg Prod.snd hcb)) j hj)
      have := hBK.total
      omega
    have hll2 : (bestL g r).length ≤ 1000 := by
      rw [hLV, (inv_all hs hr.many g.items.length (Nat.le_refl _)).len]
      have := hr.many
      omega
    have cB := fun W p A c h k => checkBreaks_any g p r A c (bestB g r) W h k
    have cL := fun W p A c h k => checkLabels_any g p r A c (bestL g r) W h k
    have cRB := fun A c W h k => rBreaks_any g a r A c (bestB g r) W h k hr hq
    have cRL := fun A c W h k => rLabels_any g a r A c (bestL g r) W h k hr hq
    have hP : cbP g r (bestB g r) = (bestC g r, 0) := by unfold cbP; rw [if_neg (by rw [hb]; decide), hcb]
    have hQ : clP g r (bestL g r) = (bestC g r, 0) := by unfold clP; rw [if_neg (by rw [hb]; decide), hLB]
    unfold pairGV at cB cL cRB cRL
    rw [hP] at cB; rw [hQ] at cL; rw [hcb] at cRB; rw [hLB] at cRL; rw [hE] at cBS; rw [hb] at cE
    have HLG : Hid ((lstTo (costR g r) g.items.length).getD g.items.length 0 = bestC g r) := Lib.hid hlst
    have hn200 := hr.many
    have hbl : (bestB g r).length ≤ 1000 := by omega
    generalize lstTo (costR g r) g.items.length = ll at *
    generalize bestB g r = B at *
    generalize bestL g r = L at *
    generalize bestC g r = C at *
    have i5 : ¬ C < 0 := by omega
    have CX := Lib.hid (fun A c W h => copyInts_any A c B W h (by omega))
    have CZ := Lib.hid (fun A c W h => copyInts_any A c L W h (by omega))
    simp only [GT.val, QT.val] at *
    have CS := Lib.hid cS; have CW := Lib.hid cW; have CBS := Lib.hid cBS; have CE := Lib.hid cE; have CRS := Lib.hid cRS
    have CB := Lib.hid cB; have CL := Lib.hid cL; have CRB := Lib.hid cRB; have CRL := Lib.hid cRL
    clear cS cW cBS cE hsh hg hl1 hl2
    clear hb hE hn0 hck hq hr hs cRS hlen hlst hfar hBK hLB hLV hCV hcb hfew hC0 cB cL cRB cRL hP hQ
    go_enter Tryz.func6, Tryz.ntmps6
    have HB := Lib.hid (BQ.start w #[.slice a.A g.items.length a.c, .slice a.B g.notes.length a.d] #[.int .i64 r.height, .int .i64 r.gap, .int .i64 r.widow, .int .i64 r.orphan])
    obtain ⟨g0, g1, gl0, ⟨q0, q1, q2, q3⟩, gl⟩ := HB.out.at
    go_upto_region 5 with (first | (go_at_call 9; refine Calls.mono (CA.out _ (HT.out.ext (by repeat first | exact xe0 _ | assumption | refine xea ?_ _ | refine xed ?_ | refine xet ?_ (by assumption)))) ?_; rintro e w1 ⟨rfl, hb⟩; have HB9 := Lib.hid (HB.out.next (Ext.trans (by repeat first | exact xe0 _ | assumption | refine xea ?_ _ | refine xed ?_ | refine xet ?_ (by assumption)) hb)); clear g0 g1 gl0 q0 q1 q2 q3 gl HB; have HB := HB9; clear HB9; obtain ⟨g0, g1, gl0, ⟨q0, q1, q2, q3⟩, gl⟩ := HB.out.at; (try (have q9 := Lib.hid (HLI.out.ext (Ext.trans (by repeat first | exact xe0 _ | assumption | refine xea ?_ _ | refine xed ?_ | refine xet ?_ (by assumption)) hb)); clear HLI; have HLI := q9; clear q9)); (try (have q9 := Lib.hid (HLM.out.ext (Ext.trans (by repeat first | exact xe0 _ | assumption | refine xea ?_ _ | refine xed ?_ | refine xet ?_ (by assumption)) hb)); clear HLM; have HLM := q9; clear q9)); clear hb) | (go_at_call 10; refine Calls.mono (CS.out _) ?_; rintro e w1 ⟨rfl, hb⟩; have HB9 := Lib.hid (HB.out.next (Ext.trans (by repeat first | exact xe0 _ | assumption | refine xea ?_ _ | refine xed ?_ | refine xet ?_ (by assumption)) hb)); clear g0 g1 gl0 q0 q1 q2 q3 gl HB; have HB := HB9; clear HB9; obtain ⟨g0, g1, gl0, ⟨q0, q1, q2, q3⟩, gl⟩ := HB.out.at; (try (have q9 := Lib.hid (HLI.out.ext (Ext.trans (by repeat first | exact xe0 _ | assumption | refine xea ?_ _ | refine xed ?_ | refine xet ?_ (by assumption)) hb)); clear HLI; have HLI := q9; clear q9)); (try (have q9 := Lib.hid (HLM.out.ext (Ext.trans (by repeat first | exact xe0 _ | assumption | refine xea ?_ _ | refine xed ?_ | refine xet ?_ (by assumption)) hb)); clear HLM; have HLM := q9; clear q9)); clear hb))
    go_cut [5, 6, 7, 8] from 25 to 33 (fun v5 v6 v7 v8 wx => ∃ LA lc MA mc, v5 = .slice LA B.length lc ∧ v6 = .slice MA L.length mc ∧ v7 = .int .i64 C ∧ v8 = .int .i64 0 ∧ Hid (RI wx LA B.length B) ∧ Hid (RI wx MA L.length L) ∧ Hid (BQ w #[.slice a.A g.items.length a.c, .slice a.B g.notes.length a.d] #[.int .i64 r.height, .int .i64 r.gap, .int .i64 r.widow, .int .i64 r.orphan] wx))
    case first =>
      go_region_held3 (fun W => (W.cell? ⟨w.heap.size, 0, none⟩ = some (.slice a.A g.items.length a.c) ∧ W.cell? ⟨w.heap.size, 1, none⟩ = some (.slice a.B g.notes.length a.d)) ∧ (W.cell? ⟨w.heap.size + 1, 0, none⟩ = some (.int .i64 r.height) ∧ W.cell? ⟨w.heap.size + 1, 1, none⟩ = some (.int .i64 r.gap) ∧ W.cell? ⟨w.heap.size + 1, 2, none⟩ = some (.int .i64 r.widow) ∧ W.cell? ⟨w.heap.size + 1, 3, none⟩ = some (.int .i64 r.orphan)) ∧ w.heap.size < W.heap.size ∧ w.heap.size + 1 < W.heap.size) (first | exact ⟨⟨g0, g1⟩, ⟨q0, q1, q2, q3⟩, gl0, gl⟩ | go_keep) (first | (go_at_call 12; refine Calls.mono (CW.out _ (HG.out.ext (HB.out.ext.trans (by repeat first | exact xe0 _ | assumption | refine xea ?_ _ | refine xed ?_ | refine xet ?_ (by assumption))))) ?_; rintro e w1 ⟨aa, rfl, hga, hb⟩; (try (have q9 := Lib.hid (HCI.out.ext (Ext.trans (by repeat first | exact xe0 _ | assumption | refine xea ?_ _ | refine xed ?_ | refine xet ?_ (by assumption)) hb)); clear HCI; have HCI := q9; clear q9)); have HB9 := Lib.hid (HB.out.next (Ext.trans (by repeat first | exact xe0 _ | assumption | refine xea ?_ _ | refine xed ?_ | refine xet ?_ (by assumption)) hb)); clear g0 g1 gl0 q0 q1 q2 q3 gl HB; have HB := HB9; clear HB9; obtain ⟨g0, g1, gl0, ⟨q0, q1, q2, q3⟩, gl⟩ := HB.out.at; (try (have q9 := Lib.hid (HLI.out.ext (Ext.trans (by repeat first | exact xe0 _ | assumption | refine xea ?_ _ | refine xed ?_ | refine xet ?_ (by assumption)) hb)); clear HLI; have HLI := q9; clear q9)); (try (have q9 := Lib.hid (HLM.out.ext (Ext.trans (by repeat first | exact xe0 _ | assumption | refine xea ?_ _ | refine xed ?_ | refine xet ?_ (by assumption)) hb)); clear HLM; have HLM := q9; clear q9)); have HGA := Lib.hid hga; clear hga hb) | (go_at_call 38; refine Calls.mono (CBS.out _ _ (HGA.out.ext (by repeat first | exact xe0 _ | assumption | refine xea ?_ _ | refine xed ?_ | refine xet ?_ (by assumption)))) ?_; rintro e w2 ⟨LA, lc, MA, mc, rfl, hri, hrm, _, _, hb⟩; have HLI0 := Lib.hid hri; have HLM0 := Lib.hid hrm; have HB9 := Lib.hid (HB.out.next (Ext.trans (by repeat first | exact xe0 _ | assumption | refine xea ?_ _ | refine xed ?_ | refine xet ?_ (by assumption)) hb)); clear g0 g1 gl0 q0 q1 q2 q3 gl HB; have HB := HB9; clear HB9; obtain ⟨g0, g1, gl0, ⟨q0, q1, q2, q3⟩, gl⟩ := HB.out.at; (try (have q9 := Lib.hid (HLI.out.ext (Ext.trans (by repeat first | exact xe0 _ | assumption | refine xea ?_ _ | refine xed ?_ | refine xet ?_ (by assumption)) hb)); clear HLI; have HLI := q9; clear q9)); (try (have q9 := Lib.hid (HLM.out.ext (Ext.trans (by repeat first | exact xe0 _ | assumption | refine xea ?_ _ | refine xed ?_ | refine xet ?_ (by assumption)) hb)); clear HLM; have HLM := q9; clear q9)); have HLI := HLI0; have HLM := HLM0; clear hri hrm hb))
      all_goals
        go_wp2_with fail
        go_meet
        case rel => exact ⟨LA, lc, MA, mc, rfl, rfl, rfl, rfl, Lib.hid (HLI.out.ext (by repeat first | exact xe0 _ | assumption | refine xea ?_ _ | refine xed ?_ | refine xet ?_ (by assumption))), Lib.hid (HLM.out.ext (by repeat first | exact xe0 _ | assumption | refine xea ?_ _ | refine xed ?_ | refine xet ?_ (by assumption))), Lib.hid (HB.out.next (by repeat first | exact xe0 _ | assumption | refine xea ?_ _ | refine xed ?_ | refine xet ?_ (by assumption)))⟩
    case rest =>
    obtain ⟨LA, lc, MA, mc, rfl, rfl, rfl, rfl, HLI, HLM, HB2⟩ := hcut
    clear g0 g1 gl0 q0 q1 q2 q3 gl
    clear HB
    have HB := HB2; clear HB2
    obtain ⟨g0, g1, gl0, ⟨q0, q1, q2, q3⟩, gl⟩ := HB.out.at
    go_upto_region 19 with (first | (go_at_call 16; refine Calls.mono (CE.out _ (HG.out.ext (HB.out.ext.trans (by repeat first | exact xe0 _ | assumption | refine xea ?_ _ | refine xed ?_ | refine xet ?_ (by assumption))))) ?_; rintro e w1 ⟨rfl, hb⟩; have HB9 := Lib.hid (HB.out.next (Ext.trans (by repeat first | exact xe0 _ | assumption | refine xea ?_ _ | refine xed ?_ | refine xet ?_ (by assumption)) hb)); clear g0 g1 gl0 q0 q1 q2 q3 gl HB; have HB := HB9; clear HB9; obtain ⟨g0, g1, gl0, ⟨q0, q1, q2, q3⟩, gl⟩ := HB.out.at; (try (have q9 := Lib.hid (HLI.out.ext (Ext.trans (by repeat first | exact xe0 _ | assumption | refine xea ?_ _ | refine xed ?_ | refine xet ?_ (by assumption)) hb)); clear HLI; have HLI := q9; clear q9)); (try (have q9 := Lib.hid (HLM.out.ext (Ext.trans (by repeat first | exact xe0 _ | assumption | refine xea ?_ _ | refine xed ?_ | refine xet ?_ (by assumption)) hb)); clear HLM; have HLM := q9; clear q9)); clear hb) | (go_at_call 39; refine Calls.mono (CRS.out _ (HG.out.ext (HB.out.ext.trans (by repeat first | exact xe0 _ | assumption | refine xea ?_ _ | refine xed ?_ | refine xet ?_ (by assumption))))) ?_; rintro e w1 ⟨RA, rc, rfl, hsl, hb⟩; obtain ⟨rb, ro, rfl, hrb, hrc⟩ := hsl.ri.2.2 HLP.out.1; have hlast := hrc _ HLP.out.2; rw [HLG.out] at hlast; have HB9 := Lib.hid (HB.out.next (Ext.trans (by repeat first | exact xe0 _ | assumption | refine xea ?_ _ | refine xed ?_ | refine xet ?_ (by assumption)) hb)); clear g0 g1 gl0 q0 q1 q2 q3 gl HB; have HB := HB9; clear HB9; obtain ⟨g0, g1, gl0, ⟨q0, q1, q2, q3⟩, gl⟩ := HB.out.at; (try (have q9 := Lib.hid (HLI.out.ext (Ext.trans (by repeat first | exact xe0 _ | assumption | refine xea ?_ _ | refine xed ?_ | refine xet ?_ (by assumption)) hb)); clear HLI; have HLI := q9; clear q9)); (try (have q9 := Lib.hid (HLM.out.ext (Ext.trans (by repeat first | exact xe0 _ | assumption | refine xea ?_ _ | refine xed ?_ | refine xet ?_ (by assumption)) hb)); clear HLM; have HLM := q9; clear q9)); clear hrc hsl hb) | (go_at_call 40; refine Calls.mono (CRB.out _ _ _ (HG.out.ext (HB.out.ext.trans (by repeat first | exact xe0 _ | assumption | refine xea ?_ _ | refine xed ?_ | refine xet ?_ (by assumption)))) (HLI.out.ext (by repeat first | exact xe0 _ | assumption | refine xea ?_ _ | refine xed ?_ | refine xet ?_ (by assumption)))) ?_; rintro e w1 ⟨rfl, hb⟩; have HB9 := Lib.hid (HB.out.next (Ext.trans (by repeat first | exact xe0 _ | assumption | refine xea ?_ _ | refine xed ?_ | refine xet ?_ (by assumption)) hb)); clear g0 g1 gl0 q0 q1 q2 q3 gl HB; have HB := HB9; clear HB9; obtain ⟨g0, g1, gl0, ⟨q0, q1, q2, q3⟩, gl⟩ := HB.out.at; (try (have q9 := Lib.hid (HLI.out.ext (Ext.trans (by repeat first | exact xe0 _ | assumption | refine xea ?_ _ | refine xed ?_ | refine xet ?_ (by assumption)) hb)); clear HLI; have HLI := q9; clear q9)); (try (have q9 := Lib.hid (HLM.out.ext (Ext.trans (by repeat first | exact xe0 _ | assumption | refine xea ?_ _ | refine xed ?_ | refine xet ?_ (by assumption)) hb)); clear HLM; have HLM := q9; clear q9)); clear hb) | (go_at_call 41; refine Calls.mono (CRL.out _ _ _ (HG.out.ext (HB.out.ext.trans (by repeat first | exact xe0 _ | assumption | refine xea ?_ _ | refine xed ?_ | refine xet ?_ (by assumption)))) (HLM.out.ext (by repeat first | exact xe0 _ | assumption | refine xea ?_ _ | refine xed ?_ | refine xet ?_ (by assumption)))) ?_; rintro e w1 ⟨rfl, hb⟩; have HB9 := Lib.hid (HB.out.next (Ext.trans (by repeat first | exact xe0 _ | assumption | refine xea ?_ _ | refine xed ?_ | refine xet ?_ (by assumption)) hb)); clear g0 g1 gl0 q0 q1 q2 q3 gl HB; have HB := HB9; clear HB9; obtain ⟨g0, g1, gl0, ⟨q0, q1, q2, q3⟩, gl⟩ := HB.out.at; (try (have q9 := Lib.hid (HLI.out.ext (Ext.trans (by repeat first | exact xe0 _ | assumption | refine xea ?_ _ | refine xed ?_ | refine xet ?_ (by assumption)) hb)); clear HLI; have HLI := q9; clear q9)); (try (have q9 := Lib.hid (HLM.out.ext (Ext.trans (by repeat first | exact xe0 _ | assumption | refine xea ?_ _ | refine xed ?_ | refine xet ?_ (by assumption)) hb)); clear HLM; have HLM := q9; clear q9)); clear hb))
    (try clear hlast)
    go_cut [16, 17] from 89 to 97 (fun va vb wx => va = .int .i64 C ∧ vb = .int .i64 0 ∧ Hid (RI wx LA B.length B) ∧ Hid (RI wx MA L.length L) ∧ Hid (BQ w #[.slice a.A g.items.length a.c, .slice a.B g.notes.length a.d] #[.int .i64 r.height, .int .i64 r.gap, .int .i64 r.widow, .int .i64 r.orphan] wx))
    case first =>
      go_region_held3 (fun W => (W.cell? ⟨w.heap.size, 0, none⟩ = some (.slice a.A g.items.length a.c) ∧ W.cell? ⟨w.heap.size, 1, none⟩ = some (.slice a.B g.notes.length a.d)) ∧ (W.cell? ⟨w.heap.size + 1, 0, none⟩ = some (.int .i64 r.height) ∧ W.cell? ⟨w.heap.size + 1, 1, none⟩ = some (.int .i64 r.gap) ∧ W.cell? ⟨w.heap.size + 1, 2, none⟩ = some (.int .i64 r.widow) ∧ W.cell? ⟨w.heap.size + 1, 3, none⟩ = some (.int .i64 r.orphan)) ∧ w.heap.size < W.heap.size ∧ w.heap.size + 1 < W.heap.size) (first | exact ⟨⟨g0, g1⟩, ⟨q0, q1, q2, q3⟩, gl0, gl⟩ | go_keep) (first | (go_at_call 12; refine Calls.mono (CW.out _ (HG.out.ext (HB.out.ext.trans (by repeat first | exact xe0 _ | assumption | refine xea ?_ _ | refine xed ?_ | refine xet ?_ (by assumption))))) ?_; rintro e w1 ⟨aa, rfl, hga, hb⟩; (try (have q9 := Lib.hid (HCI.out.ext (Ext.trans (by repeat first | exact xe0 _ | assumption | refine xea ?_ _ | refine xed ?_ | refine xet ?_ (by assumption)) hb)); clear HCI; have HCI := q9; clear q9)); have HB9 := Lib.hid (HB.out.next (Ext.trans (by repeat first | exact xe0 _ | assumption | refine xea ?_ _ | refine xed ?_ | refine xet ?_ (by assumption)) hb)); clear g0 g1 gl0 q0 q1 q2 q3 gl HB; have HB := HB9; clear HB9; obtain ⟨g0, g1, gl0, ⟨q0, q1, q2, q3⟩, gl⟩ := HB.out.at; (try (have q9 := Lib.hid (HLI.out.ext (Ext.trans (by repeat first | exact xe0 _ | assumption | refine xea ?_ _ | refine xed ?_ | refine xet ?_ (by assumption)) hb)); clear HLI; have HLI := q9; clear q9)); (try (have q9 := Lib.hid (HLM.out.ext (Ext.trans (by repeat first | exact xe0 _ | assumption | refine xea ?_ _ | refine xed ?_ | refine xet ?_ (by assumption)) hb)); clear HLM; have HLM := q9; clear q9)); have HGA := Lib.hid hga; clear hga hb) | (go_at_call 27; refine Calls.mono (CX.out _ _ _ ((HLI.out.ext (by repeat first | exact xe0 _ | assumption | refine xea ?_ _ | refine xed ?_ | refine xet ?_ (by assumption))))) ?_; rintro e w1 ⟨IA, ic, rfl, hsl, hb⟩; (try (have q9 := Lib.hid (HGA.out.ext (Ext.trans (by repeat first | exact xe0 _ | assumption | refine xea ?_ _ | refine xed ?_ | refine xet ?_ (by assumption)) hb)); clear HGA; have HGA := q9; clear q9)); have HB9 := Lib.hid (HB.out.next (Ext.trans (by repeat first | exact xe0 _ | assumption | refine xea ?_ _ | refine xed ?_ | refine xet ?_ (by assumption)) hb)); clear g0 g1 gl0 q0 q1 q2 q3 gl HB; have HB := HB9; clear HB9; obtain ⟨g0, g1, gl0, ⟨q0, q1, q2, q3⟩, gl⟩ := HB.out.at; (try (have q9 := Lib.hid (HLI.out.ext (Ext.trans (by repeat first | exact xe0 _ | assumption | refine xea ?_ _ | refine xed ?_ | refine xet ?_ (by assumption)) hb)); clear HLI; have HLI := q9; clear q9)); (try (have q9 := Lib.hid (HLM.out.ext (Ext.trans (by repeat first | exact xe0 _ | assumption | refine xea ?_ _ | refine xed ?_ | refine xet ?_ (by assumption)) hb)); clear HLM; have HLM := q9; clear q9)); have HCI := Lib.hid hsl.ri; clear hsl hb) | (go_at_call 42; refine Calls.mono (CB.out _ _ _ _ (HGA.out.ext (by repeat first | exact xe0 _ | assumption | refine xea ?_ _ | refine xed ?_ | refine xet ?_ (by assumption))) (HCI.out.ext (by repeat first | exact xe0 _ | assumption | refine xea ?_ _ | refine xed ?_ | refine xet ?_ (by assumption)))) ?_; rintro e w2 ⟨rfl, hb⟩; have HB9 := Lib.hid (HB.out.next (Ext.trans (by repeat first | exact xe0 _ | assumption | refine xea ?_ _ | refine xed ?_ | refine xet ?_ (by assumption)) hb)); clear g0 g1 gl0 q0 q1 q2 q3 gl HB; have HB := HB9; clear HB9; obtain ⟨g0, g1, gl0, ⟨q0, q1, q2, q3⟩, gl⟩ := HB.out.at; (try (have q9 := Lib.hid (HLI.out.ext (Ext.trans (by repeat first | exact xe0 _ | assumption | refine xea ?_ _ | refine xed ?_ | refine xet ?_ (by assumption)) hb)); clear HLI; have HLI := q9; clear q9)); (try (have q9 := Lib.hid (HLM.out.ext (Ext.trans (by repeat first | exact xe0 _ | assumption | refine xea ?_ _ | refine xed ?_ | refine xet ?_ (by assumption)) hb)); clear HLM; have HLM := q9; clear q9)); clear hb))
      all_goals
        go_wp2_with fail
        go_meet
        case rel => exact ⟨rfl, rfl, Lib.hid (HLI.out.ext (by repeat first | exact xe0 _ | assumption | refine xea ?_ _ | refine xed ?_ | refine xet ?_ (by assumption))), Lib.hid (HLM.out.ext (by repeat first | exact xe0 _ | assumption | refine xea ?_ _ | refine xed ?_ | refine xet ?_ (by assumption))), Lib.hid (HB.out.next (by repeat first | exact xe0 _ | assumption | refine xea ?_ _ | refine xed ?_ | refine xet ?_ (by assumption)))⟩
    case rest =>
    obtain ⟨rfl, rfl, HLI2, HLM2, HB2⟩ := hcut
    clear g0 g1 gl0 q0 q1 q2 q3 gl
    clear HB HLI HLM
    have HB := HB2; clear HB2
    have HLI := HLI2; clear HLI2
    have HLM := HLM2; clear HLM2
    obtain ⟨g0, g1, gl0, ⟨q0, q1, q2, q3⟩, gl⟩ := HB.out.at
    go_upto_region 20 with fail
    go_cut [18, 19] from 98 to 106 (fun va vb wx => va = .int .i64 C ∧ vb = .int .i64 0 ∧ Hid (RI wx LA B.length B) ∧ Hid (RI wx MA L.length L) ∧ Hid (BQ w #[.slice a.A g.items.length a.c, .slice a.B g.notes.length a.d] #[.int .i64 r.height, .int .i64 r.gap, .int .i64 r.widow, .int .i64 r.orphan] wx))
    case first =>
      go_region_held3 (fun W => (W.cell? ⟨w.heap.size, 0, none⟩ = some (.slice a.A g.items.length a.c) ∧ W.cell? ⟨w.heap.size, 1, none⟩ = some (.slice a.B g.notes.length a.d)) ∧ (W.cell? ⟨w.heap.size + 1, 0, none⟩ = some (.int .i64 r.height) ∧ W.cell? ⟨w.heap.size + 1, 1, none⟩ = some (.int .i64 r.gap) ∧ W.cell? ⟨w.heap.size + 1, 2, none⟩ = some (.int .i64 r.widow) ∧ W.cell? ⟨w.heap.size + 1, 3, none⟩ = some (.int .i64 r.orphan)) ∧ w.heap.size < W.heap.size ∧ w.heap.size + 1 < W.heap.size) (first | exact ⟨⟨g0, g1⟩, ⟨q0, q1, q2, q3⟩, gl0, gl⟩ | go_keep) (first | (go_at_call 12; refine Calls.mono (CW.out _ (HG.out.ext (HB.out.ext.trans (by repeat first | exact xe0 _ | assumption | refine xea ?_ _ | refine xed ?_ | refine xet ?_ (by assumption))))) ?_; rintro e w1 ⟨aa, rfl, hga, hb⟩; (try (have q9 := Lib.hid (HCI.out.ext (Ext.trans (by repeat first | exact xe0 _ | assumption | refine xea ?_ _ | refine xed ?_ | refine xet ?_ (by assumption)) hb)); clear HCI; have HCI := q9; clear q9)); have HB9 := Lib.hid (HB.out.next (Ext.trans (by repeat first | exact xe0 _ | assumption | refine xea ?_ _ | refine xed ?_ | refine xet ?_ (by assumption)) hb)); clear g0 g1 gl0 q0 q1 q2 q3 gl HB; have HB := HB9; clear HB9; obtain ⟨g0, g1, gl0, ⟨q0, q1, q2, q3⟩, gl⟩ := HB.out.at; (try (have q9 := Lib.hid (HLI.out.ext (Ext.trans (by repeat first | exact xe0 _ | assumption | refine xea ?_ _ | refine xed ?_ | refine xet ?_ (by assumption)) hb)); clear HLI; have HLI := q9; clear q9)); (try (have q9 := Lib.hid (HLM.out.ext (Ext.trans (by repeat first | exact xe0 _ | assumption | refine xea ?_ _ | refine xed ?_ | refine xet ?_ (by assumption)) hb)); clear HLM; have HLM := q9; clear q9)); have HGA := Lib.hid hga; clear hga hb) | (go_at_call 27; refine Calls.mono (CZ.out _ _ _ ((HLM.out.ext (by repeat first | exact xe0 _ | assumption | refine xea ?_ _ | refine xed ?_ | refine xet ?_ (by assumption))))) ?_; rintro e w1 ⟨IA, ic, rfl, hsl, hb⟩; (try (have q9 := Lib.hid (HGA.out.ext (Ext.trans (by repeat first | exact xe0 _ | assumption | refine xea ?_ _ | refine xed ?_ | refine xet ?_ (by assumption)) hb)); clear HGA; have HGA := q9; clear q9)); have HB9 := Lib.hid (HB.out.next (Ext.trans (by repeat first | exact xe0 _ | assumption | refine xea ?_ _ | refine xed ?_ | refine xet ?_ (by assumption)) hb)); clear g0 g1 gl0 q0 q1 q2 q3 gl HB; have HB := HB9; clear HB9; obtain ⟨g0, g1, gl0, ⟨q0, q1, q2, q3⟩, gl⟩ := HB.out.at; (try (have q9 := Lib.hid (HLI.out.ext (Ext.trans (by repeat first | exact xe0 _ | assumption | refine xea ?_ _ | refine xed ?_ | refine xet ?_ (by assumption)) hb)); clear HLI; have HLI := q9; clear q9)); (try (have q9 := Lib.hid (HLM.out.ext (Ext.trans (by repeat first | exact xe0 _ | assumption | refine xea ?_ _ | refine xed ?_ | refine xet ?_ (by assumption)) hb)); clear HLM; have HLM := q9; clear q9)); have HCI := Lib.hid hsl.ri; clear hsl hb) | (go_at_call 43; refine Calls.mono (CL.out _ _ _ _ (HGA.out.ext (by repeat first | exact xe0 _ | assumption | refine xea ?_ _ | refine xed ?_ | refine xet ?_ (by assumption))) (HCI.out.ext (by repeat first | exact xe0 _ | assumption | refine xea ?_ _ | refine xed ?_ | refine xet ?_ (by assumption)))) ?_; rintro e w2 ⟨rfl, hb⟩; have HB9 := Lib.hid (HB.out.next (Ext.trans (by repeat first | exact xe0 _ | assumption | refine xea ?_ _ | refine xed ?_ | refine xet ?_ (by assumption)) hb)); clear g0 g1 gl0 q0 q1 q2 q3 gl HB; have HB := HB9; clear HB9; obtain ⟨g0, g1, gl0, ⟨q0, q1, q2, q3⟩, gl⟩ := HB.out.at; (try (have q9 := Lib.hid (HLI.out.ext (Ext.trans (by repeat first | exact xe0 _ | assumption | refine xea ?_ _ | refine xed ?_ | refine xet ?_ (by assumption)) hb)); clear HLI; have HLI := q9; clear q9)); (try (have q9 := Lib.hid (HLM.out.ext (Ext.trans (by repeat first | exact xe0 _ | assumption | refine xea ?_ _ | refine xed ?_ | refine xet ?_ (by assumption)) hb)); clear HLM; have HLM := q9; clear q9)); clear hb))
      all_goals
        go_wp2_with fail
        go_meet
        case rel => exact ⟨rfl, rfl, Lib.hid (HLI.out.ext (by repeat first | exact xe0 _ | assumption | refine xea ?_ _ | refine xed ?_ | refine xet ?_ (by assumption))), Lib.hid (HLM.out.ext (by repeat first | exact xe0 _ | assumption | refine xea ?_ _ | refine xed ?_ | refine xet ?_ (by assumption))), Lib.hid (HB.out.next (by repeat first | exact xe0 _ | assumption | refine xea ?_ _ | refine xed ?_ | refine xet ?_ (by assumption)))⟩
    case rest =>
    obtain ⟨rfl, rfl, HLI2, HLM2, HB2⟩ := hcut
    clear g0 g1 gl0 q0 q1 q2 q3 gl
    clear HB HLI HLM
    have HB := HB2; clear HB2
    have HLI := HLI2; clear HLI2
    have HLM := HLM2; clear HLM2
    obtain ⟨g0, g1, gl0, ⟨q0, q1, q2, q3⟩, gl⟩ := HB.out.at
    go_wp2
    go_ret
    exact Ret.mk' rfl (HB.out.ext.trans (by repeat first | exact xe0 _ | assumption | refine xea ?_ _ | refine xed ?_ | refine xet ?_ (by assumption)))
end Go.Proofs.YtpkmapngdkkglaaGreatDoor.bests
