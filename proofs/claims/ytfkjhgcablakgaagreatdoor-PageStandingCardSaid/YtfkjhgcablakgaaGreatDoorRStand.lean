/-
  Walks: the reference's error of a stand.
-/
import Derived.Test.YtfkjhgcablakgaaGreatDoorStMem
import Derived.Test.YtfkjhgcablakgaaGreatDoorGB
import Derived.Test.YtfkjhgcablakgaaGreatDoorGD
namespace Go.Proofs.YtfkjhgcablakgaaGreatDoor
open Go.RowKit
attribute [local go_sem ↓] Go.wp_at_zero Go.wp_at_succ

set_option maxRecDepth 100000 in
set_option maxHeartbeats 8000000 in
theorem rStandErr_any (f : FT) (A : Option Addr) (c : Nat) (s : ST) (w : World) (hf : FR w A c f) (hs : SR w s) :
    Calls Tryz.prog 22 #[f.val A c, s.val] w (Ret (.int .i64 (standE f s.cs s.zs)) w) := by
  have hbig := hs.rn.2.1
  have cC := fun X e zs W h1 h2 => rCheckCase_any f A c X e zs W h1 h2
  have HF := Lib.hid hf; have HRC := Lib.hid hs.rc; have HRN := Lib.hid hs.rn
  have HE1 := Lib.hid (stE1 (f := f) (s := s))
  have HE2 := Lib.hid (stE2 (f := f) (s := s))
  have HE3 := Lib.hid (fun h h2 k => stE3 (f := f) (s := s) h h2 (k := k))
  have HE4 := Lib.hid (stE4 (f := f) (s := s))
  clear hf hs
  generalize standE f s.cs s.zs = E at *
  obtain ⟨B, d, cs, D, e, ns⟩ := s
  simp only [ST.val] at *
  have cC1 := fun W h1 h2 => cC B d cs W h1 h2
  by_cases h1 : caseErr f cs = 0
  case neg =>
    have hE := HE1.out h1
    have e0 : (caseErr f cs != 0) = true := by simpa using h1
    clear HE1 HE2 HE3 HE4 cC h1
    subst hE
    generalize caseErr f cs = z at *
    obtain ⟨name, body, ss⟩ := f
    simp only [FT.val] at *
    have CC := Lib.hid cC1; clear cC1
    go_enter Tryz.func22, Tryz.ntmps22
    obtain ⟨wq, hwq⟩ : ∃ wq, (w.alloc (.cells #[.string name, .int .i64 body, .slice A ss.length c] 24)).alloc (.cells #[.slice B cs.length d, .slice D ns.length e] 45) = wq := ⟨_, rfl⟩
    have HB : Hid (Blk wq w.heap.size 24 #[.string name, .int .i64 body, .slice A ss.length c]) := Lib.hid (by rw [← hwq]; exact (Blk.new w _ _).alloc _)
    have HS : Hid (Blk wq (w.heap.size + 1) 45 #[.slice B cs.length d, .slice D ns.length e]) := Lib.hid (by rw [← hwq]; exact Blk.new1 w _ _ _)
    have HX : Hid (Ext w wq) := Lib.hid (by rw [← hwq]; exact (by repeat first | exact yx0 _ | assumption | refine yxa ?_ _ | refine yxd ?_ | refine yxn ?_ _ | refine yxs ?_ (by simp <;> omega) _ | refine yxt ?_ (by assumption)))
    go_upto_region 1 with fail
    (try rw [hwq])
    clear hwq
    obtain ⟨k0, k1, k2, kl⟩ := HB.out.c3; obtain ⟨m0, m1, _, _, ml⟩ := HS.out.c2
    go_wp2_with (first | (go_at_call 33; refine Calls.mono (CC.out _ (HF.out.ext (HX.out.trans (by repeat first | exact yx0 _ | assumption | refine yxa ?_ _ | refine yxd ?_ | refine yxn ?_ _ | refine yxs ?_ (by simp <;> omega) _ | refine yxt ?_ (by assumption)))) (HRC.out.ext (HX.out.trans (by repeat first | exact yx0 _ | assumption | refine yxa ?_ _ | refine yxd ?_ | refine yxn ?_ _ | refine yxs ?_ (by simp <;> omega) _ | refine yxt ?_ (by assumption))))) ?_; rintro e9 w1 ⟨rfl, hb⟩; have HB9 := Lib.hid (HB.out.ext (Ext.trans (by repeat first | exact yx0 _ | assumption | refine yxa ?_ _ | refine yxd ?_ | refine yxn ?_ _ | refine yxs ?_ (by simp <;> omega) _ | refine yxt ?_ (by assumption)) hb)); have HS9 := Lib.hid (HS.out.ext (Ext.trans (by repeat first | exact yx0 _ | assumption | refine yxa ?_ _ | refine yxd ?_ | refine yxn ?_ _ | refine yxs ?_ (by simp <;> omega) _ | refine yxt ?_ (by assumption)) hb)); have HX9 := Lib.hid (HX.out.trans (Ext.trans (by repeat first | exact yx0 _ | assumption | refine yxa ?_ _ | refine yxd ?_ | refine yxn ?_ _ | refine yxs ?_ (by simp <;> omega) _ | refine yxt ?_ (by assumption)) hb)); clear k0 k1 k2 kl m0 m1 ml HB HS HX; have HB := HB9; have HS := HS9; have HX := HX9; clear HB9 HS9 HX9; obtain ⟨k0, k1, k2, kl⟩ := HB.out.c3; obtain ⟨m0, m1, _, _, ml⟩ := HS.out.c2; clear hb))
    go_ret
    exact Ret.mk' rfl (HX.out.trans (by repeat first | exact yx0 _ | assumption | refine yxa ?_ _ | refine yxd ?_ | refine yxn ?_ _ | refine yxs ?_ (by simp <;> omega) _ | refine yxt ?_ (by assumption)))
  case pos =>
  rw [h1] at cC1
  by_cases h2 : 12 < ns.length
  case pos =>
    have hE := HE2.out h1 h2
    have i2 : (12 : Int) < (ns.length : Int) := by omega
    clear HE1 HE2 HE3 HE4 cC h1 h2
    subst hE
    obtain ⟨name, body, ss⟩ := f
    simp only [FT.val] at *
    have CC := Lib.hid cC1; clear cC1
    go_enter Tryz.func22, Tryz.ntmps22
    obtain ⟨wq, hwq⟩ : ∃ wq, (w.alloc (.cells #[.string name, .int .i64 body, .slice A ss.length c] 24)).alloc (.cells #[.slice B cs.length d, .slice D ns.length e] 45) = wq := ⟨_, rfl⟩
    have HB : Hid (Blk wq w.heap.size 24 #[.string name, .int .i64 body, .slice A ss.length c]) := Lib.hid (by rw [← hwq]; exact (Blk.new w _ _).alloc _)
    have HS : Hid (Blk wq (w.heap.size + 1) 45 #[.slice B cs.length d, .slice D ns.length e]) := Lib.hid (by rw [← hwq]; exact Blk.new1 w _ _ _)
    have HX : Hid (Ext w wq) := Lib.hid (by rw [← hwq]; exact (by repeat first | exact yx0 _ | assumption | refine yxa ?_ _ | refine yxd ?_ | refine yxn ?_ _ | refine yxs ?_ (by simp <;> omega) _ | refine yxt ?_ (by assumption)))
    go_upto_region 1 with fail
    (try rw [hwq])
    clear hwq
    obtain ⟨k0, k1, k2, kl⟩ := HB.out.c3; obtain ⟨m0, m1, _, _, ml⟩ := HS.out.c2
    go_wp2_with (first | (go_at_call 33; refine Calls.mono (CC.out _ (HF.out.ext (HX.out.trans (by repeat first | exact yx0 _ | assumption | refine yxa ?_ _ | refine yxd ?_ | refine yxn ?_ _ | refine yxs ?_ (by simp <;> omega) _ | refine yxt ?_ (by assumption)))) (HRC.out.ext (HX.out.trans (by repeat first | exact yx0 _ | assumption | refine yxa ?_ _ | refine yxd ?_ | refine yxn ?_ _ | refine yxs ?_ (by simp <;> omega) _ | refine yxt ?_ (by assumption))))) ?_; rintro e9 w1 ⟨rfl, hb⟩; have HB9 := Lib.hid (HB.out.ext (Ext.trans (by repeat first | exact yx0 _ | assumption | refine yxa ?_ _ | refine yxd ?_ | refine yxn ?_ _ | refine yxs ?_ (by simp <;> omega) _ | refine yxt ?_ (by assumption)) hb)); have HS9 := Lib.hid (HS.out.ext (Ext.trans (by repeat first | exact yx0 _ | assumption | refine yxa ?_ _ | refine yxd ?_ | refine yxn ?_ _ | refine yxs ?_ (by simp <;> omega) _ | refine yxt ?_ (by assumption)) hb)); have HX9 := Lib.hid (HX.out.trans (Ext.trans (by repeat first | exact yx0 _ | assumption | refine yxa ?_ _ | refine yxd ?_ | refine yxn ?_ _ | refine yxs ?_ (by simp <;> omega) _ | refine yxt ?_ (by assumption)) hb)); clear k0 k1 k2 kl m0 m1 ml HB HS HX; have HB := HB9; have HS := HS9; have HX := HX9; clear HB9 HS9 HX9; obtain ⟨k0, k1, k2, kl⟩ := HB.out.c3; obtain ⟨m0, m1, _, _, ml⟩ := HS.out.c2; clear hb))
    go_ret
    exact Ret.mk' rfl (HX.out.trans (by repeat first | exact yx0 _ | assumption | refine yxa ?_ _ | refine yxd ?_ | refine yxn ?_ _ | refine yxs ?_ (by simp <;> omega) _ | refine yxt ?_ (by assumption)))
  case neg =>
  have i2 : ¬ (12 : Int) < (ns.length : Int) := by omega
  have HH := Lib.hid (fun k h0 hk hb => HE3.out h1 h2 k h0 hk hb)
  have HZ := Lib.hid (fun h0 => HE4.out h1 h2 h0)
  clear HE1 HE2 HE3 HE4 h1 h2
  obtain ⟨name, body, ss⟩ := f
  simp only [FT.val] at *
  have CC := Lib.hid cC1; have CR := Lib.hid cC
  clear cC1 cC
  go_enter Tryz.func22, Tryz.ntmps22
  obtain ⟨wq, hwq⟩ : ∃ wq, (w.alloc (.cells #[.string name, .int .i64 body, .slice A ss.length c] 24)).alloc (.cells #[.slice B cs.length d, .slice D ns.length e] 45) = wq := ⟨_, rfl⟩
  have HB : Hid (Blk wq w.heap.size 24 #[.string name, .int .i64 body, .slice A ss.length c]) := Lib.hid (by rw [← hwq]; exact (Blk.new w _ _).alloc _)
  have HS : Hid (Blk wq (w.heap.size + 1) 45 #[.slice B cs.length d, .slice D ns.length e]) := Lib.hid (by rw [← hwq]; exact Blk.new1 w _ _ _)
  have HX : Hid (Ext w wq) := Lib.hid (by rw [← hwq]; exact (by repeat first | exact yx0 _ | assumption | refine yxa ?_ _ | refine yxd ?_ | refine yxn ?_ _ | refine yxs ?_ (by simp <;> omega) _ | refine yxt ?_ (by assumption)))
  go_upto_region 1 with fail
  (try rw [hwq])
  clear hwq
  obtain ⟨k0, k1, k2, kl⟩ := HB.out.c3; obtain ⟨m0, m1, _, _, ml⟩ := HS.out.c2
  go_wp2_with (first | (go_at_call 33; refine Calls.mono (CC.out _ (HF.out.ext (HX.out.trans (by repeat first | exact yx0 _ | assumption | refine yxa ?_ _ | refine yxd ?_ | refine yxn ?_ _ | refine yxs ?_ (by simp <;> omega) _ | refine yxt ?_ (by assumption)))) (HRC.out.ext (HX.out.trans (by repeat first | exact yx0 _ | assumption | refine yxa ?_ _ | refine yxd ?_ | refine yxn ?_ _ | refine yxs ?_ (by simp <;> omega) _ | refine yxt ?_ (by assumption))))) ?_; rintro e9 w1 ⟨rfl, hb⟩; have HB9 := Lib.hid (HB.out.ext (Ext.trans (by repeat first | exact yx0 _ | assumption | refine yxa ?_ _ | refine yxd ?_ | refine yxn ?_ _ | refine yxs ?_ (by simp <;> omega) _ | refine yxt ?_ (by assumption)) hb)); have HS9 := Lib.hid (HS.out.ext (Ext.trans (by repeat first | exact yx0 _ | assumption | refine yxa ?_ _ | refine yxd ?_ | refine yxn ?_ _ | refine yxs ?_ (by simp <;> omega) _ | refine yxt ?_ (by assumption)) hb)); have HX9 := Lib.hid (HX.out.trans (Ext.trans (by repeat first | exact yx0 _ | assumption | refine yxa ?_ _ | refine yxd ?_ | refine yxn ?_ _ | refine yxs ?_ (by simp <;> omega) _ | refine yxt ?_ (by assumption)) hb)); clear k0 k1 k2 kl m0 m1 ml HB HS HX; have HB := HB9; have HS := HS9; have HX := HX9; clear HB9 HS9 HX9; obtain ⟨k0, k1, k2, kl⟩ := HB.out.c3; obtain ⟨m0, m1, _, _, ml⟩ := HS.out.c2; clear hb))
  have HB1 := HB; have HS1 := HS; have HX1 := HX
  clear k0 k1 k2 kl m0 m1 ml HB HS HX
  go_loopw [6] (fun j wr => ∃ k : Nat, k ≤ ns.length ∧ j = .int .i64 (k : Int) ∧ Hid (∀ j, j < k → caseErr ⟨name, body, ss⟩ (ns.getD j SI.none_).zs = 0) ∧ Hid (Blk wr w.heap.size 24 #[.string name, .int .i64 body, .slice A ss.length c]) ∧ Hid (Blk wr (w.heap.size + 1) 45 #[.slice B cs.length d, .slice D ns.length e]) ∧ Hid (Ext w wr)) (fun j _ => ns.length - (intOf j).toNat)
  case atStart => exact ⟨0, Nat.zero_le _, rfl, Lib.hid (fun j hj => absurd hj (by omega)), HB1, HS1, HX1⟩
  case round =>
    obtain ⟨k, hk, rfl, H0, HB, HS, HX⟩ := hrel
    clear HB1 HS1 HX1
    obtain ⟨k0, k1, k2, kl⟩ := HB.out.c3; obtain ⟨m0, m1, _, _, ml⟩ := HS.out.c2
    by_cases hlt : k < ns.length
    case neg =>
      obtain rfl : k = ns.length := by omega
      have i3 : ¬ (ns.length : Int) < (ns.length : Int) := by omega
      have hE := HZ.out H0.out
      clear HZ HH H0 hlt
      subst hE
      go_wp2
      go_ret
      exact Ret.mk' rfl (HX.out.trans (by repeat first | exact yx0 _ | assumption | refine yxa ?_ _ | refine yxd ?_ | refine yxn ?_ _ | refine yxs ?_ (by simp <;> omega) _ | refine yxt ?_ (by assumption)))
    case pos =>
      have i3 : (k : Int) < (ns.length : Int) := by omega
      obtain ⟨b, off, rfl, hbw, hcell⟩ := (HRN.out.ext HX.out).2.2.1 (by omega)
      have hri := HRN.out.2.2.2 k hlt
      have ci := hcell k hlt
      have HHK := Lib.hid (fun hb => HH.out k H0.out hlt hb)
      have HNX : Hid (caseErr ⟨name, body, ss⟩ (ns.getD k SI.none_).zs = 0 → ∀ j, j < k + 1 → caseErr ⟨name, body, ss⟩ (ns.getD j SI.none_).zs = 0) := Lib.hid fun h j hj => by
        rcases Nat.lt_or_ge j k with h9 | h9
        · exact H0.out j h9
        · obtain rfl : j = k := by omega
          exact h
      clear hcell HH HZ H0
      generalize ns.getD k SI.none_ = s at *
      obtain ⟨sA, sc, zs⟩ := s
      simp only [SI.val] at *
      have HSW := Lib.hid hri
      have HCI := Lib.hid ci
      have HBW := Lib.hid hbw
      have cK := fun W h1 h2 => CR.out sA sc zs W h1 h2
      clear hri
      by_cases hz : caseErr ⟨name, body, ss⟩ zs = 0
      case neg =>
        have hE := HHK.out hz
        have e0 : (caseErr ⟨name, body, ss⟩ zs != 0) = true := by simpa using hz
        clear HHK HNX hz
        subst hE
        generalize caseErr ⟨name, body, ss⟩ zs = z at *
        have CK := Lib.hid cK; clear cK
        go_upto_region 9 with fail
        refine wp_region_steady (Ext _) [?_, ?_, ?_, ?_, ?_, ?_, ?_, ?_] (by kernel_rfl) (by kernel_rfl) rfl (Ext.refl _).drew ?_ ?_
        rotate_left 8
        · refine StepsT.cons (fun W hW => ?_) ?_
          · have ci := (hW.cell (p := ⟨b, off + k, none⟩) HBW.out).trans HCI.out; have cbl : b < W.heap.size := Nat.lt_of_lt_of_le HBW.out hW.size; obtain ⟨k0, k1, k2, kl⟩ := (HB.out.ext hW).c3; obtain ⟨m0, m1, _, _, ml⟩ := (HS.out.ext hW).c2; first | (refine StepT.off rfl hW ?_; rfl) | (refine StepT.go rfl ?_; go_simp; first | (refine ⟨?_, hW⟩; rfl) | (refine Calls.mono (CK.out _ (HF.out.ext (HX.out.trans hW)) (HSW.out.ext (HX.out.trans hW))) ?_; rintro e4 w4 ⟨rfl, hb⟩; refine ⟨?_, hW.trans hb⟩; rfl))
          simp only [Act.put, List.setIfInBounds_toArray, List.set_cons_zero, List.set_cons_succ]
          refine StepsT.cons (fun W hW => ?_) ?_
          · have ci := (hW.cell (p := ⟨b, off + k, none⟩) HBW.out).trans HCI.out; have cbl : b < W.heap.size := Nat.lt_of_lt_of_le HBW.out hW.size; obtain ⟨k0, k1, k2, kl⟩ := (HB.out.ext hW).c3; obtain ⟨m0, m1, _, _, ml⟩ := (HS.out.ext hW).c2; first | (refine StepT.off rfl hW ?_; rfl) | (refine StepT.go rfl ?_; go_simp; first | (refine ⟨?_, hW⟩; rfl) | (refine Calls.mono (CK.out _ (HF.out.ext (HX.out.trans hW)) (HSW.out.ext (HX.out.trans hW))) ?_; rintro e4 w4 ⟨rfl, hb⟩; refine ⟨?_, hW.trans hb⟩; rfl))
          simp only [Act.put, List.setIfInBounds_toArray, List.set_cons_zero, List.set_cons_succ]
          refine StepsT.cons (fun W hW => ?_) ?_
          · have ci := (hW.cell (p := ⟨b, off + k, none⟩) HBW.out).trans HCI.out; have cbl : b < W.heap.size := Nat.lt_of_lt_of_le HBW.out hW.size; obtain ⟨k0, k1, k2, kl⟩ := (HB.out.ext hW).c3; obtain ⟨m0, m1, _, _, ml⟩ := (HS.out.ext hW).c2; first | (refine StepT.off rfl hW ?_; rfl) | (refine StepT.go rfl ?_; go_simp; first | (refine ⟨?_, hW⟩; rfl) | (refine Calls.mono (CK.out _ (HF.out.ext (HX.out.trans hW)) (HSW.out.ext (HX.out.trans hW))) ?_; rintro e4 w4 ⟨rfl, hb⟩; refine ⟨?_, hW.trans hb⟩; rfl))
          simp only [Act.put, List.setIfInBounds_toArray, List.set_cons_zero, List.set_cons_succ]
          refine StepsT.cons (fun W hW => ?_) ?_
          · have ci := (hW.cell (p := ⟨b, off + k, none⟩) HBW.out).trans HCI.out; have cbl : b < W.heap.size := Nat.lt_of_lt_of_le HBW.out hW.size; obtain ⟨k0, k1, k2, kl⟩ := (HB.out.ext hW).c3; obtain ⟨m0, m1, _, _, ml⟩ := (HS.out.ext hW).c2; first | (refine StepT.off rfl hW ?_; rfl) | (refine StepT.go rfl ?_; go_simp; first | (refine ⟨?_, hW⟩; rfl) | (refine Calls.mono (CK.out _ (HF.out.ext (HX.out.trans hW)) (HSW.out.ext (HX.out.trans hW))) ?_; rintro e4 w4 ⟨rfl, hb⟩; refine ⟨?_, hW.trans hb⟩; rfl))
          simp only [Act.put, List.setIfInBounds_toArray, List.set_cons_zero, List.set_cons_succ]
          refine StepsT.cons (fun W hW => ?_) ?_
          · have ci := (hW.cell (p := ⟨b, off + k, none⟩) HBW.out).trans HCI.out; have cbl : b < W.heap.size := Nat.lt_of_lt_of_le HBW.out hW.size; obtain ⟨k0, k1, k2, kl⟩ := (HB.out.ext hW).c3; obtain ⟨m0, m1, _, _, ml⟩ := (HS.out.ext hW).c2; first | (refine StepT.off rfl hW ?_; rfl) | (refine StepT.go rfl ?_; go_simp; first | (refine ⟨?_, hW⟩; rfl) | (refine Calls.mono (CK.out _ (HF.out.ext (HX.out.trans hW)) (HSW.out.ext (HX.out.trans hW))) ?_; rintro e4 w4 ⟨rfl, hb⟩; refine ⟨?_, hW.trans hb⟩; rfl))
          simp only [Act.put, List.setIfInBounds_toArray, List.set_cons_zero, List.set_cons_succ]
          refine StepsT.cons (fun W hW => ?_) ?_
          · have ci := (hW.cell (p := ⟨b, off + k, none⟩) HBW.out).trans HCI.out; have cbl : b < W.heap.size := Nat.lt_of_lt_of_le HBW.out hW.size; obtain ⟨k0, k1, k2, kl⟩ := (HB.out.ext hW).c3; obtain ⟨m0, m1, _, _, ml⟩ := (HS.out.ext hW).c2; first | (refine StepT.off rfl hW ?_; rfl) | (refine StepT.go rfl ?_; go_simp; first | (refine ⟨?_, hW⟩; rfl) | (refine Calls.mono (CK.out _ (HF.out.ext (HX.out.trans hW)) (HSW.out.ext (HX.out.trans hW))) ?_; rintro e4 w4 ⟨rfl, hb⟩; refine ⟨?_, hW.trans hb⟩; rfl))
          simp only [Act.put, List.setIfInBounds_toArray, List.set_cons_zero, List.set_cons_succ]
          refine StepsT.cons (fun W hW => ?_) ?_
          · have ci := (hW.cell (p := ⟨b, off + k, none⟩) HBW.out).trans HCI.out; have cbl : b < W.heap.size := Nat.lt_of_lt_of_le HBW.out hW.size; obtain ⟨k0, k1, k2, kl⟩ := (HB.out.ext hW).c3; obtain ⟨m0, m1, _, _, ml⟩ := (HS.out.ext hW).c2; first | (refine StepT.off rfl hW ?_; rfl) | (refine StepT.go rfl ?_; go_simp; first | (refine ⟨?_, hW⟩; rfl) | (refine Calls.mono (CK.out _ (HF.out.ext (HX.out.trans hW)) (HSW.out.ext (HX.out.trans hW))) ?_; rintro e4 w4 ⟨rfl, hb⟩; refine ⟨?_, hW.trans hb⟩; rfl))
          simp only [Act.put, List.setIfInBounds_toArray, List.set_cons_zero, List.set_cons_succ]
          refine StepsT.cons (fun W hW => ?_) ?_
          · have ci := (hW.cell (p := ⟨b, off + k, none⟩) HBW.out).trans HCI.out; have cbl : b < W.heap.size := Nat.lt_of_lt_of_le HBW.out hW.size; obtain ⟨k0, k1, k2, kl⟩ := (HB.out.ext hW).c3; obtain ⟨m0, m1, _, _, ml⟩ := (HS.out.ext hW).c2; first | (refine StepT.off rfl hW ?_; rfl) | (refine StepT.go rfl ?_; go_simp; first | (refine ⟨?_, hW⟩; rfl) | (refine Calls.mono (CK.out _ (HF.out.ext (HX.out.trans hW)) (HSW.out.ext (HX.out.trans hW))) ?_; rintro e4 w4 ⟨rfl, hb⟩; refine ⟨?_, hW.trans hb⟩; rfl))
          simp only [Act.put, List.setIfInBounds_toArray, List.set_cons_zero, List.set_cons_succ]
          trivial
        intro W hW
        simp only [putAll, Act.put, List.setIfInBounds_toArray, List.set_cons_zero, List.set_cons_succ]
        go_wp2
        go_ret
        exact Ret.mk' rfl (HX.out.trans (Ext.trans hW (by repeat first | exact yx0 _ | assumption | refine yxa ?_ _ | refine yxd ?_ | refine yxn ?_ _ | refine yxs ?_ (by simp <;> omega) _ | refine yxt ?_ (by assumption))))
      case pos =>
        have HK2 := Lib.hid (HNX.out hz)
        rw [hz] at cK
        have CK := Lib.hid cK; clear cK HNX HHK hz
        go_upto_region 9 with fail
        refine wp_region_steady (Ext _) [?_, ?_, ?_, ?_, ?_, ?_, ?_, ?_] (by kernel_rfl) (by kernel_rfl) rfl (Ext.refl _).drew ?_ ?_
        rotate_left 8
        · refine StepsT.cons (fun W hW => ?_) ?_
          · have ci := (hW.cell (p := ⟨b, off + k, none⟩) HBW.out).trans HCI.out; have cbl : b < W.heap.size := Nat.lt_of_lt_of_le HBW.out hW.size; obtain ⟨k0, k1, k2, kl⟩ := (HB.out.ext hW).c3; obtain ⟨m0, m1, _, _, ml⟩ := (HS.out.ext hW).c2; first | (refine StepT.off rfl hW ?_; rfl) | (refine StepT.go rfl ?_; go_simp; first | (refine ⟨?_, hW⟩; rfl) | (refine Calls.mono (CK.out _ (HF.out.ext (HX.out.trans hW)) (HSW.out.ext (HX.out.trans hW))) ?_; rintro e4 w4 ⟨rfl, hb⟩; refine ⟨?_, hW.trans hb⟩; rfl))
          simp only [Act.put, List.setIfInBounds_toArray, List.set_cons_zero, List.set_cons_succ]
          refine StepsT.cons (fun W hW => ?_) ?_
          · have ci := (hW.cell (p := ⟨b, off + k, none⟩) HBW.out).trans HCI.out; have cbl : b < W.heap.size := Nat.lt_of_lt_of_le HBW.out hW.size; obtain ⟨k0, k1, k2, kl⟩ := (HB.out.ext hW).c3; obtain ⟨m0, m1, _, _, ml⟩ := (HS.out.ext hW).c2; first | (refine StepT.off rfl hW ?_; rfl) | (refine StepT.go rfl ?_; go_simp; first | (refine ⟨?_, hW⟩; rfl) | (refine Calls.mono (CK.out _ (HF.out.ext (HX.out.trans hW)) (HSW.out.ext (HX.out.trans hW))) ?_; rintro e4 w4 ⟨rfl, hb⟩; refine ⟨?_, hW.trans hb⟩; rfl))
          simp only [Act.put, List.setIfInBounds_toArray, List.set_cons_zero, List.set_cons_succ]
          refine StepsT.cons (fun W hW => ?_) ?_
          · have ci := (hW.cell (p := ⟨b, off + k, none⟩) HBW.out).trans HCI.out; have cbl : b < W.heap.size := Nat.lt_of_lt_of_le HBW.out hW.size; obtain ⟨k0, k1, k2, kl⟩ := (HB.out.ext hW).c3; obtain ⟨m0, m1, _, _, ml⟩ := (HS.out.ext hW).c2; first | (refine StepT.off rfl hW ?_; rfl) | (refine StepT.go rfl ?_; go_simp; first | (refine ⟨?_, hW⟩; rfl) | (refine Calls.mono (CK.out _ (HF.out.ext (HX.out.trans hW)) (HSW.out.ext (HX.out.trans hW))) ?_; rintro e4 w4 ⟨rfl, hb⟩; refine ⟨?_, hW.trans hb⟩; rfl))
          simp only [Act.put, List.setIfInBounds_toArray, List.set_cons_zero, List.set_cons_succ]
          refine StepsT.cons (fun W hW => ?_) ?_
          · have ci := (hW.cell (p := ⟨b, off + k, none⟩) HBW.out).trans HCI.out; have cbl : b < W.heap.size := Nat.lt_of_lt_of_le HBW.out hW.size; obtain ⟨k0, k1, k2, kl⟩ := (HB.out.ext hW).c3; obtain ⟨m0, m1, _, _, ml⟩ := (HS.out.ext hW).c2; first | (refine StepT.off rfl hW ?_; rfl) | (refine StepT.go rfl ?_; go_simp; first | (refine ⟨?_, hW⟩; rfl) | (refine Calls.mono (CK.out _ (HF.out.ext (HX.out.trans hW)) (HSW.out.ext (HX.out.trans hW))) ?_; rintro e4 w4 ⟨rfl, hb⟩; refine ⟨?_, hW.trans hb⟩; rfl))
          simp only [Act.put, List.setIfInBounds_toArray, List.set_cons_zero, List.set_cons_succ]
          refine StepsT.cons (fun W hW => ?_) ?_
          · have ci := (hW.cell (p := ⟨b, off + k, none⟩) HBW.out).trans HCI.out; have cbl : b < W.heap.size := Nat.lt_of_lt_of_le HBW.out hW.size; obtain ⟨k0, k1, k2, kl⟩ := (HB.out.ext hW).c3; obtain ⟨m0, m1, _, _, ml⟩ := (HS.out.ext hW).c2; first | (refine StepT.off rfl hW ?_; rfl) | (refine StepT.go rfl ?_; go_simp; first | (refine ⟨?_, hW⟩; rfl) | (refine Calls.mono (CK.out _ (HF.out.ext (HX.out.trans hW)) (HSW.out.ext (HX.out.trans hW))) ?_; rintro e4 w4 ⟨rfl, hb⟩; refine ⟨?_, hW.trans hb⟩; rfl))
          simp only [Act.put, List.setIfInBounds_toArray, List.set_cons_zero, List.set_cons_succ]
          refine StepsT.cons (fun W hW => ?_) ?_
          · have ci := (hW.cell (p := ⟨b, off + k, none⟩) HBW.out).trans HCI.out; have cbl : b < W.heap.size := Nat.lt_of_lt_of_le HBW.out hW.size; obtain ⟨k0, k1, k2, kl⟩ := (HB.out.ext hW).c3; obtain ⟨m0, m1, _, _, ml⟩ := (HS.out.ext hW).c2; first | (refine StepT.off rfl hW ?_; rfl) | (refine StepT.go rfl ?_; go_simp; first | (refine ⟨?_, hW⟩; rfl) | (refine Calls.mono (CK.out _ (HF.out.ext (HX.out.trans hW)) (HSW.out.ext (HX.out.trans hW))) ?_; rintro e4 w4 ⟨rfl, hb⟩; refine ⟨?_, hW.trans hb⟩; rfl))
          simp only [Act.put, List.setIfInBounds_toArray, List.set_cons_zero, List.set_cons_succ]
          refine StepsT.cons (fun W hW => ?_) ?_
          · have ci := (hW.cell (p := ⟨b, off + k, none⟩) HBW.out).trans HCI.out; have cbl : b < W.heap.size := Nat.lt_of_lt_of_le HBW.out hW.size; obtain ⟨k0, k1, k2, kl⟩ := (HB.out.ext hW).c3; obtain ⟨m0, m1, _, _, ml⟩ := (HS.out.ext hW).c2; first | (refine StepT.off rfl hW ?_; rfl) | (refine StepT.go rfl ?_; go_simp; first | (refine ⟨?_, hW⟩; rfl) | (refine Calls.mono (CK.out _ (HF.out.ext (HX.out.trans hW)) (HSW.out.ext (HX.out.trans hW))) ?_; rintro e4 w4 ⟨rfl, hb⟩; refine ⟨?_, hW.trans hb⟩; rfl))
          simp only [Act.put, List.setIfInBounds_toArray, List.set_cons_zero, List.set_cons_succ]
          refine StepsT.cons (fun W hW => ?_) ?_
          · have ci := (hW.cell (p := ⟨b, off + k, none⟩) HBW.out).trans HCI.out; have cbl : b < W.heap.size := Nat.lt_of_lt_of_le HBW.out hW.size; obtain ⟨k0, k1, k2, kl⟩ := (HB.out.ext hW).c3; obtain ⟨m0, m1, _, _, ml⟩ := (HS.out.ext hW).c2; first | (refine StepT.off rfl hW ?_; rfl) | (refine StepT.go rfl ?_; go_simp; first | (refine ⟨?_, hW⟩; rfl) | (refine Calls.mono (CK.out _ (HF.out.ext (HX.out.trans hW)) (HSW.out.ext (HX.out.trans hW))) ?_; rintro e4 w4 ⟨rfl, hb⟩; refine ⟨?_, hW.trans hb⟩; rfl))
          simp only [Act.put, List.setIfInBounds_toArray, List.set_cons_zero, List.set_cons_succ]
          trivial
        intro W hW
        simp only [putAll, Act.put, List.setIfInBounds_toArray, List.set_cons_zero, List.set_cons_succ]
        have HB3 := Lib.hid (HB.out.ext hW); have HS3 := Lib.hid (HS.out.ext hW); have HX3 := Lib.hid (HX.out.trans hW)
        clear k0 k1 k2 kl m0 m1 ml HB HS HX hW
        go_wp2
        go_roundw
        case rel => exact ⟨k + 1, by omega, by go_num, HK2, HB3, HS3, HX3⟩
        case measure => simp [intOf] <;> omega
end Go.Proofs.YtfkjhgcablakgaaGreatDoor
