/-
  Walks: the error of a set, what a set lacks (the program's).
-/
import Derived.Test.YtfkjhgcablakgaaGreatDoorPStand
import Derived.Test.YtfkjhgcablakgaaGreatDoorGD
namespace Go.Proofs.YtfkjhgcablakgaaGreatDoor
open Go.RowKit
attribute [local go_sem ↓] Go.wp_at_zero Go.wp_at_succ

set_option maxRecDepth 100000 in
set_option maxHeartbeats 8000000 in
theorem pSetErr_any (s : ST) (X : Option Addr) (cx : Nat) (set : List Int) (w : World) (hs : SR w s) (hx : RI w X set.length set) :
    Calls Tryz.prog 67 #[s.val, .slice X set.length cx] w (Ret (.int .i64 (setE s.ns.length set)) w) := by
  have hbig := hs.rn.2.1
  have hbig2 := hx.big
  have HRX := Lib.hid hx
  have HE1 := Lib.hid (fun k => setE_far (n := s.ns.length) (set := set) (k := k))
  have HE2 := Lib.hid (fun h k => setE_order (n := s.ns.length) (set := set) h (k := k))
  have HE3 := Lib.hid (setE_ok (n := s.ns.length) (set := set))
  clear hs hx
  generalize setE s.ns.length set = E at *
  obtain ⟨B, d, cs, D, e, ns⟩ := s
  simp only [ST.val] at *
  have hw1 : IntKind.i64.wrap ((ns.length : Int) - 1) = (ns.length : Int) - 1 := IntWalk.i64_in _ (by omega)
  go_enter Tryz.func67, Tryz.ntmps67
  have HS : Hid (Blk (w.alloc (.cells #[.slice B cs.length d, .slice D ns.length e] 98)) w.heap.size 98 #[.slice B cs.length d, .slice D ns.length e]) := Lib.hid (Blk.new w _ _)
  have HX : Hid (Ext w (w.alloc (.cells #[.slice B cs.length d, .slice D ns.length e] 98))) := Lib.hid (by repeat first | exact yx0 _ | assumption | refine yxa ?_ _ | refine yxd ?_ | refine yxn ?_ _ | refine yxs ?_ (by simp <;> omega) _ | refine yxt ?_ (by assumption))
  obtain ⟨m0, m1, _, _, ml⟩ := HS.out.c2
  have HS1 := HS; have HX1 := HX
  clear m0 m1 ml HS HX
  go_wp2
  go_loopw [10] (fun j wr => ∃ k : Nat, k ≤ set.length ∧ j = .int .i64 (k : Int) ∧ Hid (∀ j, j < k → 0 ≤ set.getD j 0 ∧ set.getD j 0 < (ns.length : Int)) ∧ Hid (Blk wr w.heap.size 98 #[.slice B cs.length d, .slice D ns.length e]) ∧ Hid (Ext w wr)) (fun j _ => set.length - (intOf j).toNat)
  case atStart => exact ⟨0, Nat.zero_le _, rfl, Lib.hid (fun j hj => absurd hj (by omega)), HS1, HX1⟩
  case round =>
    obtain ⟨k, hk, rfl, H0, HS, HX⟩ := hrel
    clear HS1 HX1
    obtain ⟨m0, m1, _, _, ml⟩ := HS.out.c2
    by_cases hlt : k < set.length
    case pos =>
      have i3 : (k : Int) < (set.length : Int) := by omega
      obtain ⟨b, off, rfl, hbw, hcell⟩ := (HRX.out.ext HX.out).2.2 (by omega)
      have ci := hcell k hlt
      have HF := Lib.hid (fun h => HE1.out k hlt h)
      have HNX : Hid (0 ≤ set.getD k 0 ∧ set.getD k 0 < (ns.length : Int) → ∀ j, j < k + 1 → 0 ≤ set.getD j 0 ∧ set.getD j 0 < (ns.length : Int)) := Lib.hid fun h j hj => by
        rcases Nat.lt_or_ge j k with h9 | h9
        · exact H0.out j h9
        · obtain rfl : j = k := by omega
          exact h
      clear hcell HE1 HE2 HE3 H0
      generalize set.getD k 0 = x at *
      by_cases hb : 0 ≤ x ∧ x ≤ (ns.length : Int) - 1
      case pos =>
        have HN2 := Lib.hid (HNX.out ⟨hb.1, by omega⟩)
        clear HNX HF
        go_wp2_with (first | (go_at_call 86; refine Calls.mono (pWithin_yes _ _ _ _ ?_) ?_; (omega); rintro e w1 ⟨rfl, rfl⟩))
        go_roundw
        case rel => exact ⟨k + 1, by omega, by go_num, HN2, HS, HX⟩
        case measure => simp [intOf] <;> omega
      case neg =>
        have hE := HF.out (by omega)
        clear HNX HF
        go_wp2_with (first | (go_at_call 86; refine Calls.mono (pWithin_no _ _ _ _ ?_) ?_; (omega); rintro e w1 ⟨rfl, rfl⟩))
        go_ret
        exact Ret.mk' (by first | rfl | (rw [hE]; rfl)) (HX.out.trans (by repeat first | exact yx0 _ | assumption | refine yxa ?_ _ | refine yxd ?_ | refine yxn ?_ _ | refine yxs ?_ (by simp <;> omega) _ | refine yxt ?_ (by assumption)))
    case neg =>
      obtain rfl : k = set.length := by omega
      have i3 : ¬ (set.length : Int) < (set.length : Int) := by omega
      have HO := Lib.hid (fun k => HE2.out H0.out k)
      have HZ := Lib.hid (HE3.out H0.out)
      clear HE1 HE2 HE3 H0 hlt
      go_wp2
      clear m0 m1 ml
      have HS1 := HS; have HX1 := HX
      clear HS HX
      go_loopw [25] (fun j wr => ∃ k : Nat, k ≤ set.length ∧ j = .int .i64 (k : Int) ∧ Hid (∀ j, 0 < j → j < k → set.getD (j - 1) 0 < set.getD j 0) ∧ Hid (Ext w wr)) (fun j _ => set.length - (intOf j).toNat)
      case atStart => exact ⟨0, Nat.zero_le _, rfl, Lib.hid (fun j _ hj => absurd hj (by omega)), HX1⟩
      case round =>
        obtain ⟨k, hk, rfl, H0, HX⟩ := hrel
        clear HS1 HX1
        by_cases hlt : k < set.length
        case pos =>
          have i3 : (k : Int) < (set.length : Int) := by omega
          obtain ⟨b, off, rfl, hbw, hcell⟩ := (HRX.out.ext HX.out).2.2 (by omega)
          have ci := hcell k hlt
          rcases Nat.eq_zero_or_pos k with hz | hz
          · subst hz
            have e0 : ¬ (0 : Int) < ((0 : Nat) : Int) := by omega
            clear hcell HO HZ
            go_upto_region 10 with fail
            refine wp_region_steady (Ext _) [?_, ?_, ?_, ?_, ?_, ?_, ?_, ?_, ?_, ?_, ?_, ?_, ?_, ?_] (by kernel_rfl) (by kernel_rfl) rfl (Ext.refl _).drew ?_ ?_
            rotate_left 14
            · refine StepsT.cons (fun W hW => ?_) ?_
              · skip; first | (refine StepT.off rfl hW ?_; rfl) | (refine StepT.go rfl ?_; go_simp; first | (refine ⟨?_, hW⟩; rfl))
              simp only [Act.put, List.setIfInBounds_toArray, List.set_cons_zero, List.set_cons_succ]
              refine StepsT.cons (fun W hW => ?_) ?_
              · skip; first | (refine StepT.off rfl hW ?_; rfl) | (refine StepT.go rfl ?_; go_simp; first | (refine ⟨?_, hW⟩; rfl))
              simp only [Act.put, List.setIfInBounds_toArray, List.set_cons_zero, List.set_cons_succ]
              refine StepsT.cons (fun W hW => ?_) ?_
              · skip; first | (refine StepT.off rfl hW ?_; rfl) | (refine StepT.go rfl ?_; go_simp; first | (refine ⟨?_, hW⟩; rfl))
              simp only [Act.put, List.setIfInBounds_toArray, List.set_cons_zero, List.set_cons_succ]
              refine StepsT.cons (fun W hW => ?_) ?_
              · skip; first | (refine StepT.off rfl hW ?_; rfl) | (refine StepT.go rfl ?_; go_simp; first | (refine ⟨?_, hW⟩; rfl))
              simp only [Act.put, List.setIfInBounds_toArray, List.set_cons_zero, List.set_cons_succ]
              refine StepsT.cons (fun W hW => ?_) ?_
              · skip; first | (refine StepT.off rfl hW ?_; rfl) | (refine StepT.go rfl ?_; go_simp; first | (refine ⟨?_, hW⟩; rfl))
              simp only [Act.put, List.setIfInBounds_toArray, List.set_cons_zero, List.set_cons_succ]
              refine StepsT.cons (fun W hW => ?_) ?_
              · skip; first | (refine StepT.off rfl hW ?_; rfl) | (refine StepT.go rfl ?_; go_simp; first | (refine ⟨?_, hW⟩; rfl))
              simp only [Act.put, List.setIfInBounds_toArray, List.set_cons_zero, List.set_cons_succ]
              refine StepsT.cons (fun W hW => ?_) ?_
              · skip; first | (refine StepT.off rfl hW ?_; rfl) | (refine StepT.go rfl ?_; go_simp; first | (refine ⟨?_, hW⟩; rfl))
              simp only [Act.put, List.setIfInBounds_toArray, List.set_cons_zero, List.set_cons_succ]
              refine StepsT.cons (fun W hW => ?_) ?_
              · skip; first | (refine StepT.off rfl hW ?_; rfl) | (refine StepT.go rfl ?_; go_simp; first | (refine ⟨?_, hW⟩; rfl))
              simp only [Act.put, List.setIfInBounds_toArray, List.set_cons_zero, List.set_cons_succ]
              refine StepsT.cons (fun W hW => ?_) ?_
              · skip; first | (refine StepT.off rfl hW ?_; rfl) | (refine StepT.go rfl ?_; go_simp; first | (refine ⟨?_, hW⟩; rfl))
              simp only [Act.put, List.setIfInBounds_toArray, List.set_cons_zero, List.set_cons_succ]
              refine StepsT.cons (fun W hW => ?_) ?_
              · skip; first | (refine StepT.off rfl hW ?_; rfl) | (refine StepT.go rfl ?_; go_simp; first | (refine ⟨?_, hW⟩; rfl))
              simp only [Act.put, List.setIfInBounds_toArray, List.set_cons_zero, List.set_cons_succ]
              refine StepsT.cons (fun W hW => ?_) ?_
              · skip; first | (refine StepT.off rfl hW ?_; rfl) | (refine StepT.go rfl ?_; go_simp; first | (refine ⟨?_, hW⟩; rfl))
              simp only [Act.put, List.setIfInBounds_toArray, List.set_cons_zero, List.set_cons_succ]
              refine StepsT.cons (fun W hW => ?_) ?_
              · skip; first | (refine StepT.off rfl hW ?_; rfl) | (refine StepT.go rfl ?_; go_simp; first | (refine ⟨?_, hW⟩; rfl))
              simp only [Act.put, List.setIfInBounds_toArray, List.set_cons_zero, List.set_cons_succ]
              refine StepsT.cons (fun W hW => ?_) ?_
              · skip; first | (refine StepT.off rfl hW ?_; rfl) | (refine StepT.go rfl ?_; go_simp; first | (refine ⟨?_, hW⟩; rfl))
              simp only [Act.put, List.setIfInBounds_toArray, List.set_cons_zero, List.set_cons_succ]
              refine StepsT.cons (fun W hW => ?_) ?_
              · skip; first | (refine StepT.off rfl hW ?_; rfl) | (refine StepT.go rfl ?_; go_simp; first | (refine ⟨?_, hW⟩; rfl))
              simp only [Act.put, List.setIfInBounds_toArray, List.set_cons_zero, List.set_cons_succ]
              trivial
            intro W hW
            simp only [putAll, Act.put, List.setIfInBounds_toArray, List.set_cons_zero, List.set_cons_succ]
            have HX3 := Lib.hid (HX.out.trans hW)
            go_wp2
            go_roundw
            case rel => exact ⟨0 + 1, by omega, by go_num, Lib.hid (fun j h1 h2 => absurd h2 (by omega)), HX3⟩
            case measure => simp [intOf] <;> omega
          · have e0 : (0 : Int) < (k : Int) := by omega
            have cp := hcell (k - 1) (by omega)
            have hw : IntKind.i64.wrap ((k : Int) - 1) = ((k - 1 : Nat) : Int) := by rw [IntWalk.i64_in _ (by omega)]; omega
            have HF := Lib.hid (fun h => HO.out k H0.out hz hlt h)
            have HNX : Hid (set.getD (k - 1) 0 < set.getD k 0 → ∀ j, 0 < j → j < k + 1 → set.getD (j - 1) 0 < set.getD j 0) := Lib.hid fun h j h1 hj => by
              rcases Nat.lt_or_ge j k with h9 | h9
              · exact H0.out j h1 h9
              · obtain rfl : j = k := by omega
                exact h
            have hl2 : ((k - 1 : Nat) : Int) < (set.length : Int) := by omega
            clear hcell HO HZ H0
            generalize set.getD k 0 = x at *
            generalize set.getD (k - 1) 0 = y at *
            generalize k - 1 = k1 at *
            have HCI := Lib.hid ci; have HCP := Lib.hid cp; have HBW := Lib.hid hbw
            clear ci cp
            go_upto_region 10 with fail
            refine wp_region_steady (Ext _) [?_, ?_, ?_, ?_, ?_, ?_, ?_, ?_, ?_, ?_, ?_, ?_, ?_, ?_] (by kernel_rfl) (by kernel_rfl) rfl (Ext.refl _).drew ?_ ?_
            rotate_left 14
            · refine StepsT.cons (fun W hW => ?_) ?_
              · have ci := (hW.cell (p := ⟨b, off + k, none⟩) HBW.out).trans HCI.out; have cp := (hW.cell (p := ⟨b, off + k1, none⟩) HBW.out).trans HCP.out; have cbl : b < W.heap.size := Nat.lt_of_lt_of_le HBW.out hW.size; first | (refine StepT.off rfl hW ?_; rfl) | (refine StepT.go rfl ?_; go_simp; first | (refine ⟨?_, hW⟩; rfl))
              simp only [Act.put, List.setIfInBounds_toArray, List.set_cons_zero, List.set_cons_succ]
              refine StepsT.cons (fun W hW => ?_) ?_
              · have ci := (hW.cell (p := ⟨b, off + k, none⟩) HBW.out).trans HCI.out; have cp := (hW.cell (p := ⟨b, off + k1, none⟩) HBW.out).trans HCP.out; have cbl : b < W.heap.size := Nat.lt_of_lt_of_le HBW.out hW.size; first | (refine StepT.off rfl hW ?_; rfl) | (refine StepT.go rfl ?_; go_simp; first | (refine ⟨?_, hW⟩; rfl))
              simp only [Act.put, List.setIfInBounds_toArray, List.set_cons_zero, List.set_cons_succ]
              refine StepsT.cons (fun W hW => ?_) ?_
              · have ci := (hW.cell (p := ⟨b, off + k, none⟩) HBW.out).trans HCI.out; have cp := (hW.cell (p := ⟨b, off + k1, none⟩) HBW.out).trans HCP.out; have cbl : b < W.heap.size := Nat.lt_of_lt_of_le HBW.out hW.size; first | (refine StepT.off rfl hW ?_; rfl) | (refine StepT.go rfl ?_; go_simp; first | (refine ⟨?_, hW⟩; rfl))
              simp only [Act.put, List.setIfInBounds_toArray, List.set_cons_zero, List.set_cons_succ]
              refine StepsT.cons (fun W hW => ?_) ?_
              · have ci := (hW.cell (p := ⟨b, off + k, none⟩) HBW.out).trans HCI.out; have cp := (hW.cell (p := ⟨b, off + k1, none⟩) HBW.out).trans HCP.out; have cbl : b < W.heap.size := Nat.lt_of_lt_of_le HBW.out hW.size; first | (refine StepT.off rfl hW ?_; rfl) | (refine StepT.go rfl ?_; go_simp; first | (refine ⟨?_, hW⟩; rfl))
              simp only [Act.put, List.setIfInBounds_toArray, List.set_cons_zero, List.set_cons_succ]
              refine StepsT.cons (fun W hW => ?_) ?_
              · have ci := (hW.cell (p := ⟨b, off + k, none⟩) HBW.out).trans HCI.out; have cp := (hW.cell (p := ⟨b, off + k1, none⟩) HBW.out).trans HCP.out; have cbl : b < W.heap.size := Nat.lt_of_lt_of_le HBW.out hW.size; first | (refine StepT.off rfl hW ?_; rfl) | (refine StepT.go rfl ?_; go_simp; first | (refine ⟨?_, hW⟩; rfl))
              simp only [Act.put, List.setIfInBounds_toArray, List.set_cons_zero, List.set_cons_succ]
              refine StepsT.cons (fun W hW => ?_) ?_
              · have ci := (hW.cell (p := ⟨b, off + k, none⟩) HBW.out).trans HCI.out; have cp := (hW.cell (p := ⟨b, off + k1, none⟩) HBW.out).trans HCP.out; have cbl : b < W.heap.size := Nat.lt_of_lt_of_le HBW.out hW.size; first | (refine StepT.off rfl hW ?_; rfl) | (refine StepT.go rfl ?_; go_simp; first | (refine ⟨?_, hW⟩; rfl))
              simp only [Act.put, List.setIfInBounds_toArray, List.set_cons_zero, List.set_cons_succ]
              refine StepsT.cons (fun W hW => ?_) ?_
              · have ci := (hW.cell (p := ⟨b, off + k, none⟩) HBW.out).trans HCI.out; have cp := (hW.cell (p := ⟨b, off + k1, none⟩) HBW.out).trans HCP.out; have cbl : b < W.heap.size := Nat.lt_of_lt_of_le HBW.out hW.size; first | (refine StepT.off rfl hW ?_; rfl) | (refine StepT.go rfl ?_; go_simp; first | (refine ⟨?_, hW⟩; rfl))
              simp only [Act.put, List.setIfInBounds_toArray, List.set_cons_zero, List.set_cons_succ]
              refine StepsT.cons (fun W hW => ?_) ?_
              · have ci := (hW.cell (p := ⟨b, off + k, none⟩) HBW.out).trans HCI.out; have cp := (hW.cell (p := ⟨b, off + k1, none⟩) HBW.out).trans HCP.out; have cbl : b < W.heap.size := Nat.lt_of_lt_of_le HBW.out hW.size; first | (refine StepT.off rfl hW ?_; rfl) | (refine StepT.go rfl ?_; go_simp; first | (refine ⟨?_, hW⟩; rfl))
              simp only [Act.put, List.setIfInBounds_toArray, List.set_cons_zero, List.set_cons_succ]
              refine StepsT.cons (fun W hW => ?_) ?_
              · have ci := (hW.cell (p := ⟨b, off + k, none⟩) HBW.out).trans HCI.out; have cp := (hW.cell (p := ⟨b, off + k1, none⟩) HBW.out).trans HCP.out; have cbl : b < W.heap.size := Nat.lt_of_lt_of_le HBW.out hW.size; first | (refine StepT.off rfl hW ?_; rfl) | (refine StepT.go rfl ?_; go_simp; first | (refine ⟨?_, hW⟩; rfl))
              simp only [Act.put, List.setIfInBounds_toArray, List.set_cons_zero, List.set_cons_succ]
              refine StepsT.cons (fun W hW => ?_) ?_
              · have ci := (hW.cell (p := ⟨b, off + k, none⟩) HBW.out).trans HCI.out; have cp := (hW.cell (p := ⟨b, off + k1, none⟩) HBW.out).trans HCP.out; have cbl : b < W.heap.size := Nat.lt_of_lt_of_le HBW.out hW.size; first | (refine StepT.off rfl hW ?_; rfl) | (refine StepT.go rfl ?_; go_simp; first | (refine ⟨?_, hW⟩; rfl))
              simp only [Act.put, List.setIfInBounds_toArray, List.set_cons_zero, List.set_cons_succ]
              refine StepsT.cons (fun W hW => ?_) ?_
              · have ci := (hW.cell (p := ⟨b, off + k, none⟩) HBW.out).trans HCI.out; have cp := (hW.cell (p := ⟨b, off + k1, none⟩) HBW.out).trans HCP.out; have cbl : b < W.heap.size := Nat.lt_of_lt_of_le HBW.out hW.size; first | (refine StepT.off rfl hW ?_; rfl) | (refine StepT.go rfl ?_; go_simp; first | (refine ⟨?_, hW⟩; rfl))
              simp only [Act.put, List.setIfInBounds_toArray, List.set_cons_zero, List.set_cons_succ]
              refine StepsT.cons (fun W hW => ?_) ?_
              · have ci := (hW.cell (p := ⟨b, off + k, none⟩) HBW.out).trans HCI.out; have cp := (hW.cell (p := ⟨b, off + k1, none⟩) HBW.out).trans HCP.out; have cbl : b < W.heap.size := Nat.lt_of_lt_of_le HBW.out hW.size; first | (refine StepT.off rfl hW ?_; rfl) | (refine StepT.go rfl ?_; go_simp; first | (refine ⟨?_, hW⟩; rfl))
              simp only [Act.put, List.setIfInBounds_toArray, List.set_cons_zero, List.set_cons_succ]
              refine StepsT.cons (fun W hW => ?_) ?_
              · have ci := (hW.cell (p := ⟨b, off + k, none⟩) HBW.out).trans HCI.out; have cp := (hW.cell (p := ⟨b, off + k1, none⟩) HBW.out).trans HCP.out; have cbl : b < W.heap.size := Nat.lt_of_lt_of_le HBW.out hW.size; first | (refine StepT.off rfl hW ?_; rfl) | (refine StepT.go rfl ?_; go_simp; first | (refine ⟨?_, hW⟩; rfl))
              simp only [Act.put, List.setIfInBounds_toArray, List.set_cons_zero, List.set_cons_succ]
              refine StepsT.cons (fun W hW => ?_) ?_
              · have ci := (hW.cell (p := ⟨b, off + k, none⟩) HBW.out).trans HCI.out; have cp := (hW.cell (p := ⟨b, off + k1, none⟩) HBW.out).trans HCP.out; have cbl : b < W.heap.size := Nat.lt_of_lt_of_le HBW.out hW.size; first | (refine StepT.off rfl hW ?_; rfl) | (refine StepT.go rfl ?_; go_simp; first | (refine ⟨?_, hW⟩; rfl))
              simp only [Act.put, List.setIfInBounds_toArray, List.set_cons_zero, List.set_cons_succ]
              trivial
            intro W hW
            simp only [putAll, Act.put, List.setIfInBounds_toArray, List.set_cons_zero, List.set_cons_succ]
            by_cases hb : x ≤ y
            case pos =>
              have hE := HF.out hb
              go_wp2
              go_ret
              exact Ret.mk' (by first | rfl | (rw [hE]; rfl)) (HX.out.trans (Ext.trans hW (by repeat first | exact yx0 _ | assumption | refine yxa ?_ _ | refine yxd ?_ | refine yxn ?_ _ | refine yxs ?_ (by simp <;> omega) _ | refine yxt ?_ (by assumption))))
            case neg =>
              have HN2 := Lib.hid (HNX.out (by omega))
              have HX3 := Lib.hid (HX.out.trans hW)
              go_wp2
              go_roundw
              case rel => exact ⟨k + 1, by omega, by go_num, HN2, HX3⟩
              case measure => simp [intOf] <;> omega
        case neg =>
          obtain rfl : k = set.length := by omega
          have i3 : ¬ (set.length : Int) < (set.length : Int) := by omega
          have hE := HZ.out fun j h1 h2 => H0.out j h1 h2
          go_wp2
          go_ret
          exact Ret.mk' (by first | rfl | (rw [hE]; rfl)) (HX.out.trans (by repeat first | exact yx0 _ | assumption | refine yxa ?_ _ | refine yxd ?_ | refine yxn ?_ _ | refine yxs ?_ (by simp <;> omega) _ | refine yxt ?_ (by assumption)))
end Go.Proofs.YtfkjhgcablakgaaGreatDoor
