/-
  Walks: the set with a number, and which list comes first (the reference's).
-/
import Derived.Test.YtfkjhgcablakgaaGreatDoorStMem
import Derived.Test.YtfkjhgcablakgaaGreatDoorGE
import Derived.Test.YtfkjhgcablakgaaGreatDoorStandAll
import Derived.Test.YtfkjhgcablakgaaGreatDoorGD
namespace Go.Proofs.YtfkjhgcablakgaaGreatDoor
open Go.RowKit
attribute [local go_sem ↓] Go.wp_at_zero Go.wp_at_succ

theorem memTo_len (k : Nat) : ∀ n, (memTo k n).length ≤ n
  | 0 => Nat.le_refl _
  | n + 1 => by
    have := memTo_len k n
    rw [memTo, List.length_append]
    split <;> simp <;> omega
set_option maxRecDepth 100000 in
set_option maxHeartbeats 4000000 in
theorem members_any (k n : Nat) (w : World) (hk : k ≤ 1000000) (hn : n ≤ 12) : Calls Tryz.prog 65 #[.int .i64 (k : Int), .int .i64 (n : Int)] w (RetS (memTo k n) w) := by
  have HM : Hid (∀ i, memTo k (i + 1) = memTo k i ++ (if k / 2 ^ i % 2 = 1 then [(i : Int)] else [])) := Lib.hid fun _ => rfl
  have HML := Lib.hid (memTo_len k)
  have HM0 : Hid (memTo k 0 = []) := Lib.hid rfl
  generalize memTo k = me at *
  go_enter Tryz.func65, Tryz.ntmps65
  go_wp2
  go_loopw [6, 0, 5] (fun j q v wr => ∃ (i : Nat) (p : Int), i ≤ n ∧ j = .int .i64 (i : Int) ∧ q = .int .i64 p ∧ Hid (p = ((k / 2 ^ i : Nat) : Int)) ∧ Hid (Own wr w.heap.size v (me i)) ∧ Hid (Ext w wr)) (fun j _ _ _ => n - (intOf j).toNat)
  case atStart => exact ⟨0, (k : Int), Nat.zero_le _, rfl, rfl, Lib.hid (by simp), Lib.hid (by rw [HM0.out]; exact Own.nil _ _), Lib.hid (Ext.refl _)⟩
  case round =>
    obtain ⟨i, p, hi, rfl, rfl, HP, HO, HX⟩ := hrel
    by_cases hlt : i < n
    case neg =>
      obtain rfl : i = n := by omega
      have i1 : ¬ (i : Int) < (i : Int) := by omega
      have hl := HML.out i
      go_wp2
      go_ret
      exact RetI.s (by omega) _ _ ⟨_, rfl, HO.out.ext (by repeat first | exact yx0 _ | assumption | refine yxa ?_ _ | refine yxd ?_ | refine yxn ?_ _ | refine yxs ?_ (by simp <;> omega) _ | refine yxt ?_ (by assumption)), HX.out.trans (by repeat first | exact yx0 _ | assumption | refine yxa ?_ _ | refine yxd ?_ | refine yxn ?_ _ | refine yxs ?_ (by simp <;> omega) _ | refine yxt ?_ (by assumption))⟩
    case pos =>
      have i1 : (i : Int) < (n : Int) := by omega
      have hp0 : 0 ≤ p ∧ p ≤ 1000000 := by
        rw [HP.out]
        have h9 : k / 2 ^ i ≤ k := Nat.div_le_self _ _
        generalize k / 2 ^ i = q at h9 ⊢
        omega
      have j1 : p.tmod 2 = p % 2 := Int.tmod_eq_emod_of_nonneg hp0.1
      have j2 : p.tdiv 2 = p / 2 := Int.tdiv_eq_ediv_of_nonneg hp0.1
      have j3 : IntKind.i64.wrap (p % 2) = p % 2 := IntWalk.i64_in _ (by omega)
      have j4 : IntKind.i64.wrap (p / 2) = p / 2 := IntWalk.i64_in _ (by omega)
      have hmi := HM.out i
      have HMLI : Hid ((me i).length ≤ 1000000) := Lib.hid (by have := HML.out i; omega)
      have HPN : Hid (p / 2 = ((k / 2 ^ (i + 1) : Nat) : Int)) := Lib.hid (by
        rw [HP.out, Nat.pow_succ, ← Nat.div_div_eq_div_mul]; generalize k / 2 ^ i = q; omega)
      by_cases hb : k / 2 ^ i % 2 = 1
      case pos =>
        rw [if_pos hb] at hmi
        have HMI := Lib.hid hmi
        have e0 : (p % 2 == 1) = true := by rw [beq_iff_eq, HP.out]; generalize k / 2 ^ i = q at hb ⊢; omega
        clear hmi hb
        generalize me i = m0 at *
        go_wp2_with (first | (at_builtin; refine list_push rfl (.tmp 15) (.tmp 17) rfl w.heap.size _ m0 rfl (HO.out.ext (by repeat first | exact yx0 _ | assumption | refine yxa ?_ _ | refine yxd ?_ | refine yxn ?_ _ | refine yxs ?_ (by simp <;> omega) _ | refine yxt ?_ (by assumption))) _ (i : Int) rfl (by first | (simp; done) | exact (Blk.new _ _ _).cell 0 _ rfl) HMLI.out (by have := HX.out.size; first | omega | (simp; omega)) ?_; intro v' w' ho hg; have HO2 := Lib.hid ho; have HX2 := Lib.hid (own_ext hg (HO.out.ext (by repeat first | exact yx0 _ | assumption | refine yxa ?_ _ | refine yxd ?_ | refine yxn ?_ _ | refine yxs ?_ (by simp <;> omega) _ | refine yxt ?_ (by assumption))) (HX.out.trans (by repeat first | exact yx0 _ | assumption | refine yxa ?_ _ | refine yxd ?_ | refine yxn ?_ _ | refine yxs ?_ (by simp <;> omega) _ | refine yxt ?_ (by assumption)))); clear ho hg))
        go_roundw
        case rel => exact ⟨i + 1, p / 2, by omega, by go_num, by first | rfl | (congr 1; omega), HPN, Lib.hid (by rw [HMI.out]; exact HO2.out), HX2⟩
        case measure => simp [intOf] <;> omega
      case neg =>
        rw [if_neg hb, List.append_nil] at hmi
        have HMI := Lib.hid hmi
        have e0 : (p % 2 == 1) = false := by rw [beq_eq_false_iff_ne, HP.out]; generalize k / 2 ^ i = q at hb ⊢; omega
        clear hmi hb
        go_wp2
        go_roundw
        case rel => exact ⟨i + 1, p / 2, by omega, by go_num, by first | rfl | (congr 1; omega), HPN, Lib.hid (by rw [HMI.out]; exact HO.out.ext (by repeat first | exact yx0 _ | assumption | refine yxa ?_ _ | refine yxd ?_ | refine yxn ?_ _ | refine yxs ?_ (by simp <;> omega) _ | refine yxt ?_ (by assumption))), Lib.hid (HX.out.trans (by repeat first | exact yx0 _ | assumption | refine yxa ?_ _ | refine yxd ?_ | refine yxn ?_ _ | refine yxs ?_ (by simp <;> omega) _ | refine yxt ?_ (by assumption)))⟩
        case measure => simp [intOf] <;> omega
theorem before_step {a b : List Int} {i : Nat} (ha : i < a.length) (hb : i < b.length) : before (a.drop i) (b.drop i) = if a.getD i 0 = b.getD i 0 then before (a.drop (i + 1)) (b.drop (i + 1)) else decide (a.getD i 0 < b.getD i 0) := by
  rw [List.drop_eq_getElem_cons ha, List.drop_eq_getElem_cons hb, before, List.getD_eq_getElem?_getD, List.getElem?_eq_getElem ha, List.getD_eq_getElem?_getD, List.getElem?_eq_getElem hb]
  rfl
theorem before_end {a b : List Int} {i : Nat} (ha : i ≤ a.length) (hb : i ≤ b.length) (h : ¬ (i < a.length ∧ i < b.length)) : before (a.drop i) (b.drop i) = decide (a.length < b.length) := by
  by_cases h1 : i = a.length
  · by_cases h2 : i = b.length
    · rw [List.drop_eq_nil_of_le (by omega), List.drop_eq_nil_of_le (by omega), before, decide_eq_false (by omega)]
    · rw [List.drop_eq_nil_of_le (by omega), List.drop_eq_getElem_cons (l := b) (by omega), before, decide_eq_true (by omega)]
  · have h2 : i = b.length := by omega
    rw [List.drop_eq_getElem_cons (l := a) (by omega), List.drop_eq_nil_of_le (show b.length ≤ i by omega), before, decide_eq_false (by omega)]
set_option maxRecDepth 100000 in
set_option maxHeartbeats 4000000 in
theorem before_any (X Y : Option Addr) (cx cy : Nat) (a b : List Int) (w : World) (h1 : RI w X a.length a) (h2 : RI w Y b.length b) : Calls Tryz.prog 66 #[.slice X a.length cx, .slice Y b.length cy] w (Ret (.bool (before a b)) w) := by
  have hb1 := h1.big; have hb2 := h2.big
  have HA := Lib.hid h1; have HB := Lib.hid h2; clear h1 h2
  have HS := Lib.hid (fun i => before_step (a := a) (b := b) (i := i))
  have HE := Lib.hid (fun i => before_end (a := a) (b := b) (i := i))
  obtain ⟨V, hV⟩ : ∃ V, V = before a b := ⟨_, rfl⟩
  rw [← hV]
  have HV0 : Hid (V = before (a.drop 0) (b.drop 0)) := Lib.hid (by rw [hV]; rfl)
  clear hV
  go_enter Tryz.func66, Tryz.ntmps66
  go_wp2
  go_loopw [5] (fun j wr => ∃ i : Nat, i ≤ a.length ∧ i ≤ b.length ∧ j = .int .i64 (i : Int) ∧ Hid (V = before (a.drop i) (b.drop i)) ∧ Hid (Ext w wr)) (fun j _ => a.length - (intOf j).toNat)
  case atStart => exact ⟨0, Nat.zero_le _, Nat.zero_le _, rfl, HV0, Lib.hid (Ext.refl _)⟩
  case round =>
    obtain ⟨i, hi1, hi2, rfl, HV, HX⟩ := hrel
    clear HV0
    by_cases hl : i < a.length ∧ i < b.length
    case neg =>
      have hv := HV.out.trans (HE.out i hi1 hi2 hl)
      rcases (show (¬ (i : Int) < (a.length : Int)) ∨ ((i : Int) < (a.length : Int) ∧ ¬ (i : Int) < (b.length : Int)) by omega) with i1 | ⟨i1, i2⟩
      · clear HV HS HE hl
        go_wp2
        go_ret
        exact Ret.mk' (by first | rfl | (rw [hv]; simp)) (HX.out.trans (by repeat first | exact yx0 _ | assumption | refine yxa ?_ _ | refine yxd ?_ | refine yxn ?_ _ | refine yxs ?_ (by simp <;> omega) _ | refine yxt ?_ (by assumption)))
      · clear HV HS HE hl
        go_wp2
        go_ret
        exact Ret.mk' (by first | rfl | (rw [hv]; simp)) (HX.out.trans (by repeat first | exact yx0 _ | assumption | refine yxa ?_ _ | refine yxd ?_ | refine yxn ?_ _ | refine yxs ?_ (by simp <;> omega) _ | refine yxt ?_ (by assumption)))
    case pos =>
      have i1 : (i : Int) < (a.length : Int) := by omega
      have i2 : (i : Int) < (b.length : Int) := by omega
      have hs := HV.out.trans (HS.out i hl.1 hl.2)
      obtain ⟨ab, ao, rfl, hab, hac⟩ := (HA.out.ext HX.out).2.2 (by omega)
      obtain ⟨bb, bo, rfl, hbb, hbc⟩ := (HB.out.ext HX.out).2.2 (by omega)
      have ca := hac i hl.1
      have cb := hbc i hl.2
      have HCA := Lib.hid ca; have HCB := Lib.hid cb; have HAB := Lib.hid hab; have HBB := Lib.hid hbb
      have HSS := Lib.hid hs
      clear hac hbc ca cb hs HS HE HV hl
      generalize a.getD i 0 = x at *
      generalize b.getD i 0 = y at *
      go_upto_region 4 with fail
      refine wp_region_steady (Ext _) [?_, ?_, ?_, ?_, ?_, ?_, ?_, ?_, ?_] (by kernel_rfl) (by kernel_rfl) rfl (Ext.refl _).drew ?_ ?_
      rotate_left 9
      · refine StepsT.cons (fun W hW => ?_) ?_
        · have ca := (hW.cell (p := ⟨ab, ao + i, none⟩) HAB.out).trans HCA.out; have cb := (hW.cell (p := ⟨bb, bo + i, none⟩) HBB.out).trans HCB.out; have cal : ab < W.heap.size := Nat.lt_of_lt_of_le HAB.out hW.size; have cbl : bb < W.heap.size := Nat.lt_of_lt_of_le HBB.out hW.size; first | (refine StepT.off rfl hW ?_; rfl) | (refine StepT.go rfl ?_; go_simp; first | (refine ⟨?_, hW⟩; rfl))
        simp only [Act.put, List.setIfInBounds_toArray, List.set_cons_zero, List.set_cons_succ]
        refine StepsT.cons (fun W hW => ?_) ?_
        · have ca := (hW.cell (p := ⟨ab, ao + i, none⟩) HAB.out).trans HCA.out; have cb := (hW.cell (p := ⟨bb, bo + i, none⟩) HBB.out).trans HCB.out; have cal : ab < W.heap.size := Nat.lt_of_lt_of_le HAB.out hW.size; have cbl : bb < W.heap.size := Nat.lt_of_lt_of_le HBB.out hW.size; first | (refine StepT.off rfl hW ?_; rfl) | (refine StepT.go rfl ?_; go_simp; first | (refine ⟨?_, hW⟩; rfl))
        simp only [Act.put, List.setIfInBounds_toArray, List.set_cons_zero, List.set_cons_succ]
        refine StepsT.cons (fun W hW => ?_) ?_
        · have ca := (hW.cell (p := ⟨ab, ao + i, none⟩) HAB.out).trans HCA.out; have cb := (hW.cell (p := ⟨bb, bo + i, none⟩) HBB.out).trans HCB.out; have cal : ab < W.heap.size := Nat.lt_of_lt_of_le HAB.out hW.size; have cbl : bb < W.heap.size := Nat.lt_of_lt_of_le HBB.out hW.size; first | (refine StepT.off rfl hW ?_; rfl) | (refine StepT.go rfl ?_; go_simp; first | (refine ⟨?_, hW⟩; rfl))
        simp only [Act.put, List.setIfInBounds_toArray, List.set_cons_zero, List.set_cons_succ]
        refine StepsT.cons (fun W hW => ?_) ?_
        · have ca := (hW.cell (p := ⟨ab, ao + i, none⟩) HAB.out).trans HCA.out; have cb := (hW.cell (p := ⟨bb, bo + i, none⟩) HBB.out).trans HCB.out; have cal : ab < W.heap.size := Nat.lt_of_lt_of_le HAB.out hW.size; have cbl : bb < W.heap.size := Nat.lt_of_lt_of_le HBB.out hW.size; first | (refine StepT.off rfl hW ?_; rfl) | (refine StepT.go rfl ?_; go_simp; first | (refine ⟨?_, hW⟩; rfl))
        simp only [Act.put, List.setIfInBounds_toArray, List.set_cons_zero, List.set_cons_succ]
        refine StepsT.cons (fun W hW => ?_) ?_
        · have ca := (hW.cell (p := ⟨ab, ao + i, none⟩) HAB.out).trans HCA.out; have cb := (hW.cell (p := ⟨bb, bo + i, none⟩) HBB.out).trans HCB.out; have cal : ab < W.heap.size := Nat.lt_of_lt_of_le HAB.out hW.size; have cbl : bb < W.heap.size := Nat.lt_of_lt_of_le HBB.out hW.size; first | (refine StepT.off rfl hW ?_; rfl) | (refine StepT.go rfl ?_; go_simp; first | (refine ⟨?_, hW⟩; rfl))
        simp only [Act.put, List.setIfInBounds_toArray, List.set_cons_zero, List.set_cons_succ]
        refine StepsT.cons (fun W hW => ?_) ?_
        · have ca := (hW.cell (p := ⟨ab, ao + i, none⟩) HAB.out).trans HCA.out; have cb := (hW.cell (p := ⟨bb, bo + i, none⟩) HBB.out).trans HCB.out; have cal : ab < W.heap.size := Nat.lt_of_lt_of_le HAB.out hW.size; have cbl : bb < W.heap.size := Nat.lt_of_lt_of_le HBB.out hW.size; first | (refine StepT.off rfl hW ?_; rfl) | (refine StepT.go rfl ?_; go_simp; first | (refine ⟨?_, hW⟩; rfl))
        simp only [Act.put, List.setIfInBounds_toArray, List.set_cons_zero, List.set_cons_succ]
        refine StepsT.cons (fun W hW => ?_) ?_
        · have ca := (hW.cell (p := ⟨ab, ao + i, none⟩) HAB.out).trans HCA.out; have cb := (hW.cell (p := ⟨bb, bo + i, none⟩) HBB.out).trans HCB.out; have cal : ab < W.heap.size := Nat.lt_of_lt_of_le HAB.out hW.size; have cbl : bb < W.heap.size := Nat.lt_of_lt_of_le HBB.out hW.size; first | (refine StepT.off rfl hW ?_; rfl) | (refine StepT.go rfl ?_; go_simp; first | (refine ⟨?_, hW⟩; rfl))
        simp only [Act.put, List.setIfInBounds_toArray, List.set_cons_zero, List.set_cons_succ]
        refine StepsT.cons (fun W hW => ?_) ?_
        · have ca := (hW.cell (p := ⟨ab, ao + i, none⟩) HAB.out).trans HCA.out; have cb := (hW.cell (p := ⟨bb, bo + i, none⟩) HBB.out).trans HCB.out; have cal : ab < W.heap.size := Nat.lt_of_lt_of_le HAB.out hW.size; have cbl : bb < W.heap.size := Nat.lt_of_lt_of_le HBB.out hW.size; first | (refine StepT.off rfl hW ?_; rfl) | (refine StepT.go rfl ?_; go_simp; first | (refine ⟨?_, hW⟩; rfl))
        simp only [Act.put, List.setIfInBounds_toArray, List.set_cons_zero, List.set_cons_succ]
        refine StepsT.cons (fun W hW => ?_) ?_
        · have ca := (hW.cell (p := ⟨ab, ao + i, none⟩) HAB.out).trans HCA.out; have cb := (hW.cell (p := ⟨bb, bo + i, none⟩) HBB.out).trans HCB.out; have cal : ab < W.heap.size := Nat.lt_of_lt_of_le HAB.out hW.size; have cbl : bb < W.heap.size := Nat.lt_of_lt_of_le HBB.out hW.size; first | (refine StepT.off rfl hW ?_; rfl) | (refine StepT.go rfl ?_; go_simp; first | (refine ⟨?_, hW⟩; rfl))
        simp only [Act.put, List.setIfInBounds_toArray, List.set_cons_zero, List.set_cons_succ]
        trivial
      intro W hW
      simp only [putAll, Act.put, List.setIfInBounds_toArray, List.set_cons_zero, List.set_cons_succ]
      by_cases hxy : x = y
      case pos =>
        have hn := HSS.out
        rw [if_pos hxy] at hn
        have HN := Lib.hid hn
        have HX3 := Lib.hid (HX.out.trans hW)
        have e0 : (x != y) = false := by rw [bne_eq_false_iff_eq]; exact hxy
        clear hn hxy
        go_wp2
        go_roundw
        case rel => exact ⟨i + 1, by omega, by omega, by go_num, HN, HX3⟩
        case measure => simp [intOf] <;> omega
      case neg =>
        have hn := HSS.out
        rw [if_neg hxy] at hn
        have HN := Lib.hid hn
        have e0 : (x != y) = true := by rw [bne_iff_ne]; exact hxy
        have HCA2 := Lib.hid ((hW.cell (p := ⟨ab, ao + i, none⟩) HAB.out).trans HCA.out)
        have HCB2 := Lib.hid ((hW.cell (p := ⟨bb, bo + i, none⟩) HBB.out).trans HCB.out)
        have HZ2 : Hid (ab < W.heap.size ∧ bb < W.heap.size) := Lib.hid ⟨Nat.lt_of_lt_of_le HAB.out hW.size, Nat.lt_of_lt_of_le HBB.out hW.size⟩
        have HX3 := Lib.hid (HX.out.trans hW)
        clear hn hxy hW
        go_upto_region 5 with fail
        refine wp_region_steady (Ext _) [?_, ?_, ?_, ?_, ?_, ?_, ?_, ?_, ?_, ?_] (by kernel_rfl) (by kernel_rfl) rfl (Ext.refl _).drew ?_ ?_
        rotate_left 10
        · refine StepsT.cons (fun W hW => ?_) ?_
          · have ca := (hW.cell (p := ⟨ab, ao + i, none⟩) HZ2.out.1).trans HCA2.out; have cb := (hW.cell (p := ⟨bb, bo + i, none⟩) HZ2.out.2).trans HCB2.out; have cal : ab < W.heap.size := Nat.lt_of_lt_of_le HZ2.out.1 hW.size; have cbl : bb < W.heap.size := Nat.lt_of_lt_of_le HZ2.out.2 hW.size; first | (refine StepT.off rfl hW ?_; rfl) | (refine StepT.go rfl ?_; go_simp; first | (refine ⟨?_, hW⟩; rfl))
          simp only [Act.put, List.setIfInBounds_toArray, List.set_cons_zero, List.set_cons_succ]
          refine StepsT.cons (fun W hW => ?_) ?_
          · have ca := (hW.cell (p := ⟨ab, ao + i, none⟩) HZ2.out.1).trans HCA2.out; have cb := (hW.cell (p := ⟨bb, bo + i, none⟩) HZ2.out.2).trans HCB2.out; have cal : ab < W.heap.size := Nat.lt_of_lt_of_le HZ2.out.1 hW.size; have cbl : bb < W.heap.size := Nat.lt_of_lt_of_le HZ2.out.2 hW.size; first | (refine StepT.off rfl hW ?_; rfl) | (refine StepT.go rfl ?_; go_simp; first | (refine ⟨?_, hW⟩; rfl))
          simp only [Act.put, List.setIfInBounds_toArray, List.set_cons_zero, List.set_cons_succ]
          refine StepsT.cons (fun W hW => ?_) ?_
          · have ca := (hW.cell (p := ⟨ab, ao + i, none⟩) HZ2.out.1).trans HCA2.out; have cb := (hW.cell (p := ⟨bb, bo + i, none⟩) HZ2.out.2).trans HCB2.out; have cal : ab < W.heap.size := Nat.lt_of_lt_of_le HZ2.out.1 hW.size; have cbl : bb < W.heap.size := Nat.lt_of_lt_of_le HZ2.out.2 hW.size; first | (refine StepT.off rfl hW ?_; rfl) | (refine StepT.go rfl ?_; go_simp; first | (refine ⟨?_, hW⟩; rfl))
          simp only [Act.put, List.setIfInBounds_toArray, List.set_cons_zero, List.set_cons_succ]
          refine StepsT.cons (fun W hW => ?_) ?_
          · have ca := (hW.cell (p := ⟨ab, ao + i, none⟩) HZ2.out.1).trans HCA2.out; have cb := (hW.cell (p := ⟨bb, bo + i, none⟩) HZ2.out.2).trans HCB2.out; have cal : ab < W.heap.size := Nat.lt_of_lt_of_le HZ2.out.1 hW.size; have cbl : bb < W.heap.size := Nat.lt_of_lt_of_le HZ2.out.2 hW.size; first | (refine StepT.off rfl hW ?_; rfl) | (refine StepT.go rfl ?_; go_simp; first | (refine ⟨?_, hW⟩; rfl))
          simp only [Act.put, List.setIfInBounds_toArray, List.set_cons_zero, List.set_cons_succ]
          refine StepsT.cons (fun W hW => ?_) ?_
          · have ca := (hW.cell (p := ⟨ab, ao + i, none⟩) HZ2.out.1).trans HCA2.out; have cb := (hW.cell (p := ⟨bb, bo + i, none⟩) HZ2.out.2).trans HCB2.out; have cal : ab < W.heap.size := Nat.lt_of_lt_of_le HZ2.out.1 hW.size; have cbl : bb < W.heap.size := Nat.lt_of_lt_of_le HZ2.out.2 hW.size; first | (refine StepT.off rfl hW ?_; rfl) | (refine StepT.go rfl ?_; go_simp; first | (refine ⟨?_, hW⟩; rfl))
          simp only [Act.put, List.setIfInBounds_toArray, List.set_cons_zero, List.set_cons_succ]
          refine StepsT.cons (fun W hW => ?_) ?_
          · have ca := (hW.cell (p := ⟨ab, ao + i, none⟩) HZ2.out.1).trans HCA2.out; have cb := (hW.cell (p := ⟨bb, bo + i, none⟩) HZ2.out.2).trans HCB2.out; have cal : ab < W.heap.size := Nat.lt_of_lt_of_le HZ2.out.1 hW.size; have cbl : bb < W.heap.size := Nat.lt_of_lt_of_le HZ2.out.2 hW.size; first | (refine StepT.off rfl hW ?_; rfl) | (refine StepT.go rfl ?_; go_simp; first | (refine ⟨?_, hW⟩; rfl))
          simp only [Act.put, List.setIfInBounds_toArray, List.set_cons_zero, List.set_cons_succ]
          refine StepsT.cons (fun W hW => ?_) ?_
          · have ca := (hW.cell (p := ⟨ab, ao + i, none⟩) HZ2.out.1).trans HCA2.out; have cb := (hW.cell (p := ⟨bb, bo + i, none⟩) HZ2.out.2).trans HCB2.out; have cal : ab < W.heap.size := Nat.lt_of_lt_of_le HZ2.out.1 hW.size; have cbl : bb < W.heap.size := Nat.lt_of_lt_of_le HZ2.out.2 hW.size; first | (refine StepT.off rfl hW ?_; rfl) | (refine StepT.go rfl ?_; go_simp; first | (refine ⟨?_, hW⟩; rfl))
          simp only [Act.put, List.setIfInBounds_toArray, List.set_cons_zero, List.set_cons_succ]
          refine StepsT.cons (fun W hW => ?_) ?_
          · have ca := (hW.cell (p := ⟨ab, ao + i, none⟩) HZ2.out.1).trans HCA2.out; have cb := (hW.cell (p := ⟨bb, bo + i, none⟩) HZ2.out.2).trans HCB2.out; have cal : ab < W.heap.size := Nat.lt_of_lt_of_le HZ2.out.1 hW.size; have cbl : bb < W.heap.size := Nat.lt_of_lt_of_le HZ2.out.2 hW.size; first | (refine StepT.off rfl hW ?_; rfl) | (refine StepT.go rfl ?_; go_simp; first | (refine ⟨?_, hW⟩; rfl))
          simp only [Act.put, List.setIfInBounds_toArray, List.set_cons_zero, List.set_cons_succ]
          refine StepsT.cons (fun W hW => ?_) ?_
          · have ca := (hW.cell (p := ⟨ab, ao + i, none⟩) HZ2.out.1).trans HCA2.out; have cb := (hW.cell (p := ⟨bb, bo + i, none⟩) HZ2.out.2).trans HCB2.out; have cal : ab < W.heap.size := Nat.lt_of_lt_of_le HZ2.out.1 hW.size; have cbl : bb < W.heap.size := Nat.lt_of_lt_of_le HZ2.out.2 hW.size; first | (refine StepT.off rfl hW ?_; rfl) | (refine StepT.go rfl ?_; go_simp; first | (refine ⟨?_, hW⟩; rfl))
          simp only [Act.put, List.setIfInBounds_toArray, List.set_cons_zero, List.set_cons_succ]
          refine StepsT.cons (fun W hW => ?_) ?_
          · have ca := (hW.cell (p := ⟨ab, ao + i, none⟩) HZ2.out.1).trans HCA2.out; have cb := (hW.cell (p := ⟨bb, bo + i, none⟩) HZ2.out.2).trans HCB2.out; have cal : ab < W.heap.size := Nat.lt_of_lt_of_le HZ2.out.1 hW.size; have cbl : bb < W.heap.size := Nat.lt_of_lt_of_le HZ2.out.2 hW.size; first | (refine StepT.off rfl hW ?_; rfl) | (refine StepT.go rfl ?_; go_simp; first | (refine ⟨?_, hW⟩; rfl))
          simp only [Act.put, List.setIfInBounds_toArray, List.set_cons_zero, List.set_cons_succ]
          trivial
        intro W hW
        simp only [putAll, Act.put, List.setIfInBounds_toArray, List.set_cons_zero, List.set_cons_succ]
        go_wp2
        go_ret
        exact Ret.mk' (by first | rfl | (rw [HN.out]; first | rfl | simp)) (HX3.out.trans (Ext.trans hW (by repeat first | exact yx0 _ | assumption | refine yxa ?_ _ | refine yxd ?_ | refine yxn ?_ _ | refine yxs ?_ (by simp <;> omega) _ | refine yxt ?_ (by assumption))))
end Go.Proofs.YtfkjhgcablakgaaGreatDoor
