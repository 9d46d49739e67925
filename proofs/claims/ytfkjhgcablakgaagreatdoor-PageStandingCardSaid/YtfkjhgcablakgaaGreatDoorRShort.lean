/-
  Walks: the reference's first sort that a set lacks.
-/
import Derived.Test.YtfkjhgcablakgaaGreatDoorPStand
import Derived.Test.YtfkjhgcablakgaaGreatDoorGD
namespace Go.Proofs.YtfkjhgcablakgaaGreatDoor
open Go.RowKit
attribute [local go_sem ↓] Go.wp_at_zero Go.wp_at_succ

set_option maxRecDepth 100000 in
set_option maxHeartbeats 8000000 in
theorem rShort_any (s : ST) (X : Option Addr) (cx : Nat) (set : List Int) (w : World) (hs : SR w s) (hx : RI w X set.length set) (hr : Right s) (hp : Rise 0 s.ns.length set) :
    Calls Tryz.prog 26 #[s.val, .slice X set.length cx] w (Ret (.int .i64 (shortE s.cs s.zs set - 1)) w) := by
  have hbig := hs.rc.big
  have hle := rise_len hp (by omega)
  have hfew := hr.few
  have HRX := Lib.hid hx; have HRC := Lib.hid hs.rc; have HRN := Lib.hid hs.rn
  have HUB := Lib.hid (fun k i => hr.use set k i)
  have HND := Lib.hid hr.need
  have HLN := Lib.hid hr.lens
  have HPR : Hid (∀ i, i < set.length → 0 ≤ set.getD i 0 ∧ set.getD i 0 < (s.ns.length : Int)) := Lib.hid fun i hi => hp.2 _ (by
    rw [List.getD_eq_getElem?_getD, List.getElem?_eq_getElem hi]; exact List.getElem_mem hi)
  have HNA : Hid (∀ n k, needAt s.zs n k = (s.ns.getD n.toNat SI.none_).zs.getD k 0) := Lib.hid fun n k => s.need n k
  have HUS : Hid (∀ k i, useK s.zs set k (i + 1) = useK s.zs set k i + needAt s.zs (set.getD i 0) k) := Lib.hid fun _ _ => rfl
  have HU0 : Hid (∀ k, useK s.zs set k 0 = 0) := Lib.hid fun _ => rfl
  have HV1 : Hid (∀ k, (∀ j, j < k → useK s.zs set j set.length ≤ s.cs.getD j 0) → k < s.cs.length → s.cs.getD k 0 < useK s.zs set k set.length → shortE s.cs s.zs set - 1 = (k : Int)) := Lib.hid fun k h0 hk hb => by
    rw [shortE_hit h0 hk hb]; omega
  have HV0 : Hid ((∀ j, j < s.cs.length → useK s.zs set j set.length ≤ s.cs.getD j 0) → shortE s.cs s.zs set - 1 = -1) := Lib.hid fun h => by
    rw [shortE_zero.2 h]; rfl
  clear hs hx hr hp
  generalize shortE s.cs s.zs set - 1 = V at *
  obtain ⟨use, huse⟩ : ∃ use, use = useK s.zs set := ⟨_, rfl⟩
  rw [← huse] at HUB HUS HU0 HV1 HV0
  obtain ⟨need, hneed⟩ : ∃ need, need = needAt s.zs := ⟨_, rfl⟩
  rw [← hneed] at HND HNA HUS
  clear huse hneed
  obtain ⟨B, d, cs, D, e, ns⟩ := s
  simp only [ST.val] at *
  go_enter Tryz.func26, Tryz.ntmps26
  have HS1 : Hid (Blk (w.alloc (.cells #[.slice B cs.length d, .slice D ns.length e] 45)) w.heap.size 45 #[.slice B cs.length d, .slice D ns.length e]) := Lib.hid (Blk.new w _ _)
  go_wp2
  go_loopw [5] (fun j wr => ∃ k : Nat, k ≤ cs.length ∧ j = .int .i64 (k : Int) ∧ Hid (∀ j, j < k → use j set.length ≤ cs.getD j 0) ∧ Hid (Blk wr w.heap.size 45 #[.slice B cs.length d, .slice D ns.length e]) ∧ Hid (Ext w wr)) (fun j _ => cs.length - (intOf j).toNat)
  case atStart => exact ⟨0, Nat.zero_le _, rfl, Lib.hid (fun j hj => absurd hj (by omega)), HS1, Lib.hid (by repeat first | exact yx0 _ | assumption | refine yxa ?_ _ | refine yxd ?_ | refine yxn ?_ _ | refine yxs ?_ (by simp <;> omega) _ | refine yxt ?_ (by assumption))⟩
  case round =>
    obtain ⟨k, hk, rfl, H0, HS, HX⟩ := hrel
    clear HS1
    obtain ⟨m0, m1, _, _, ml⟩ := HS.out.c2
    by_cases hlt : k < cs.length
    case neg =>
      obtain rfl : k = cs.length := by omega
      have i3 : ¬ (cs.length : Int) < (cs.length : Int) := by omega
      have hV := HV0.out H0.out
      subst hV
      clear hlt
      go_wp2
      go_ret
      exact Ret.mk' rfl (HX.out.trans (by repeat first | exact yx0 _ | assumption | refine yxa ?_ _ | refine yxd ?_ | refine yxn ?_ _ | refine yxs ?_ (by simp <;> omega) _ | refine yxt ?_ (by assumption)))
    case pos =>
      have i3 : (k : Int) < (cs.length : Int) := by omega
      obtain ⟨b, off, rfl, hbw, hcell⟩ := HRC.out.2.2 (by omega)
      have ci0 := hcell k hlt
      have HHV := Lib.hid (fun hb => HV1.out k H0.out hlt hb)
      have HNX : Hid (use k set.length ≤ cs.getD k 0 → ∀ j, j < k + 1 → use j set.length ≤ cs.getD j 0) := Lib.hid fun h j hj => by
        rcases Nat.lt_or_ge j k with h9 | h9
        · exact H0.out j h9
        · obtain rfl : j = k := by omega
          exact h
      have HUI := Lib.hid (fun i => HUB.out k i)
      have HUJ := Lib.hid (fun i => HUS.out k i)
      have hu0 := HU0.out k
      have HNK := Lib.hid (fun n => HNA.out n k)
      have HNB := Lib.hid (fun n => HND.out n k)
      clear hcell H0 HV1 HV0 HUB HUS HU0 HNA HND
      generalize hcx : cs.getD k 0 = x at *
      generalize use k = u at *
      have HCI := Lib.hid ci0; have HBW := Lib.hid hbw
      clear ci0 hbw
      have HS1 := HS; have HX1 := HX
      go_wp2
      clear m0 m1 ml HS HX
      go_loopw [7, 6] (fun j v wr => ∃ i : Nat, i ≤ set.length ∧ j = .int .i64 (i : Int) ∧ v = .int .i64 (u i) ∧ Hid (Blk wr w.heap.size 45 #[.slice (some ⟨b, off, none⟩) cs.length d, .slice D ns.length e]) ∧ Hid (Ext w wr)) (fun j _ _ => set.length - (intOf j).toNat)
      case atStart => exact ⟨0, Nat.zero_le _, rfl, by rw [hu0], HS1, HX1⟩
      case round =>
        obtain ⟨i, hi, rfl, rfl, HS, HX⟩ := hrel
        clear HS1 HX1
        obtain ⟨m0, m1, _, _, ml⟩ := HS.out.c2
        have hub := HUI.out i
        by_cases hil : i < set.length
        case pos =>
          have i4 : (i : Int) < (set.length : Int) := by omega
          obtain ⟨sb, so, rfl, hsb, hsc⟩ := (HRX.out.ext HX.out).2.2 (by omega)
          have si := hsc i hil
          obtain ⟨p1, p2⟩ := HPR.out i hil
          have huj := HUJ.out i
          have hnk := HNK.out (set.getD i 0)
          have hnb := HNB.out (set.getD i 0)
          generalize set.getD i 0 = p at *
          obtain ⟨q, rfl⟩ : ∃ q : Nat, p = (q : Int) := ⟨p.toNat, by omega⟩
          have hql : q < ns.length := by omega
          have hql2 : (q : Int) < (ns.length : Int) := by omega
          have hln := HLN.out q hql
          obtain ⟨nb, no, rfl, hnbw, hnc⟩ := (HRN.out.ext HX.out).2.2.1 (by omega)
          have nq := hnc q hql
          have hri := (HRN.out.ext HX.out).2.2.2 q hql
          rw [Int.toNat_natCast] at hnk
          generalize ns.getD q SI.none_ = r at *
          obtain ⟨rA, rc, zs⟩ := r
          simp only [SI.val] at *
          obtain ⟨zb, zo, rfl, hzb, hzc⟩ := hri.2.2 (by omega)
          have zk := hzc k (by omega)
          have hzl : (k : Int) < (zs.length : Int) := by omega
          rw [← hnk] at zk
          generalize need (q : Int) k = y at *
          have hub2 := HUI.out (i + 1)
          have hw : IntKind.i64.wrap (u i + y) = u (i + 1) := by rw [IntWalk.i64_in _ (by omega)]; omega
          have HSI := Lib.hid si; have HNQ := Lib.hid nq; have HZK := Lib.hid zk; have HBS : Hid (sb < wr.heap.size ∧ nb < wr.heap.size ∧ zb < wr.heap.size) := Lib.hid ⟨hsb, hnbw, hzb⟩
          clear hsc hnc hzc hri si nq zk hnk
          go_upto_region 8 with fail
          refine wp_region_steady (Ext _) [?_, ?_, ?_, ?_, ?_, ?_, ?_, ?_, ?_, ?_, ?_, ?_, ?_, ?_] (by kernel_rfl) (by kernel_rfl) rfl (Ext.refl _).drew ?_ ?_
          rotate_left 14
          · refine StepsT.cons (fun W hW => ?_) ?_
            · have si := (hW.cell (p := ⟨sb, so + i, none⟩) HBS.out.1).trans HSI.out; have nq := (hW.cell (p := ⟨nb, no + q, none⟩) HBS.out.2.1).trans HNQ.out; have zk := (hW.cell (p := ⟨zb, zo + k, none⟩) HBS.out.2.2).trans HZK.out; obtain ⟨b1, b2, b3⟩ := HBS.out; have b4 := hW.size; obtain ⟨m0, m1, _, _, ml⟩ := (HS.out.ext hW).c2; first | (refine StepT.off rfl hW ?_; rfl) | (refine StepT.go rfl ?_; go_simp; first | (refine ⟨?_, hW⟩; rfl))
            simp only [Act.put, List.setIfInBounds_toArray, List.set_cons_zero, List.set_cons_succ]
            refine StepsT.cons (fun W hW => ?_) ?_
            · have si := (hW.cell (p := ⟨sb, so + i, none⟩) HBS.out.1).trans HSI.out; have nq := (hW.cell (p := ⟨nb, no + q, none⟩) HBS.out.2.1).trans HNQ.out; have zk := (hW.cell (p := ⟨zb, zo + k, none⟩) HBS.out.2.2).trans HZK.out; obtain ⟨b1, b2, b3⟩ := HBS.out; have b4 := hW.size; obtain ⟨m0, m1, _, _, ml⟩ := (HS.out.ext hW).c2; first | (refine StepT.off rfl hW ?_; rfl) | (refine StepT.go rfl ?_; go_simp; first | (refine ⟨?_, hW⟩; rfl))
            simp only [Act.put, List.setIfInBounds_toArray, List.set_cons_zero, List.set_cons_succ]
            refine StepsT.cons (fun W hW => ?_) ?_
            · have si := (hW.cell (p := ⟨sb, so + i, none⟩) HBS.out.1).trans HSI.out; have nq := (hW.cell (p := ⟨nb, no + q, none⟩) HBS.out.2.1).trans HNQ.out; have zk := (hW.cell (p := ⟨zb, zo + k, none⟩) HBS.out.2.2).trans HZK.out; obtain ⟨b1, b2, b3⟩ := HBS.out; have b4 := hW.size; obtain ⟨m0, m1, _, _, ml⟩ := (HS.out.ext hW).c2; first | (refine StepT.off rfl hW ?_; rfl) | (refine StepT.go rfl ?_; go_simp; first | (refine ⟨?_, hW⟩; rfl))
            simp only [Act.put, List.setIfInBounds_toArray, List.set_cons_zero, List.set_cons_succ]
            refine StepsT.cons (fun W hW => ?_) ?_
            · have si := (hW.cell (p := ⟨sb, so + i, none⟩) HBS.out.1).trans HSI.out; have nq := (hW.cell (p := ⟨nb, no + q, none⟩) HBS.out.2.1).trans HNQ.out; have zk := (hW.cell (p := ⟨zb, zo + k, none⟩) HBS.out.2.2).trans HZK.out; obtain ⟨b1, b2, b3⟩ := HBS.out; have b4 := hW.size; obtain ⟨m0, m1, _, _, ml⟩ := (HS.out.ext hW).c2; first | (refine StepT.off rfl hW ?_; rfl) | (refine StepT.go rfl ?_; go_simp; first | (refine ⟨?_, hW⟩; rfl))
            simp only [Act.put, List.setIfInBounds_toArray, List.set_cons_zero, List.set_cons_succ]
            refine StepsT.cons (fun W hW => ?_) ?_
            · have si := (hW.cell (p := ⟨sb, so + i, none⟩) HBS.out.1).trans HSI.out; have nq := (hW.cell (p := ⟨nb, no + q, none⟩) HBS.out.2.1).trans HNQ.out; have zk := (hW.cell (p := ⟨zb, zo + k, none⟩) HBS.out.2.2).trans HZK.out; obtain ⟨b1, b2, b3⟩ := HBS.out; have b4 := hW.size; obtain ⟨m0, m1, _, _, ml⟩ := (HS.out.ext hW).c2; first | (refine StepT.off rfl hW ?_; rfl) | (refine StepT.go rfl ?_; go_simp; first | (refine ⟨?_, hW⟩; rfl))
            simp only [Act.put, List.setIfInBounds_toArray, List.set_cons_zero, List.set_cons_succ]
            refine StepsT.cons (fun W hW => ?_) ?_
            · have si := (hW.cell (p := ⟨sb, so + i, none⟩) HBS.out.1).trans HSI.out; have nq := (hW.cell (p := ⟨nb, no + q, none⟩) HBS.out.2.1).trans HNQ.out; have zk := (hW.cell (p := ⟨zb, zo + k, none⟩) HBS.out.2.2).trans HZK.out; obtain ⟨b1, b2, b3⟩ := HBS.out; have b4 := hW.size; obtain ⟨m0, m1, _, _, ml⟩ := (HS.out.ext hW).c2; first | (refine StepT.off rfl hW ?_; rfl) | (refine StepT.go rfl ?_; go_simp; first | (refine ⟨?_, hW⟩; rfl))
            simp only [Act.put, List.setIfInBounds_toArray, List.set_cons_zero, List.set_cons_succ]
            refine StepsT.cons (fun W hW => ?_) ?_
            · have si := (hW.cell (p := ⟨sb, so + i, none⟩) HBS.out.1).trans HSI.out; have nq := (hW.cell (p := ⟨nb, no + q, none⟩) HBS.out.2.1).trans HNQ.out; have zk := (hW.cell (p := ⟨zb, zo + k, none⟩) HBS.out.2.2).trans HZK.out; obtain ⟨b1, b2, b3⟩ := HBS.out; have b4 := hW.size; obtain ⟨m0, m1, _, _, ml⟩ := (HS.out.ext hW).c2; first | (refine StepT.off rfl hW ?_; rfl) | (refine StepT.go rfl ?_; go_simp; first | (refine ⟨?_, hW⟩; rfl))
            simp only [Act.put, List.setIfInBounds_toArray, List.set_cons_zero, List.set_cons_succ]
            refine StepsT.cons (fun W hW => ?_) ?_
            · have si := (hW.cell (p := ⟨sb, so + i, none⟩) HBS.out.1).trans HSI.out; have nq := (hW.cell (p := ⟨nb, no + q, none⟩) HBS.out.2.1).trans HNQ.out; have zk := (hW.cell (p := ⟨zb, zo + k, none⟩) HBS.out.2.2).trans HZK.out; obtain ⟨b1, b2, b3⟩ := HBS.out; have b4 := hW.size; obtain ⟨m0, m1, _, _, ml⟩ := (HS.out.ext hW).c2; first | (refine StepT.off rfl hW ?_; rfl) | (refine StepT.go rfl ?_; go_simp; first | (refine ⟨?_, hW⟩; rfl))
            simp only [Act.put, List.setIfInBounds_toArray, List.set_cons_zero, List.set_cons_succ]
            refine StepsT.cons (fun W hW => ?_) ?_
            · have si := (hW.cell (p := ⟨sb, so + i, none⟩) HBS.out.1).trans HSI.out; have nq := (hW.cell (p := ⟨nb, no + q, none⟩) HBS.out.2.1).trans HNQ.out; have zk := (hW.cell (p := ⟨zb, zo + k, none⟩) HBS.out.2.2).trans HZK.out; obtain ⟨b1, b2, b3⟩ := HBS.out; have b4 := hW.size; obtain ⟨m0, m1, _, _, ml⟩ := (HS.out.ext hW).c2; first | (refine StepT.off rfl hW ?_; rfl) | (refine StepT.go rfl ?_; go_simp; first | (refine ⟨?_, hW⟩; rfl))
            simp only [Act.put, List.setIfInBounds_toArray, List.set_cons_zero, List.set_cons_succ]
            refine StepsT.cons (fun W hW => ?_) ?_
            · have si := (hW.cell (p := ⟨sb, so + i, none⟩) HBS.out.1).trans HSI.out; have nq := (hW.cell (p := ⟨nb, no + q, none⟩) HBS.out.2.1).trans HNQ.out; have zk := (hW.cell (p := ⟨zb, zo + k, none⟩) HBS.out.2.2).trans HZK.out; obtain ⟨b1, b2, b3⟩ := HBS.out; have b4 := hW.size; obtain ⟨m0, m1, _, _, ml⟩ := (HS.out.ext hW).c2; first | (refine StepT.off rfl hW ?_; rfl) | (refine StepT.go rfl ?_; go_simp; first | (refine ⟨?_, hW⟩; rfl))
            simp only [Act.put, List.setIfInBounds_toArray, List.set_cons_zero, List.set_cons_succ]
            refine StepsT.cons (fun W hW => ?_) ?_
            · have si := (hW.cell (p := ⟨sb, so + i, none⟩) HBS.out.1).trans HSI.out; have nq := (hW.cell (p := ⟨nb, no + q, none⟩) HBS.out.2.1).trans HNQ.out; have zk := (hW.cell (p := ⟨zb, zo + k, none⟩) HBS.out.2.2).trans HZK.out; obtain ⟨b1, b2, b3⟩ := HBS.out; have b4 := hW.size; obtain ⟨m0, m1, _, _, ml⟩ := (HS.out.ext hW).c2; first | (refine StepT.off rfl hW ?_; rfl) | (refine StepT.go rfl ?_; go_simp; first | (refine ⟨?_, hW⟩; rfl))
            simp only [Act.put, List.setIfInBounds_toArray, List.set_cons_zero, List.set_cons_succ]
            refine StepsT.cons (fun W hW => ?_) ?_
            · have si := (hW.cell (p := ⟨sb, so + i, none⟩) HBS.out.1).trans HSI.out; have nq := (hW.cell (p := ⟨nb, no + q, none⟩) HBS.out.2.1).trans HNQ.out; have zk := (hW.cell (p := ⟨zb, zo + k, none⟩) HBS.out.2.2).trans HZK.out; obtain ⟨b1, b2, b3⟩ := HBS.out; have b4 := hW.size; obtain ⟨m0, m1, _, _, ml⟩ := (HS.out.ext hW).c2; first | (refine StepT.off rfl hW ?_; rfl) | (refine StepT.go rfl ?_; go_simp; first | (refine ⟨?_, hW⟩; rfl))
            simp only [Act.put, List.setIfInBounds_toArray, List.set_cons_zero, List.set_cons_succ]
            refine StepsT.cons (fun W hW => ?_) ?_
            · have si := (hW.cell (p := ⟨sb, so + i, none⟩) HBS.out.1).trans HSI.out; have nq := (hW.cell (p := ⟨nb, no + q, none⟩) HBS.out.2.1).trans HNQ.out; have zk := (hW.cell (p := ⟨zb, zo + k, none⟩) HBS.out.2.2).trans HZK.out; obtain ⟨b1, b2, b3⟩ := HBS.out; have b4 := hW.size; obtain ⟨m0, m1, _, _, ml⟩ := (HS.out.ext hW).c2; first | (refine StepT.off rfl hW ?_; rfl) | (refine StepT.go rfl ?_; go_simp; first | (refine ⟨?_, hW⟩; rfl))
            simp only [Act.put, List.setIfInBounds_toArray, List.set_cons_zero, List.set_cons_succ]
            refine StepsT.cons (fun W hW => ?_) ?_
            · have si := (hW.cell (p := ⟨sb, so + i, none⟩) HBS.out.1).trans HSI.out; have nq := (hW.cell (p := ⟨nb, no + q, none⟩) HBS.out.2.1).trans HNQ.out; have zk := (hW.cell (p := ⟨zb, zo + k, none⟩) HBS.out.2.2).trans HZK.out; obtain ⟨b1, b2, b3⟩ := HBS.out; have b4 := hW.size; obtain ⟨m0, m1, _, _, ml⟩ := (HS.out.ext hW).c2; first | (refine StepT.off rfl hW ?_; rfl) | (refine StepT.go rfl ?_; go_simp; first | (refine ⟨?_, hW⟩; rfl))
            simp only [Act.put, List.setIfInBounds_toArray, List.set_cons_zero, List.set_cons_succ]
            trivial
          intro W hW
          simp only [putAll, Act.put, List.setIfInBounds_toArray, List.set_cons_zero, List.set_cons_succ]
          have HS3 := Lib.hid (HS.out.ext hW); have HX3 := Lib.hid (HX.out.trans hW)
          clear m0 m1 ml HS HX hW
          go_wp2
          go_roundw
          case rel => exact ⟨i + 1, by omega, by go_num, by first | rfl | rw [huj], HS3, HX3⟩
          case measure => simp [intOf] <;> omega
        case neg =>
          obtain rfl : i = set.length := by omega
          have i4 : ¬ (set.length : Int) < (set.length : Int) := by omega
          have ci := (HX.out.cell (p := ⟨b, off + k, none⟩) HBW.out).trans HCI.out
          have cbl : b < wr.heap.size := Nat.lt_of_lt_of_le HBW.out HX.out.size
          by_cases hb : x < u set.length
          case pos =>
            have hV := HHV.out hb
            subst hV
            go_wp2
            go_ret
            exact Ret.mk' rfl (HX.out.trans (by repeat first | exact yx0 _ | assumption | refine yxa ?_ _ | refine yxd ?_ | refine yxn ?_ _ | refine yxs ?_ (by simp <;> omega) _ | refine yxt ?_ (by assumption)))
          case neg =>
            have HN2 := Lib.hid (HNX.out (by omega))
            go_wp2
            go_roundw
            case rel => exact ⟨k + 1, by omega, by go_num, HN2, HS, HX⟩
            case measure => simp [intOf] <;> omega
end Go.Proofs.YtfkjhgcablakgaaGreatDoor
