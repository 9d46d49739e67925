/-
  Walk: the places at which a pattern fits a word, one by one (an iterator).
-/
import Derived.Test.YtccdnieoaejgdaaGreatDoorT2AL
import Derived.RangeFuncNested
import Derived.RangeFuncBound
import Derived.RangeFuncCalls
import Derived.RangeFuncLeaves
import Derived.Shelf.Abstract
import Derived.Shelf.RegionOpen
import Derived.OwnWalkIn
import Derived.TacticsInMore
import Derived.LoopNIn
import Derived.LoopIn
set_option linter.unusedVariables false
set_option linter.unusedSimpArgs false
set_option linter.unusedSectionVars false
namespace Go.Proofs.YtccdnieoaejgdaaGreatDoor
open Go.RowKit Go.Shelf
theorem wide_fn (f : FuncId) : Fence.wide.fn f = True := rfl
theorem wide_depth : Fence.wide.depth = none := rfl
attribute [local go_sem] Oper.semAt_some wide_fn wide_depth

theorem Ext.grows {W W' : World} (h : Ext W W') : W.grownBy W' none := ⟨h.os, h.tape, h.output, h.size, fun _ hk _ => h.block hk⟩
/-- What a round over an iterator keeps: what lay in w0, and two blocks. -/
def KpX (w0 : World) (bk bf : Nat) (W W' : World) : Prop := (Ext w0 W → Ext w0 W') ∧ W'.heap[bk]? = W.heap[bk]? ∧ W'.heap[bf]? = W.heap[bf]?
theorem KpX.trans {w0 : World} {bk bf : Nat} {X Y Z : World} (h : KpX w0 bk bf X Y) (k : KpX w0 bk bf Y Z) : KpX w0 bk bf X Z := ⟨fun e => k.1 (h.1 e), k.2.1.trans h.2.1, k.2.2.trans h.2.2⟩
theorem KpX.refl (w0 : World) (bk bf : Nat) (W : World) : KpX w0 bk bf W W := ⟨id, rfl, rfl⟩
theorem KpX.of_put {w0 w : World} {bk bf : Nat} (h0 : w0.heap.size ≤ w.heap.size) (h1 : bk < w.heap.size) (h2 : bf < w.heap.size) (W : World) (l : Nat) (o' : Obj) (hl : w.heap.size ≤ l) : KpX w0 bk bf W (W.putObj l o') :=
  ⟨fun e => Ext.grown e (grownBy_putObj' W l o') (fun k ek => by cases ek; omega), World.putObj_heap_other (by omega), World.putObj_heap_other (by omega)⟩
theorem Ext.kpx {w0 W W' : World} {bk bf : Nat} (h : Ext W W') (h1 : bk < W.heap.size) (h2 : bf < W.heap.size) : KpX w0 bk bf W W' := ⟨fun e => e.trans h, h.block h1, h.block h2⟩
/-- A place at which a pattern fits. -/
abbrev HitT (q : Pat) (l : List UInt8) := { t : Nat // hit q l t = true }
/-- The places, of the first k ones, at which a pattern fits. -/
def hitsTo (q : Pat) (l : List UInt8) : Nat → List (HitT q l)
  | 0 => []
  | k + 1 => if h : hit q l k = true then hitsTo q l k ++ [⟨k, h⟩] else hitsTo q l k
theorem hitsTo_len (q : Pat) (l : List UInt8) : ∀ k, (hitsTo q l k).length ≤ k
  | 0 => Nat.le_refl _
  | k + 1 => by
    unfold hitsTo
    split
    · rw [List.length_append]; have := hitsTo_len q l k; simp; omega
    · have := hitsTo_len q l k; omega
theorem hitsTo_end {q : Pat} {l : List UInt8} {k : Nat} (h : l.length < k + q.lt.length) : ∀ n, k ≤ n → hitsTo q l n = hitsTo q l k
  | 0, hn => by rw [show k = 0 by omega]
  | n + 1, hn => by
    rcases Nat.lt_or_ge n k with h1 | h1
    · rw [show n + 1 = k by omega]
    · rw [hitsTo, dif_neg (by rw [hit_big (by omega)]; simp), hitsTo_end h n h1]
theorem found_any (p : Nat) (s : ByteArray) (w : World) :
    Calls Tryz.prog 119 #[.pointer (some ⟨p, 0, none⟩), .string s] w (fun e w' => e = .returned (.func (.func 146) #[] #[.pointer (some ⟨w.heap.size, 0, none⟩), .pointer (some ⟨w.heap.size + 1, 0, none⟩)]) ∧
      w' = (w.alloc (.cells #[.pointer (some ⟨p, 0, none⟩)] 133)).alloc (.cells #[.string s] 9)) := by
  go_enter Tryz.func119, Tryz.ntmps119
  go_wp2
  go_ret
  exact ⟨rfl, rfl⟩
theorem pre_take (a b : List UInt8) : Lib.hasPrefix a b = decide (a.take b.length = b) := by
  unfold Lib.hasPrefix
  rw [Bool.eq_iff_iff, decide_eq_true_eq, List.isPrefixOf_iff_prefix, List.prefix_iff_eq_take]
  exact ⟨fun h => h.symm, fun h => h.symm⟩
theorem hasPre_any (s p : ByteArray) (w : World) : Calls Tryz.prog 144 #[.string s, .string p] w (Same (.bool (decide (s.data.toList.take p.data.toList.length = p.data.toList))) w) :=
  (Tryz.strings_HasPrefix s p w).mono fun e w' ⟨h1, h2⟩ => ⟨by rw [h1, ← pre_take], h2.symm⟩
/-- What lies there while the places are found. -/
structure FdS (w0 : World) (p : Nat) (q : Pat) (lv : Value) (s : ByteArray) (bk bf : Nat) (W : World) : Prop where
  ext : Ext w0 W
  pp : Blk w0 p 188 #[.string (strL q.lt), lv, .bool q.fs, .bool q.en]
  bb : Blk W bk 133 #[.pointer (some ⟨p, 0, none⟩)]
  bfr : Blk W bf 9 #[.string s]
section
variable {w0 W W' : World} {p bk bf : Nat} {q : Pat} {lv : Value} {s : ByteArray}
theorem FdS.ext' (h : FdS w0 p q lv s bk bf W) (hx : Ext W W') : FdS w0 p q lv s bk bf W' := ⟨h.ext.trans hx, h.pp, h.bb.ext hx, h.bfr.ext hx⟩
theorem FdS.kp (h : FdS w0 p q lv s bk bf W) (hk : KpX w0 bk bf W W') : FdS w0 p q lv s bk bf W' := ⟨hk.1 h.ext, h.pp, hk.2.1.trans h.bb, hk.2.2.trans h.bfr⟩
theorem FdS.at (h : FdS w0 p q lv s bk bf W) : (W.cell? ⟨bk, 0, none⟩ = some (.pointer (some ⟨p, 0, none⟩)) ∧ W.cell? ⟨bf, 0, none⟩ = some (.string s) ∧ W.cell? ⟨p, 0, none⟩ = some (.string (strL q.lt)) ∧ W.cell? ⟨p, 2, none⟩ = some (.bool q.fs) ∧ W.cell? ⟨p, 3, none⟩ = some (.bool q.en)) ∧
    bk < W.heap.size ∧ bf < W.heap.size ∧ p < W.heap.size :=
  ⟨⟨h.bb.cell 0 _ rfl, h.bfr.cell 0 _ rfl, (h.pp.ext h.ext).cell 0 _ rfl, (h.pp.ext h.ext).cell 2 _ rfl, (h.pp.ext h.ext).cell 3 _ rfl⟩, h.bb.lt, h.bfr.lt, (h.pp.ext h.ext).lt⟩
end
set_option maxRecDepth 100000 in
set_option maxHeartbeats 8000000 in
theorem found1_stops (q : Pat) (p : Nat) (lv : Value) (s : ByteArray) (bk bf n : Nat) (w0 w : World) (hn : 1 ≤ n) (hq : q.Ok) (hs : s.size ≤ 1000) (hS : FdS w0 p q lv s bk bf w) :
    SeqStopsK Fence.wide n Tryz.prog 146 #[.pointer (some ⟨bk, 0, none⟩), .pointer (some ⟨bf, 0, none⟩)] (fun x : HitT q s.data.toList => #[.int .i64 (x.1 : Nat)]) (KpX w0 bk bf)
      (fun xs => xs = hitsTo q s.data.toList (s.size + 1)) (fun _ => True) (s.size + 2) w := fun l J Jx W hW hJ hJx hY h0 => by
  have hS0 := hS.ext' (hW : Ext w W)
  have HL := Lib.hid (hitsTo_len q s.data.toList)
  have HT : Hid (∀ k, hitsTo q s.data.toList (k + 1) = if h : hit q s.data.toList k = true then hitsTo q s.data.toList k ++ [⟨k, h⟩] else hitsTo q s.data.toList k) := Lib.hid fun _ => rfl
  have HH : Hid (∀ k, hit q s.data.toList k = (decide (k + q.lt.length ≤ s.size) && (!q.fs || decide (k = 0)) && (!q.en || decide (k + q.lt.length = s.size)) && decide ((s.data.toList.drop k).take q.lt.length = q.lt))) := Lib.hid fun k => rfl
  have HLO := Lib.hid hq.lo
  have HHI := Lib.hid hq.hi
  have HZ := Lib.hid (strL_size q.lt)
  have HJ := Lib.hid hJ; have HJX := Lib.hid hJx; have HY := Lib.hid hY
  have HS0 := Lib.hid hS0
  clear hJ hJx hY hS hW hS0 hq
  obtain ⟨⟨k0, k1, k2, k3, k4⟩, kl, kl2, kl3⟩ := HS0.out.at
  refine callsIn_of_wp Tryz.func146 rfl trivial ?_ rfl
  simp only [Tryz.ntmps146, List.size_toArray, List.length_cons, List.length_nil, Nat.reduceAdd, Nat.reduceSub, Array.replicate_succ, Array.replicate_zero, List.push_toArray, List.append_toArray, List.nil_append, List.cons_append]
  gi_wp2
  gi_loopw [4] (fun i wr => ∃ k : Nat, k ≤ s.size + 1 ∧ i = .int .i64 (k : Int) ∧ Hid (J (hitsTo q s.data.toList k) wr) ∧ Hid (FdS w0 p q lv s bk bf wr)) (fun i _ => s.size + 2 - (intOf i).toNat)
  case atStart => exact ⟨0, by omega, by simp, Lib.hid h0, HS0⟩
  case round =>
    obtain ⟨k, hk, rfl, HJS, HS⟩ := hrel
    clear k0 k1 k2 k3 k4 kl kl2 kl3 h0 HS0
    obtain ⟨⟨k0, k1, k2, k3, k4⟩, kl, kl2, kl3⟩ := HS.out.at
    have hz : (strL q.lt).size ≤ 16 := by rw [HZ.out]; exact HHI.out
    have u1 : IntKind.i64.wrap ((k : Int) + ((strL q.lt).size : Int)) = (k : Int) + ((strL q.lt).size : Int) := IntWalk.i64_in _ (by omega)
    repeat gi_step
    refine wpIn_wide.2 ?_
    refine wp_region_steady (Ext _) [?_, ?_, ?_, ?_, ?_, ?_, ?_, ?_, ?_, ?_] (by kernel_rfl) (by kernel_rfl) rfl (Ext.refl _).drew ?_ ?_
    rotate_left 10
    · iterate 10
        refine StepsT.cons (fun W hW => ?_) ?_
        · obtain ⟨⟨q0, q1, q2, q3, q4⟩, ql, ql2, ql3⟩ := (HS.out.ext' hW).at; first | (refine StepT.off rfl hW ?_; rfl) | (refine StepT.go rfl ?_; go_simp; first | (refine ⟨?_, hW⟩; rfl))
        simp only [Act.put, List.setIfInBounds_toArray, List.set_cons_zero, List.set_cons_succ]
      trivial
    intro W hW
    simp only [putAll, Act.put, List.setIfInBounds_toArray, List.set_cons_zero, List.set_cons_succ]
    have HW1 := Lib.hid hW
    have HS1 := Lib.hid (HS.out.ext' hW)
    clear k0 k1 k2 k3 k4 kl kl2 kl3 HS hW
    by_cases hle : k + q.lt.length ≤ s.size
    case neg =>
      have i1 : ¬ ((k : Int) + ((strL q.lt).size : Int)) ≤ (s.size : Int) := by rw [HZ.out]; omega
      have HEN : Hid (hitsTo q s.data.toList (s.size + 1) = hitsTo q s.data.toList k) := Lib.hid (hitsTo_end (by rw [show s.data.toList.length = s.size by simp]; omega) (s.size + 1) (by omega))
      clear hle
      gi_wp2
      go_end0
      refine ⟨⟨_, rfl⟩, .inl ?_⟩
      rw [HEN.out]
      exact HJ.out _ _ _ none HJS.out (Ext.grows HW1.out) (fun _ e => by cases e)
    case pos =>
      have i1 : ((k : Int) + ((strL q.lt).size : Int)) ≤ (s.size : Int) := by rw [HZ.out]; omega
      have hks : k ≤ s.size := by omega
      have CP := Lib.hid fun W => hasPre_any (s.extract k s.size) (strL q.lt) W
      have HDE : Hid (decide (k + q.lt.length ≤ s.size) = true) := Lib.hid (decide_eq_true hle)
      have hps : (s.extract k s.size).data.toList = s.data.toList.drop k := by rw [ext_list, List.take_of_length_le (by simp)]
      rw [hps, strL_list] at CP
      obtain ⟨pb, hpb⟩ : ∃ b, decide ((s.data.toList.drop k).take q.lt.length = q.lt) = b := ⟨_, rfl⟩
      rw [hpb] at CP
      have HPB := Lib.hid hpb
      clear hpb hps
      repeat gi_step
      refine wpIn_wide.2 ?_
      cases hfs : q.fs
      case true =>
        by_cases hk0 : k = 0
        case neg =>
          have i2 : (0 : Int) < (k : Int) := by omega
          have i2' : 0 < k := by omega
          -- BEGIN A
          have HTK : Hid (hitsTo q s.data.toList (k + 1) = hitsTo q s.data.toList k) := Lib.hid (by rw [HT.out, dif_neg (by rw [HH.out]; rw [hfs, decide_eq_false hk0]; simp)])
          refine wp_region_steady (Ext _) [?_, ?_, ?_, ?_, ?_, ?_, ?_, ?_, ?_, ?_, ?_, ?_, ?_, ?_, ?_, ?_, ?_, ?_, ?_, ?_, ?_, ?_, ?_, ?_, ?_, ?_, ?_, ?_, ?_, ?_, ?_, ?_, ?_, ?_, ?_, ?_, ?_] (by kernel_rfl) (by kernel_rfl) rfl (Ext.refl _).drew ?_ ?_
          rotate_left 37
          · iterate 37
              refine StepsT.cons (fun W hW => ?_) ?_
              · obtain ⟨⟨q0, q1, q2, q3, q4⟩, ql, ql2, ql3⟩ := (HS1.out.ext' hW).at; (try rw [hfs] at q3); (try rw [hen] at q4); first | (refine StepT.off rfl hW ?_; rfl) | (refine StepT.go rfl ?_; go_simp; first | (refine ⟨?_, hW⟩; rfl) | (refine Calls.mono (CP.out _) ?_; rintro e w4 ⟨rfl, rfl⟩; refine ⟨?_, hW⟩; rfl))
              simp only [Act.put, List.setIfInBounds_toArray, List.set_cons_zero, List.set_cons_succ]
            trivial
          intro W hW
          simp only [putAll, Act.put, List.setIfInBounds_toArray, List.set_cons_zero, List.set_cons_succ]
          have HW3 := Lib.hid hW
          gi_wp2
          go_roundw
          case rel => exact ⟨k + 1, by omega, by go_num, Lib.hid (by rw [HTK.out]; exact HJ.out _ _ _ none HJS.out (Ext.grows (HW1.out.trans HW3.out)) (fun _ e => by cases e)), Lib.hid (HS1.out.ext' HW3.out)⟩
          case measure => simp [intOf]; omega
          -- END A
        case pos =>
          have i2 : ¬ (0 : Int) < (k : Int) := by omega
          have i2' : ¬ 0 < k := by omega
          have HK0 : Hid (decide (k = 0) = true) := Lib.hid (decide_eq_true hk0)
          clear hk0
          cases hen : q.en
          case false =>
            cases pb
            case false =>
              -- BEGIN B1
              have HTK : Hid (hitsTo q s.data.toList (k + 1) = hitsTo q s.data.toList k) := Lib.hid (by rw [HT.out, dif_neg (by rw [HH.out]; rw [HPB.out]; simp)])
              refine wp_region_steady (Ext _) [?_, ?_, ?_, ?_, ?_, ?_, ?_, ?_, ?_, ?_, ?_, ?_, ?_, ?_, ?_, ?_, ?_, ?_, ?_, ?_, ?_, ?_, ?_, ?_, ?_, ?_, ?_, ?_, ?_, ?_, ?_, ?_, ?_, ?_, ?_, ?_, ?_] (by kernel_rfl) (by kernel_rfl) rfl (Ext.refl _).drew ?_ ?_
              rotate_left 37
              · iterate 37
                  refine StepsT.cons (fun W hW => ?_) ?_
                  · obtain ⟨⟨q0, q1, q2, q3, q4⟩, ql, ql2, ql3⟩ := (HS1.out.ext' hW).at; (try rw [hfs] at q3); (try rw [hen] at q4); first | (refine StepT.off rfl hW ?_; rfl) | (refine StepT.go rfl ?_; go_simp; first | (refine ⟨?_, hW⟩; rfl) | (refine Calls.mono (CP.out _) ?_; rintro e w4 ⟨rfl, rfl⟩; refine ⟨?_, hW⟩; rfl))
                  simp only [Act.put, List.setIfInBounds_toArray, List.set_cons_zero, List.set_cons_succ]
                trivial
              intro W hW
              simp only [putAll, Act.put, List.setIfInBounds_toArray, List.set_cons_zero, List.set_cons_succ]
              have HW3 := Lib.hid hW
              gi_wp2
              go_roundw
              case rel => exact ⟨k + 1, by omega, by go_num, Lib.hid (by rw [HTK.out]; exact HJ.out _ _ _ none HJS.out (Ext.grows (HW1.out.trans HW3.out)) (fun _ e => by cases e)), Lib.hid (HS1.out.ext' HW3.out)⟩
              case measure => simp [intOf]; omega
              -- END B1
            case true =>
              -- BEGIN B2
              have hht : hit q s.data.toList k = true := by rw [HH.out]; rw [hfs, hen, HDE.out, HPB.out, HK0.out]; rfl
              have HTK : Hid (hitsTo q s.data.toList (k + 1) = hitsTo q s.data.toList k ++ [⟨k, hht⟩]) := Lib.hid (by rw [HT.out, dif_pos hht])
              refine wp_region_steady (Ext _) [?_, ?_, ?_, ?_, ?_, ?_, ?_, ?_, ?_, ?_, ?_, ?_, ?_, ?_, ?_, ?_, ?_, ?_, ?_, ?_, ?_, ?_, ?_, ?_, ?_, ?_, ?_, ?_, ?_, ?_, ?_, ?_, ?_, ?_, ?_, ?_, ?_] (by kernel_rfl) (by kernel_rfl) rfl (Ext.refl _).drew ?_ ?_
              rotate_left 37
              · iterate 37
                  refine StepsT.cons (fun W hW => ?_) ?_
                  · obtain ⟨⟨q0, q1, q2, q3, q4⟩, ql, ql2, ql3⟩ := (HS1.out.ext' hW).at; (try rw [hfs] at q3); (try rw [hen] at q4); first | (refine StepT.off rfl hW ?_; rfl) | (refine StepT.go rfl ?_; go_simp; first | (refine ⟨?_, hW⟩; rfl) | (refine Calls.mono (CP.out _) ?_; rintro e w4 ⟨rfl, rfl⟩; refine ⟨?_, hW⟩; rfl))
                  simp only [Act.put, List.setIfInBounds_toArray, List.set_cons_zero, List.set_cons_succ]
                trivial
              intro W hW
              simp only [putAll, Act.put, List.setIfInBounds_toArray, List.set_cons_zero, List.set_cons_succ]
              have HW3 := Lib.hid hW
              have HJ2 := Lib.hid (HJ.out _ _ _ none HJS.out (Ext.grows (HW1.out.trans HW3.out)) (fun _ e => by cases e))
              have HS2 := Lib.hid (HS1.out.ext' HW3.out)
              obtain ⟨fn, tmps, assign, body, hy, hR⟩ := HY.out _ ⟨k, hht⟩ _ HJ2.out (by have := HL.out k; omega)
              have HR := Lib.hid hR
              clear hR
              gi_wp2
              refine HR.out.mono ?_
              rintro e W3 (⟨rfl, hJ3, hk3⟩ | ⟨rfl, hJx3⟩)
              · rw [← HTK.out] at hJ3
                have HJ3 := Lib.hid hJ3; have HS3 := Lib.hid (HS2.out.kp hk3); clear hJ3 hk3
                gi_wp2
                go_roundw
                case rel => exact ⟨k + 1, by omega, by go_num, HJ3, HS3⟩
                case measure => simp [intOf]; omega
              · gi_wp2
                refine bodyPost_ret (results_none rfl _ _ _) rfl ?_
                exact ⟨⟨_, rfl⟩, .inr ⟨_, trivial, hJx3⟩⟩
              -- END B2
          case true =>
            by_cases he : k + q.lt.length = s.size
            case neg =>
              have i3 : ((k : Int) + ((strL q.lt).size : Int)) < (s.size : Int) := by rw [HZ.out]; omega
              have i3' : k + (strL q.lt).size < s.size := by rw [HZ.out]; omega
              -- BEGIN B3
              have HTK : Hid (hitsTo q s.data.toList (k + 1) = hitsTo q s.data.toList k) := Lib.hid (by rw [HT.out, dif_neg (by rw [HH.out]; rw [hen, decide_eq_false he]; simp)])
              refine wp_region_steady (Ext _) [?_, ?_, ?_, ?_, ?_, ?_, ?_, ?_, ?_, ?_, ?_, ?_, ?_, ?_, ?_, ?_, ?_, ?_, ?_, ?_, ?_, ?_, ?_, ?_, ?_, ?_, ?_, ?_, ?_, ?_, ?_, ?_, ?_, ?_, ?_, ?_, ?_] (by kernel_rfl) (by kernel_rfl) rfl (Ext.refl _).drew ?_ ?_
              rotate_left 37
              · iterate 37
                  refine StepsT.cons (fun W hW => ?_) ?_
                  · obtain ⟨⟨q0, q1, q2, q3, q4⟩, ql, ql2, ql3⟩ := (HS1.out.ext' hW).at; (try rw [hfs] at q3); (try rw [hen] at q4); first | (refine StepT.off rfl hW ?_; rfl) | (refine StepT.go rfl ?_; go_simp; first | (refine ⟨?_, hW⟩; rfl) | (refine Calls.mono (CP.out _) ?_; rintro e w4 ⟨rfl, rfl⟩; refine ⟨?_, hW⟩; rfl))
                  simp only [Act.put, List.setIfInBounds_toArray, List.set_cons_zero, List.set_cons_succ]
                trivial
              intro W hW
              simp only [putAll, Act.put, List.setIfInBounds_toArray, List.set_cons_zero, List.set_cons_succ]
              have HW3 := Lib.hid hW
              gi_wp2
              go_roundw
              case rel => exact ⟨k + 1, by omega, by go_num, Lib.hid (by rw [HTK.out]; exact HJ.out _ _ _ none HJS.out (Ext.grows (HW1.out.trans HW3.out)) (fun _ e => by cases e)), Lib.hid (HS1.out.ext' HW3.out)⟩
              case measure => simp [intOf]; omega
              -- END B3
            case pos =>
              have i3 : ¬ ((k : Int) + ((strL q.lt).size : Int)) < (s.size : Int) := by rw [HZ.out]; omega
              have i3' : ¬ k + (strL q.lt).size < s.size := by rw [HZ.out]; omega
              have HDN : Hid (decide (k + q.lt.length = s.size) = true) := Lib.hid (decide_eq_true he)
              clear he
              cases pb
              case false =>
                -- BEGIN B4
                have HTK : Hid (hitsTo q s.data.toList (k + 1) = hitsTo q s.data.toList k) := Lib.hid (by rw [HT.out, dif_neg (by rw [HH.out]; rw [HPB.out]; simp)])
                refine wp_region_steady (Ext _) [?_, ?_, ?_, ?_, ?_, ?_, ?_, ?_, ?_, ?_, ?_, ?_, ?_, ?_, ?_, ?_, ?_, ?_, ?_, ?_, ?_, ?_, ?_, ?_, ?_, ?_, ?_, ?_, ?_, ?_, ?_, ?_, ?_, ?_, ?_, ?_, ?_] (by kernel_rfl) (by kernel_rfl) rfl (Ext.refl _).drew ?_ ?_
                rotate_left 37
                · iterate 37
                    refine StepsT.cons (fun W hW => ?_) ?_
                    · obtain ⟨⟨q0, q1, q2, q3, q4⟩, ql, ql2, ql3⟩ := (HS1.out.ext' hW).at; (try rw [hfs] at q3); (try rw [hen] at q4); first | (refine StepT.off rfl hW ?_; rfl) | (refine StepT.go rfl ?_; go_simp; first | (refine ⟨?_, hW⟩; rfl) | (refine Calls.mono (CP.out _) ?_; rintro e w4 ⟨rfl, rfl⟩; refine ⟨?_, hW⟩; rfl))
                    simp only [Act.put, List.setIfInBounds_toArray, List.set_cons_zero, List.set_cons_succ]
                  trivial
                intro W hW
                simp only [putAll, Act.put, List.setIfInBounds_toArray, List.set_cons_zero, List.set_cons_succ]
                have HW3 := Lib.hid hW
                gi_wp2
                go_roundw
                case rel => exact ⟨k + 1, by omega, by go_num, Lib.hid (by rw [HTK.out]; exact HJ.out _ _ _ none HJS.out (Ext.grows (HW1.out.trans HW3.out)) (fun _ e => by cases e)), Lib.hid (HS1.out.ext' HW3.out)⟩
                case measure => simp [intOf]; omega
                -- END B4
              case true =>
                -- BEGIN B5
                have hht : hit q s.data.toList k = true := by rw [HH.out]; rw [hfs, hen, HDE.out, HPB.out, HDN.out, HK0.out]; rfl
                have HTK : Hid (hitsTo q s.data.toList (k + 1) = hitsTo q s.data.toList k ++ [⟨k, hht⟩]) := Lib.hid (by rw [HT.out, dif_pos hht])
                refine wp_region_steady (Ext _) [?_, ?_, ?_, ?_, ?_, ?_, ?_, ?_, ?_, ?_, ?_, ?_, ?_, ?_, ?_, ?_, ?_, ?_, ?_, ?_, ?_, ?_, ?_, ?_, ?_, ?_, ?_, ?_, ?_, ?_, ?_, ?_, ?_, ?_, ?_, ?_, ?_] (by kernel_rfl) (by kernel_rfl) rfl (Ext.refl _).drew ?_ ?_
                rotate_left 37
                · iterate 37
                    refine StepsT.cons (fun W hW => ?_) ?_
                    · obtain ⟨⟨q0, q1, q2, q3, q4⟩, ql, ql2, ql3⟩ := (HS1.out.ext' hW).at; (try rw [hfs] at q3); (try rw [hen] at q4); first | (refine StepT.off rfl hW ?_; rfl) | (refine StepT.go rfl ?_; go_simp; first | (refine ⟨?_, hW⟩; rfl) | (refine Calls.mono (CP.out _) ?_; rintro e w4 ⟨rfl, rfl⟩; refine ⟨?_, hW⟩; rfl))
                    simp only [Act.put, List.setIfInBounds_toArray, List.set_cons_zero, List.set_cons_succ]
                  trivial
                intro W hW
                simp only [putAll, Act.put, List.setIfInBounds_toArray, List.set_cons_zero, List.set_cons_succ]
                have HW3 := Lib.hid hW
                have HJ2 := Lib.hid (HJ.out _ _ _ none HJS.out (Ext.grows (HW1.out.trans HW3.out)) (fun _ e => by cases e))
                have HS2 := Lib.hid (HS1.out.ext' HW3.out)
                obtain ⟨fn, tmps, assign, body, hy, hR⟩ := HY.out _ ⟨k, hht⟩ _ HJ2.out (by have := HL.out k; omega)
                have HR := Lib.hid hR
                clear hR
                gi_wp2
                refine HR.out.mono ?_
                rintro e W3 (⟨rfl, hJ3, hk3⟩ | ⟨rfl, hJx3⟩)
                · rw [← HTK.out] at hJ3
                  have HJ3 := Lib.hid hJ3; have HS3 := Lib.hid (HS2.out.kp hk3); clear hJ3 hk3
                  gi_wp2
                  go_roundw
                  case rel => exact ⟨k + 1, by omega, by go_num, HJ3, HS3⟩
                  case measure => simp [intOf]; omega
                · gi_wp2
                  refine bodyPost_ret (results_none rfl _ _ _) rfl ?_
                  exact ⟨⟨_, rfl⟩, .inr ⟨_, trivial, hJx3⟩⟩
                -- END B5
      case false =>
        cases hen : q.en
        case false =>
          cases pb
          case false =>
            -- BEGIN C1
            have HTK : Hid (hitsTo q s.data.toList (k + 1) = hitsTo q s.data.toList k) := Lib.hid (by rw [HT.out, dif_neg (by rw [HH.out]; rw [HPB.out]; simp)])
            refine wp_region_steady (Ext _) [?_, ?_, ?_, ?_, ?_, ?_, ?_, ?_, ?_, ?_, ?_, ?_, ?_, ?_, ?_, ?_, ?_, ?_, ?_, ?_, ?_, ?_, ?_, ?_, ?_, ?_, ?_, ?_, ?_, ?_, ?_, ?_, ?_, ?_, ?_, ?_, ?_] (by kernel_rfl) (by kernel_rfl) rfl (Ext.refl _).drew ?_ ?_
            rotate_left 37
            · iterate 37
                refine StepsT.cons (fun W hW => ?_) ?_
                · obtain ⟨⟨q0, q1, q2, q3, q4⟩, ql, ql2, ql3⟩ := (HS1.out.ext' hW).at; (try rw [hfs] at q3); (try rw [hen] at q4); first | (refine StepT.off rfl hW ?_; rfl) | (refine StepT.go rfl ?_; go_simp; first | (refine ⟨?_, hW⟩; rfl) | (refine Calls.mono (CP.out _) ?_; rintro e w4 ⟨rfl, rfl⟩; refine ⟨?_, hW⟩; rfl))
                simp only [Act.put, List.setIfInBounds_toArray, List.set_cons_zero, List.set_cons_succ]
              trivial
            intro W hW
            simp only [putAll, Act.put, List.setIfInBounds_toArray, List.set_cons_zero, List.set_cons_succ]
            have HW3 := Lib.hid hW
            gi_wp2
            go_roundw
            case rel => exact ⟨k + 1, by omega, by go_num, Lib.hid (by rw [HTK.out]; exact HJ.out _ _ _ none HJS.out (Ext.grows (HW1.out.trans HW3.out)) (fun _ e => by cases e)), Lib.hid (HS1.out.ext' HW3.out)⟩
            case measure => simp [intOf]; omega
            -- END C1
          case true =>
            -- BEGIN C2
            have hht : hit q s.data.toList k = true := by rw [HH.out]; rw [hfs, hen, HDE.out, HPB.out]; rfl
            have HTK : Hid (hitsTo q s.data.toList (k + 1) = hitsTo q s.data.toList k ++ [⟨k, hht⟩]) := Lib.hid (by rw [HT.out, dif_pos hht])
            refine wp_region_steady (Ext _) [?_, ?_, ?_, ?_, ?_, ?_, ?_, ?_, ?_, ?_, ?_, ?_, ?_, ?_, ?_, ?_, ?_, ?_, ?_, ?_, ?_, ?_, ?_, ?_, ?_, ?_, ?_, ?_, ?_, ?_, ?_, ?_, ?_, ?_, ?_, ?_, ?_] (by kernel_rfl) (by kernel_rfl) rfl (Ext.refl _).drew ?_ ?_
            rotate_left 37
            · iterate 37
                refine StepsT.cons (fun W hW => ?_) ?_
                · obtain ⟨⟨q0, q1, q2, q3, q4⟩, ql, ql2, ql3⟩ := (HS1.out.ext' hW).at; (try rw [hfs] at q3); (try rw [hen] at q4); first | (refine StepT.off rfl hW ?_; rfl) | (refine StepT.go rfl ?_; go_simp; first | (refine ⟨?_, hW⟩; rfl) | (refine Calls.mono (CP.out _) ?_; rintro e w4 ⟨rfl, rfl⟩; refine ⟨?_, hW⟩; rfl))
                simp only [Act.put, List.setIfInBounds_toArray, List.set_cons_zero, List.set_cons_succ]
              trivial
            intro W hW
            simp only [putAll, Act.put, List.setIfInBounds_toArray, List.set_cons_zero, List.set_cons_succ]
            have HW3 := Lib.hid hW
            have HJ2 := Lib.hid (HJ.out _ _ _ none HJS.out (Ext.grows (HW1.out.trans HW3.out)) (fun _ e => by cases e))
            have HS2 := Lib.hid (HS1.out.ext' HW3.out)
            obtain ⟨fn, tmps, assign, body, hy, hR⟩ := HY.out _ ⟨k, hht⟩ _ HJ2.out (by have := HL.out k; omega)
            have HR := Lib.hid hR
            clear hR
            gi_wp2
            refine HR.out.mono ?_
            rintro e W3 (⟨rfl, hJ3, hk3⟩ | ⟨rfl, hJx3⟩)
            · rw [← HTK.out] at hJ3
              have HJ3 := Lib.hid hJ3; have HS3 := Lib.hid (HS2.out.kp hk3); clear hJ3 hk3
              gi_wp2
              go_roundw
              case rel => exact ⟨k + 1, by omega, by go_num, HJ3, HS3⟩
              case measure => simp [intOf]; omega
            · gi_wp2
              refine bodyPost_ret (results_none rfl _ _ _) rfl ?_
              exact ⟨⟨_, rfl⟩, .inr ⟨_, trivial, hJx3⟩⟩
            -- END C2
        case true =>
          by_cases he : k + q.lt.length = s.size
          case neg =>
            have i3 : ((k : Int) + ((strL q.lt).size : Int)) < (s.size : Int) := by rw [HZ.out]; omega
            have i3' : k + (strL q.lt).size < s.size := by rw [HZ.out]; omega
            -- BEGIN C3
            have HTK : Hid (hitsTo q s.data.toList (k + 1) = hitsTo q s.data.toList k) := Lib.hid (by rw [HT.out, dif_neg (by rw [HH.out]; rw [hen, decide_eq_false he]; simp)])
            refine wp_region_steady (Ext _) [?_, ?_, ?_, ?_, ?_, ?_, ?_, ?_, ?_, ?_, ?_, ?_, ?_, ?_, ?_, ?_, ?_, ?_, ?_, ?_, ?_, ?_, ?_, ?_, ?_, ?_, ?_, ?_, ?_, ?_, ?_, ?_, ?_, ?_, ?_, ?_, ?_] (by kernel_rfl) (by kernel_rfl) rfl (Ext.refl _).drew ?_ ?_
            rotate_left 37
            · iterate 37
                refine StepsT.cons (fun W hW => ?_) ?_
                · obtain ⟨⟨q0, q1, q2, q3, q4⟩, ql, ql2, ql3⟩ := (HS1.out.ext' hW).at; (try rw [hfs] at q3); (try rw [hen] at q4); first | (refine StepT.off rfl hW ?_; rfl) | (refine StepT.go rfl ?_; go_simp; first | (refine ⟨?_, hW⟩; rfl) | (refine Calls.mono (CP.out _) ?_; rintro e w4 ⟨rfl, rfl⟩; refine ⟨?_, hW⟩; rfl))
                simp only [Act.put, List.setIfInBounds_toArray, List.set_cons_zero, List.set_cons_succ]
              trivial
            intro W hW
            simp only [putAll, Act.put, List.setIfInBounds_toArray, List.set_cons_zero, List.set_cons_succ]
            have HW3 := Lib.hid hW
            gi_wp2
            go_roundw
            case rel => exact ⟨k + 1, by omega, by go_num, Lib.hid (by rw [HTK.out]; exact HJ.out _ _ _ none HJS.out (Ext.grows (HW1.out.trans HW3.out)) (fun _ e => by cases e)), Lib.hid (HS1.out.ext' HW3.out)⟩
            case measure => simp [intOf]; omega
            -- END C3
          case pos =>
            have i3 : ¬ ((k : Int) + ((strL q.lt).size : Int)) < (s.size : Int) := by rw [HZ.out]; omega
            have i3' : ¬ k + (strL q.lt).size < s.size := by rw [HZ.out]; omega
            have HDN : Hid (decide (k + q.lt.length = s.size) = true) := Lib.hid (decide_eq_true he)
            clear he
            cases pb
            case false =>
              -- BEGIN C4
              have HTK : Hid (hitsTo q s.data.toList (k + 1) = hitsTo q s.data.toList k) := Lib.hid (by rw [HT.out, dif_neg (by rw [HH.out]; rw [HPB.out]; simp)])
              refine wp_region_steady (Ext _) [?_, ?_, ?_, ?_, ?_, ?_, ?_, ?_, ?_, ?_, ?_, ?_, ?_, ?_, ?_, ?_, ?_, ?_, ?_, ?_, ?_, ?_, ?_, ?_, ?_, ?_, ?_, ?_, ?_, ?_, ?_, ?_, ?_, ?_, ?_, ?_, ?_] (by kernel_rfl) (by kernel_rfl) rfl (Ext.refl _).drew ?_ ?_
              rotate_left 37
              · iterate 37
                  refine StepsT.cons (fun W hW => ?_) ?_
                  · obtain ⟨⟨q0, q1, q2, q3, q4⟩, ql, ql2, ql3⟩ := (HS1.out.ext' hW).at; (try rw [hfs] at q3); (try rw [hen] at q4); first | (refine StepT.off rfl hW ?_; rfl) | (refine StepT.go rfl ?_; go_simp; first | (refine ⟨?_, hW⟩; rfl) | (refine Calls.mono (CP.out _) ?_; rintro e w4 ⟨rfl, rfl⟩; refine ⟨?_, hW⟩; rfl))
                  simp only [Act.put, List.setIfInBounds_toArray, List.set_cons_zero, List.set_cons_succ]
                trivial
              intro W hW
              simp only [putAll, Act.put, List.setIfInBounds_toArray, List.set_cons_zero, List.set_cons_succ]
              have HW3 := Lib.hid hW
              gi_wp2
              go_roundw
              case rel => exact ⟨k + 1, by omega, by go_num, Lib.hid (by rw [HTK.out]; exact HJ.out _ _ _ none HJS.out (Ext.grows (HW1.out.trans HW3.out)) (fun _ e => by cases e)), Lib.hid (HS1.out.ext' HW3.out)⟩
              case measure => simp [intOf]; omega
              -- END C4
            case true =>
              -- BEGIN C5
              have hht : hit q s.data.toList k = true := by rw [HH.out]; rw [hfs, hen, HDE.out, HPB.out, HDN.out]; rfl
              have HTK : Hid (hitsTo q s.data.toList (k + 1) = hitsTo q s.data.toList k ++ [⟨k, hht⟩]) := Lib.hid (by rw [HT.out, dif_pos hht])
              refine wp_region_steady (Ext _) [?_, ?_, ?_, ?_, ?_, ?_, ?_, ?_, ?_, ?_, ?_, ?_, ?_, ?_, ?_, ?_, ?_, ?_, ?_, ?_, ?_, ?_, ?_, ?_, ?_, ?_, ?_, ?_, ?_, ?_, ?_, ?_, ?_, ?_, ?_, ?_, ?_] (by kernel_rfl) (by kernel_rfl) rfl (Ext.refl _).drew ?_ ?_
              rotate_left 37
              · iterate 37
                  refine StepsT.cons (fun W hW => ?_) ?_
                  · obtain ⟨⟨q0, q1, q2, q3, q4⟩, ql, ql2, ql3⟩ := (HS1.out.ext' hW).at; (try rw [hfs] at q3); (try rw [hen] at q4); first | (refine StepT.off rfl hW ?_; rfl) | (refine StepT.go rfl ?_; go_simp; first | (refine ⟨?_, hW⟩; rfl) | (refine Calls.mono (CP.out _) ?_; rintro e w4 ⟨rfl, rfl⟩; refine ⟨?_, hW⟩; rfl))
                  simp only [Act.put, List.setIfInBounds_toArray, List.set_cons_zero, List.set_cons_succ]
                trivial
              intro W hW
              simp only [putAll, Act.put, List.setIfInBounds_toArray, List.set_cons_zero, List.set_cons_succ]
              have HW3 := Lib.hid hW
              have HJ2 := Lib.hid (HJ.out _ _ _ none HJS.out (Ext.grows (HW1.out.trans HW3.out)) (fun _ e => by cases e))
              have HS2 := Lib.hid (HS1.out.ext' HW3.out)
              obtain ⟨fn, tmps, assign, body, hy, hR⟩ := HY.out _ ⟨k, hht⟩ _ HJ2.out (by have := HL.out k; omega)
              have HR := Lib.hid hR
              clear hR
              gi_wp2
              refine HR.out.mono ?_
              rintro e W3 (⟨rfl, hJ3, hk3⟩ | ⟨rfl, hJx3⟩)
              · rw [← HTK.out] at hJ3
                have HJ3 := Lib.hid hJ3; have HS3 := Lib.hid (HS2.out.kp hk3); clear hJ3 hk3
                gi_wp2
                go_roundw
                case rel => exact ⟨k + 1, by omega, by go_num, HJ3, HS3⟩
                case measure => simp [intOf]; omega
              · gi_wp2
                refine bodyPost_ret (results_none rfl _ _ _) rfl ?_
                exact ⟨⟨_, rfl⟩, .inr ⟨_, trivial, hJx3⟩⟩
              -- END C5
end Go.Proofs.YtccdnieoaejgdaaGreatDoor
