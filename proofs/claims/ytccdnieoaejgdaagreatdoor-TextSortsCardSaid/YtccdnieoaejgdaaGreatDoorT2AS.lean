/-
  Walk: rulerOf.
-/
import Derived.Test.YtccdnieoaejgdaaGreatDoorT2AR
import Derived.Test.YtccdnieoaejgdaaGreatDoorT2AB
set_option linter.unusedVariables false
set_option linter.unusedSimpArgs false
set_option linter.unusedSectionVars false
namespace Go.Proofs.YtccdnieoaejgdaaGreatDoor
open Go.RowKit Go.Lib

/-- The answer of rulerOf. -/
def RetRl (r : RU) (a : RuA) (w : World) (e : Ending) (w' : World) : Prop :=
  ((ruleE r).2 = 0 ∧ ∃ rb PA pc me mb ne nb, e = .returned (.tuple #[.pointer (some ⟨rb, 0, none⟩), .int .i64 0, .int .i64 0]) ∧ RlR w' rb r a PA pc me mb ne nb ∧ Ext w w') ∨
  ((ruleE r).2 ≠ 0 ∧ e = .returned (.tuple #[.pointer none, .int .i64 (ruleE r).1, .int .i64 (ruleE r).2]) ∧ Ext w w')
/-- Short rules. -/
structure ShortU (r : RU) : Prop where
  p : r.pats.length ≤ 1000 ∧ ∀ k, k < r.pats.length → (r.pats.getD k ByteArray.empty).size ≤ 100
  e : r.excs.length ≤ 1000 ∧ ∀ k, k < r.excs.length → (r.excs.getD k ByteArray.empty).size ≤ 100
  b : r.bars.length ≤ 1000 ∧ ∀ k, k < r.bars.length → (r.bars.getD k ByteArray.empty).size ≤ 100
theorem mkAll_bd {l : List UInt8} {m : UInt8} {y : List UInt8 × List Int} (h : mkAll l m = some y) : y.1.length ≤ l.length + 1 ∧ y.2.length ≤ l.length + 1 := by
  rw [← ptTo_all] at h
  have h1 := ptTo_bd (Nat.le_refl _) h
  have h2 := ptTo_len h
  have h3 := sp_total m l
  omega
theorem mkOf_none {lt : Bool} {m : UInt8} {l : List UInt8} (h : mkAll l m = none) : mkOf lt m l = none := by unfold mkOf; rw [h]
theorem mkOf_bad {lt : Bool} {m : UInt8} {l : List UInt8} {y : List UInt8 × List Int} (h : mkAll l m = some y) (hk : mkOk lt y = false) : mkOf lt m l = none := by unfold mkOf; rw [h]; simp only; rw [if_neg (by rw [hk]; decide)]
theorem mkOf_good {lt : Bool} {m : UInt8} {l : List UInt8} {y : List UInt8 × List Int} (h : mkAll l m = some y) (hk : mkOk lt y = true) : mkOf lt m l = some y := by unfold mkOf; rw [h]; simp only; rw [if_pos hk]
theorem mkErr_none {lt : Bool} {m : UInt8} {l : List ByteArray} {k : Nat} (h : mkOf lt m (l.getD k ByteArray.empty).data.toList = none) : mkErr lt m l k = 3 := by unfold mkErr; rw [h]
theorem mkErr_two {lt : Bool} {m : UInt8} {l : List ByteArray} {k : Nat} {y : List UInt8 × List Int} {zs : List Int} (h : mkOf lt m (l.getD k ByteArray.empty).data.toList = some y) (hl : mkLook lt m l k y.1 = some zs) : mkErr lt m l k = 5 := by unfold mkErr; rw [h]; simp only; rw [hl]; rfl
theorem mkErr_one {lt : Bool} {m : UInt8} {l : List ByteArray} {k : Nat} {y : List UInt8 × List Int} (h : mkOf lt m (l.getD k ByteArray.empty).data.toList = some y) (hl : mkLook lt m l k y.1 = none) : mkErr lt m l k = 0 := by unfold mkErr; rw [h]; simp only; rw [hl]; rfl
theorem mkChk_bad {lt : Bool} {m : UInt8} {l : List ByteArray} {k : Nat} {e : Int} (h4 : ¬ 40 < l.length) (hb : mkBad lt m l k = none) (he : mkErr lt m l k = e) (h0 : e ≠ 0) (hk : k < l.length) : mkChk lt m l = ((k : Int), e) := by
  unfold mkChk
  rw [if_neg h4, mkBad_some hb (by rw [he]; exact h0) _ hk]
  simp only; rw [he]
theorem mkChk_good {lt : Bool} {m : UInt8} {l : List ByteArray} (h4 : ¬ 40 < l.length) (hb : mkBad lt m l l.length = none) : (mkChk lt m l).2 = 0 := by
  unfold mkChk
  rw [if_neg h4, hb]
theorem mkChk_many {lt : Bool} {m : UInt8} {l : List ByteArray} (h4 : 40 < l.length) : mkChk lt m l = (0, 8) := by unfold mkChk; rw [if_pos h4]
theorem mkLook_next {lt : Bool} {m : UInt8} {l : List ByteArray} {k : Nat} {y : List UInt8 × List Int} (h : mkOf lt m (l.getD k ByteArray.empty).data.toList = some y) : (fun t => if t = (strL y.1).data.toList then some y.2 else mkLook lt m l k t) = mkLook lt m l (k + 1) := by
  funext t; rw [strL_list, mkLook, h]
theorem ruleE_e {r : RU} {i e : Int} (h6 : ¬ 60 < r.pats.length) (hp : patBad r.pats r.pats.length = none) (h : mkChk true 45 r.excs = (i, e)) (he : e ≠ 0) : ruleE r = (i, e) := by
  unfold ruleE
  rw [if_neg h6, hp]
  simp only
  rw [if_pos (by rw [h]; exact he), h]
theorem ruleE_b {r : RU} {i e : Int} (h6 : ¬ 60 < r.pats.length) (hp : patBad r.pats r.pats.length = none) (h1 : (mkChk true 45 r.excs).2 = 0) (h : mkChk false 124 r.bars = (i, e)) (he : e ≠ 0) : ruleE r = (i, e) := by
  unfold ruleE
  rw [if_neg h6, hp]
  simp only
  rw [if_neg (by rw [h1]; simp), if_pos (by rw [h]; exact he), h]
theorem ruleE_l {r : RU} (h6 : ¬ 60 < r.pats.length) (hp : patBad r.pats r.pats.length = none) (h1 : (mkChk true 45 r.excs).2 = 0) (h2 : (mkChk false 124 r.bars).2 = 0) (h : ¬ (1 ≤ r.left ∧ r.left ≤ 10) ∨ ¬ (1 ≤ r.right ∧ r.right ≤ 10)) : ruleE r = (0, 2) := by
  unfold ruleE
  rw [if_neg h6, hp]
  simp only
  rw [if_neg (by rw [h1]; simp), if_neg (by rw [h2]; simp), if_pos h]
theorem row0 (x0 x1 x2 x3 x4 x5 x6 x7 : Value) (W : World) : (Instr.index 205 (.agg #[x0, x1, x2, x3, x4, x5, x6, x7]) (.int .i64 0)).run Tryz.prog W = .ok (.agg #[x0, x1, x2, x3]) W := by kernel_rfl
theorem row1 (x0 x1 x2 x3 x4 x5 x6 x7 : Value) (W : World) : (Instr.index 205 (.agg #[x0, x1, x2, x3, x4, x5, x6, x7]) (.int .i64 1)).run Tryz.prog W = .ok (.agg #[x4, x5, x6, x7]) W := by kernel_rfl
set_option maxRecDepth 100000 in
set_option maxHeartbeats 8000000 in
theorem rulerOf_any (r : RU) (a : RuA) (w : World) (hr : RuR w a r) (hs : ShortU r) : Calls Tryz.prog 106 #[r.val a] w (RetRl r a w) := by
  have CP := Lib.hid fun W s h => patternOf_any s W h
  have CM := Lib.hid fun W s m h => parted_any s m W h
  have HR := Lib.hid hr
  have HS := Lib.hid hs
  have hp1 := hs.p.1; have he1 := hs.e.1; have hb1 := hs.b.1
  obtain ⟨pa, pc, ea, ec, ba, bc⟩ := a
  unfold RU.val
  simp only
  clear hr hs
  have hmm := @run_makeMap Tryz.prog
  go_enter Tryz.func106, Tryz.ntmps106
  go_upto_region 2 with fail
  clear hmm
  have hRW : RuW w r ⟨pa, pc, ea, ec, ba, bc⟩ w.heap.size (w.heap.size + 1 + 1 + 1) (w.heap.size + 1) (w.heap.size + 1 + 1) (.slice none 0 0) [] 0 0 (fun _ => none) (fun _ => none)
      ((((w.alloc (.cells #[.slice pa r.pats.length pc, .slice ea r.excs.length ec, .slice ba r.bars.length bc, .int .i64 r.left, .int .i64 r.right] 24)).alloc (.map #[] 0)).alloc (.map #[] 0)).alloc (.cells #[.slice pa r.pats.length pc, .slice ea r.excs.length ec, .slice ba r.bars.length bc, .int .i64 r.left, .int .i64 r.right, .slice none 0 0, .map (some (w.heap.size + 1)), .map (some (w.heap.size + 1 + 1))] 136)) := by
    refine ⟨(by repeat (first | exact Ext.refl _ | assumption | refine Ext.alloc ?_ _ | refine Ext.drew ?_ | refine Ext.drewN ?_ _ | (refine Ext.setCell ?_ (by simp <;> omega) _) | refine Ext.trans ?_ (by assumption))), (((Blk.new w _ _).alloc _).alloc _).alloc _, ?_, PsW.nil _ _, ?_, ?_, by omega, by omega, by omega, by omega⟩
    · have h := Blk.new (((w.alloc (.cells #[.slice pa r.pats.length pc, .slice ea r.excs.length ec, .slice ba r.bars.length bc, .int .i64 r.left, .int .i64 r.right] 24)).alloc (.map #[] 0)).alloc (.map #[] 0)) 136 #[.slice pa r.pats.length pc, .slice ea r.excs.length ec, .slice ba r.bars.length bc, .int .i64 r.left, .int .i64 r.right, .slice none 0 0, .map (some (w.heap.size + 1)), .map (some (w.heap.size + 1 + 1))]
      rwa [World.size_alloc, World.size_alloc, World.size_alloc] at h
    · have h := KI.made (w.alloc (.cells #[.slice pa r.pats.length pc, .slice ea r.excs.length ec, .slice ba r.bars.length bc, .int .i64 r.left, .int .i64 r.right] 24))
      rw [World.size_alloc] at h
      exact h.ext (by repeat (first | exact Ext.refl _ | assumption | refine Ext.alloc ?_ _ | refine Ext.drew ?_ | refine Ext.drewN ?_ _ | (refine Ext.setCell ?_ (by simp <;> omega) _) | refine Ext.trans ?_ (by assumption)))
    · have h := KI.made ((w.alloc (.cells #[.slice pa r.pats.length pc, .slice ea r.excs.length ec, .slice ba r.bars.length bc, .int .i64 r.left, .int .i64 r.right] 24)).alloc (.map #[] 0))
      rw [World.size_alloc, World.size_alloc] at h
      exact h.ext (by repeat (first | exact Ext.refl _ | assumption | refine Ext.alloc ?_ _ | refine Ext.drew ?_ | refine Ext.drewN ?_ _ | (refine Ext.setCell ?_ (by simp <;> omega) _) | refine Ext.trans ?_ (by assumption)))
  have HRW := Lib.hid hRW
  clear hRW
  generalize ((((w.alloc (.cells #[.slice pa r.pats.length pc, .slice ea r.excs.length ec, .slice ba r.bars.length bc, .int .i64 r.left, .int .i64 r.right] 24)).alloc (.map #[] 0)).alloc (.map #[] 0)).alloc (.cells #[.slice pa r.pats.length pc, .slice ea r.excs.length ec, .slice ba r.bars.length bc, .int .i64 r.left, .int .i64 r.right, .slice none 0 0, .map (some (w.heap.size + 1)), .map (some (w.heap.size + 1 + 1))] 136)) = w0 at *
  obtain ⟨b1, hb1'⟩ : ∃ b, b = w.heap.size := ⟨_, rfl⟩
  obtain ⟨me, hme⟩ : ∃ b, b = w.heap.size + 1 := ⟨_, rfl⟩
  obtain ⟨mb, hmb⟩ : ∃ b, b = w.heap.size + 1 + 1 := ⟨_, rfl⟩
  obtain ⟨rb, hrb⟩ : ∃ b, b = w.heap.size + 1 + 1 + 1 := ⟨_, rfl⟩
  rw [← hrb, ← hmb, ← hme] at HRW ⊢
  have HRW0 : Hid (RuW w r ⟨pa, pc, ea, ec, ba, bc⟩ b1 rb me mb (.slice none 0 0) [] 0 0 (fun _ => none) (fun _ => none) w0) := Lib.hid (by rw [hb1']; exact HRW.out)
  rw [← hb1']
  clear HRW hrb hmb hme hb1'
  have hbx := HRW0.out.bx
  have x0 := hbx.cell 0 _ rfl; have x1 := hbx.cell 1 _ rfl; have x2 := hbx.cell 2 _ rfl; have x3 := hbx.cell 3 _ rfl; have x4 := hbx.cell 4 _ rfl; have xl := hbx.lt
  simp only at x0 x1 x2
  clear hbx
  by_cases hlg : 60 < r.pats.length
  case pos =>
    have il : (60 : Int) < (r.pats.length : Int) := by omega
    have HE : Hid (ruleE r = (0, 8)) := Lib.hid (by unfold ruleE; rw [if_pos hlg])
    clear hlg
    go_wp2
    go_ret3
    exact .inr ⟨by rw [HE.out]; decide, by rw [HE.out]; rfl, HRW0.out.ext⟩
  case neg =>
    have il : ¬ (60 : Int) < (r.pats.length : Int) := by omega
    have hpn : r.pats.length ≤ 9223372036854775807 := by omega
    have HNL := Lib.hid hlg
    have HP0 : Hid (patBad r.pats 0 = none) := Lib.hid rfl
    have HT0 : Hid (RuW w r ⟨pa, pc, ea, ec, ba, bc⟩ b1 rb me mb (.slice none 0 0) ((patsOf r).take 0) 0 0 (fun _ => none) (fun _ => none) w0) := Lib.hid (by rw [List.take_zero]; exact HRW0.out)
    clear HRW0
    go_upto_region 5 with fail
    clear x0 x1 x2 x3 x4 xl
    go_loopw [31, 6, 7, 8, 9] (fun v31 _ _ _ _ wr => ∃ (k : Nat) (v : Value), k ≤ r.pats.length ∧ v31 = .int .i64 (k : Int) ∧ Hid (patBad r.pats k = none) ∧ Hid (RuW w r ⟨pa, pc, ea, ec, ba, bc⟩ b1 rb me mb v ((patsOf r).take k) 0 0 (fun _ => none) (fun _ => none) wr)) (fun v31 _ _ _ _ _ => r.pats.length - (intOf v31).toNat)
    case atStart => exact ⟨0, _, Nat.zero_le _, rfl, HP0, HT0⟩
    case round =>
      clear HP0 HT0
      obtain ⟨k, v, hk, rfl, HPB, HRW⟩ := hrel
      by_cases hlt : k < r.pats.length
      case pos =>
        have ik : (k : Int) < (r.pats.length : Int) := by omega
        obtain ⟨sb, so, hpa, hsl, hsc⟩ := (HR.out.pats.ext HRW.out.ext).2.2 (by omega)
        have c0 := hsc k hlt
        have HSZ := Lib.hid (HS.out.p.2 k hlt)
        have HAT := Lib.hid (patsOf_at hlt)
        have HTK : Hid ((patsOf r).take (k + 1) = (patsOf r).take k ++ [(patsOf r).getD k Pat.zero]) := Lib.hid (by
          rw [List.take_succ_eq_append_getElem (by rw [patsOf_len]; exact hlt), List.getD_eq_getElem?_getD, List.getElem?_eq_getElem (by rw [patsOf_len]; exact hlt)]; rfl)
        have HLT := Lib.hid hlt
        simp only at hpa
        subst hpa
        -- BEGIN A
        cases hpo : patOf (r.pats.getD k ByteArray.empty).data.toList
        case none =>
          have HE : Hid (ruleE r = ((k : Int), 3)) := Lib.hid (by
            unfold ruleE; rw [if_neg HNL.out, patBad_some HPB.out hpo r.pats.length HLT.out])
          have CP' := Lib.hid fun W => CP.out W (r.pats.getD k ByteArray.empty) HSZ.out
          rw [hpo] at CP'
          clear hpo hsc
          generalize r.pats.getD k ByteArray.empty = x at *
          go_wp2_with (first | (go_at_call 137; refine Calls.mono (CP'.out _) ?_; rintro e w3 (⟨q, p, hq, _⟩ | ⟨_, px, rfl, hx⟩); (exact absurd hq (by simp)); have HX3 := Lib.hid hx; clear hx))
          go_ret3
          exact .inr ⟨by rw [HE.out]; simp, by rw [HE.out]; rfl, HRW.out.ext.trans HX3.out⟩
        case some q =>
          have HPN := Lib.hid (patBad_next HPB.out hpo)
          have HQO := Lib.hid (patOf_ok hpo)
          have CP' := Lib.hid fun W => CP.out W (r.pats.getD k ByteArray.empty) HSZ.out
          rw [hpo] at CP' HAT
          have HTK2 : Hid ((patsOf r).take (k + 1) = (patsOf r).take k ++ [q]) := Lib.hid (by rw [HTK.out, HAT.out]; rfl)
          clear hpo hsc HTK HAT
          generalize r.pats.getD k ByteArray.empty = x at *
          have HLEN : Hid (((patsOf r).take k).length = k) := Lib.hid (by rw [List.length_take, patsOf_len]; omega)
          go_upto_region 8 with (first | (go_at_call 137; refine Calls.mono (CP'.out _) ?_; rintro e w3 (⟨q', p, hq, rfl, hp, hx⟩ | ⟨hq, _⟩); rotate_left 1; (exact absurd hq (by simp)); have HQE := Lib.hid (Option.some.inj hq); have HPR := Lib.hid hp; have HX3 := Lib.hid hx; clear hq hp hx))
          have hqe : q = q' := HQE.out
          subst hqe
          have HRW3 := Lib.hid (HRW.out.ext' HX3.out)
          have HPR0 := Lib.hid (HPR.out.mono (Nat.zero_le _))
          have hrb := HRW3.out.blk
          have y5 := hrb.cell 5 _ rfl; have yf := hrb.frozen 5; have yl := hrb.lt
          clear hrb HPR HQE HRW
          obtain ⟨ptrs, hpl, hpo, hpk⟩ := (HRW3.out.ext' ((Ext.refl w3).alloc (.cells #[.pointer (some ⟨p, 0, none⟩)] 133))).ps_.ex
          have HPO := Lib.hid hpo; have HPL := Lib.hid hpl; have HPK := Lib.hid hpk
          have HAL := Lib.hid (HRW3.out.ext' ((Ext.refl w3).alloc (.cells #[.pointer (some ⟨p, 0, none⟩)] 133)))
          have HPA := Lib.hid (HPR0.out.ext ((Ext.refl w3).alloc (.cells #[.pointer (some ⟨p, 0, none⟩)] 133)))
          have HLV : Hid (q.lv.length ≤ 1000) := Lib.hid (by have := HQO.out.len; have := HQO.out.hi; omega)
          clear hpo hpl hpk
          go_upto_region 11 with (first | (at_builtin; refine list_appendC ptrElt rfl (.tmp 48) (.tmp 50) rfl w.heap.size ((patsOf r).take k).length v (ptrs.map fun p => .pointer (some ⟨p, 0, none⟩)) rfl HPO.out (some ⟨w3.heap.size, 0, none⟩) 1 1 [.pointer (some ⟨p, 0, none⟩)] rfl (RC.blk (n := 1) (size := 1) (Blk.new _ _ _) rfl (by omega)) (fun u hu => by simp only [List.mem_cons, List.not_mem_nil, or_false] at hu; rw [hu]; rfl) (by rw [HLEN.out]; omega) (by have := HRW3.out.ext.size; simp; omega) ?_; intro v' w4 ho hg; obtain ⟨A9, n9, c9, rfl, h9, z5, zf, zl⟩ := RuW.step HAL.out HPL.out HPO.out HPK.out HPA.out HLV.out ho hg; have HRW4 := Lib.hid h9; clear h9 ho hg))
          generalize w4.setCell ⟨rb, 5, none⟩ (.slice A9 n9 c9) = w5 at *
          go_wp2
          go_roundw
          case rel => exact ⟨k + 1, _, by omega, by go_num, HPN, Lib.hid (by rw [HTK2.out]; exact HRW4.out)⟩
          case measure => simp [intOf]; omega
        -- END A
      case neg =>
        obtain rfl : k = r.pats.length := by omega
        have ik : ¬ (r.pats.length : Int) < (r.pats.length : Int) := by omega
        have HRA : Hid (RuW w r ⟨pa, pc, ea, ec, ba, bc⟩ b1 rb me mb v (patsOf r) 0 0 (fun _ => none) (fun _ => none) wr) := Lib.hid (by
          have h := HRW.out
          rwa [List.take_of_length_le (by rw [patsOf_len]; exact Nat.le_refl _)] at h)
        have HP1 := Lib.hid (HPB.out)
        clear HRW HPB hk
        go_upto_region 12 with fail
        refine wp_region_steady (Ext _) [?_, ?_, ?_, ?_, ?_, ?_, ?_, ?_, ?_, ?_, ?_, ?_, ?_, ?_, ?_, ?_] (by kernel_rfl) (by kernel_rfl) rfl (Ext.refl _).drew ?_ ?_
        rotate_left 16
        · iterate 16
            refine StepsT.cons (fun W hW => ?_) ?_
            · have h9 := HRA.out.ext' hW; have y1 := h9.bx.cell 1 _ rfl; have y2 := h9.bx.cell 2 _ rfl; have y6 := h9.blk.cell 6 _ rfl; have y7 := h9.blk.cell 7 _ rfl; have yl := h9.blk.lt; have ym := h9.bx.lt; simp only at y1 y2; clear h9; first | (refine StepT.off rfl hW ?_; rfl) | (refine StepT.go rfl ?_; go_simp; first | (refine ⟨?_, hW⟩; rfl))
            simp only [Act.put, List.setIfInBounds_toArray, List.set_cons_zero, List.set_cons_succ]
          trivial
        intro W hW
        simp only [putAll, Act.put, List.setIfInBounds_toArray, List.set_cons_zero, List.set_cons_succ]
        have HJ0 := Lib.hid (HRA.out.ext' hW)
        clear HRA hW
        go_upto_region 13 with fail
        go_loopw [70, 11, 12, 13, 14, 15, 16, 17, 18] (fun v70 _ _ _ _ _ _ _ _ wr => (v70 = .int .i64 0 ∧ Hid (RuW w r ⟨pa, pc, ea, ec, ba, bc⟩ b1 rb me mb v (patsOf r) 0 0 (fun _ => none) (fun _ => none) wr)) ∨ (v70 = .int .i64 1 ∧ Hid (RuW w r ⟨pa, pc, ea, ec, ba, bc⟩ b1 rb me mb v (patsOf r) r.excs.length 0 (mkLook true 45 r.excs r.excs.length) (fun _ => none) wr) ∧ Hid ((mkChk true 45 r.excs).2 = 0)) ∨ (v70 = .int .i64 2 ∧ Hid (RuW w r ⟨pa, pc, ea, ec, ba, bc⟩ b1 rb me mb v (patsOf r) r.excs.length r.bars.length (mkLook true 45 r.excs r.excs.length) (mkLook false 124 r.bars r.bars.length) wr) ∧ Hid ((mkChk true 45 r.excs).2 = 0) ∧ Hid ((mkChk false 124 r.bars).2 = 0))) (fun v70 _ _ _ _ _ _ _ _ _ => 2 - (intOf v70).toNat)
        case atStart => exact .inl ⟨rfl, HJ0⟩
        case round =>
          clear HJ0
          rcases hrel with ⟨rfl, HJ⟩ | ⟨rfl, HJ, HC1⟩ | ⟨rfl, HJ, HC1, HC2⟩
          · have HEE : Hid (∀ i e, mkChk true 45 r.excs = (i, e) → e ≠ 0 → ruleE r = (i, e)) := Lib.hid fun i e h he => ruleE_e HNL.out HP1.out h he
            have hx0 := @row0
            have hst : ∀ (fn : Fn) (x y : Array Value) (a : Addr) (m : Mode) (w : World), (store a (.func fn x y) m).run Tryz.prog w = stored Tryz.prog w a (.func fn x y) m := fun _ _ _ _ _ _ => run_store _ _ _ _ _ rfl
            go_upto_region 15 with fail
            have HJ1 : Hid (RuW w r ⟨pa, pc, ea, ec, ba, bc⟩ b1 rb me mb v (patsOf r) 0 0 (fun _ => none) (fun _ => none) (wr.alloc (.cells #[.slice ea r.excs.length ec, .string ⟨#[45]⟩, .map (some me), .func (.func 138) #[] #[]] 204))) := Lib.hid (HJ.out.ext' ((Ext.refl wr).alloc (.cells #[.slice ea r.excs.length ec, .string ⟨#[45]⟩, .map (some me), .func (.func 138) #[] #[]] 204)))
            have HTB : Hid (Blk (wr.alloc (.cells #[.slice ea r.excs.length ec, .string ⟨#[45]⟩, .map (some me), .func (.func 138) #[] #[]] 204)) wr.heap.size 204 #[.slice ea r.excs.length ec, .string ⟨#[45]⟩, .map (some me), .func (.func 138) #[] #[]]) := Lib.hid (Blk.new wr _ _)
            clear HJ hx0 hst
            generalize wr.alloc (.cells #[.slice ea r.excs.length ec, .string ⟨#[45]⟩, .map (some me), .func (.func 138) #[] #[]] 204) = w1 at *
            generalize wr.heap.size = tb at *
            have z0 := HTB.out.cell 0 _ rfl; have zl := HTB.out.lt
            by_cases hlg : 40 < r.excs.length
            case pos =>
              have il : (40 : Int) < (r.excs.length : Int) := by omega
              have HE : Hid (ruleE r = (0, 8)) := Lib.hid (HEE.out 0 8 (mkChk_many hlg) (by decide))
              clear hlg
              go_wp2
              go_ret3
              exact .inr ⟨by rw [HE.out]; decide, by rw [HE.out]; rfl, HJ1.out.ext⟩
            case neg =>
              have il : ¬ (40 : Int) < (r.excs.length : Int) := by omega
              have HNL2 := Lib.hid hlg
              have hln : r.excs.length ≤ 9223372036854775807 := by omega
              have HB0 : Hid (mkBad true 45 r.excs 0 = none) := Lib.hid rfl
              have HJ2 : Hid (RuW w r ⟨pa, pc, ea, ec, ba, bc⟩ b1 rb me mb v (patsOf r) 0 0 (mkLook true 45 r.excs 0) (fun _ => none) w1) := Lib.hid (by have h := HJ1.out; exact h)
              clear HJ1 hlg
              go_upto_region 18 with fail
              clear z0 zl
              have HTC := Lib.hid HTB.out
              go_loopw [80, 12, 13, 14, 15, 16, 17, 18] (fun v80 _ _ _ _ _ _ _ wq => ∃ k : Nat, k ≤ r.excs.length ∧ v80 = .int .i64 (k : Int) ∧ Hid (mkBad true 45 r.excs k = none) ∧ Hid (RuW w r ⟨pa, pc, ea, ec, ba, bc⟩ b1 rb me mb v (patsOf r) k 0 (mkLook true 45 r.excs k) (fun _ => none) wq) ∧ Hid (Blk wq tb 204 #[.slice ea r.excs.length ec, .string ⟨#[45]⟩, .map (some me), .func (.func 138) #[] #[]])) (fun v80 _ _ _ _ _ _ _ _ => r.excs.length - (intOf v80).toNat)
              case atStart => exact ⟨0, Nat.zero_le _, rfl, HB0, HJ2, HTC⟩
              case round =>
                clear HB0 HJ2 HTB HTC
                obtain ⟨k, hk, rfl, HPB, HRW, HTB⟩ := hrel
                by_cases hlt : k < r.excs.length
                case pos =>
                  have ik : (k : Int) < (r.excs.length : Int) := by omega
                  obtain ⟨sb, so, hpa, hsl, hsc⟩ := (HR.out.excs.ext HRW.out.ext).2.2 (by omega)
                  have c0 := hsc k hlt
                  have HSZ := Lib.hid (HS.out.e.2 k hlt)
                  have HLT := Lib.hid hlt
                  simp only at hpa
                  subst hpa
                  have z1 := HTB.out.cell 1 _ rfl; have zl := HTB.out.lt
                  cases hmo : mkAll (r.excs.getD k ByteArray.empty).data.toList 45
                  case none =>
                    have HE : Hid (ruleE r = ((k : Int), 3)) := Lib.hid (HEE.out k 3 (mkChk_bad HNL2.out HPB.out (mkErr_none (mkOf_none hmo)) (by decide) HLT.out) (by decide))
                    have CM' := Lib.hid fun W => CM.out W (r.excs.getD k ByteArray.empty) 45 HSZ.out
                    rw [hmo] at CM'
                    clear hmo hsc
                    generalize r.excs.getD k ByteArray.empty = x at *
                    go_wp2_with (first | (go_at_call 140; refine Calls.mono (CM'.out _) ?_; rintro e w3 (⟨q, A3, c3, hq, _⟩ | ⟨_, rfl, hx⟩); (exact absurd hq (by simp)); have HX3 := Lib.hid hx; clear hx))
                    go_ret3
                    exact .inr ⟨by rw [HE.out]; simp, by rw [HE.out]; rfl, HRW.out.ext.trans HX3.out⟩
                  case some y =>
                    have HYB := Lib.hid (mkAll_bd hmo)
                    have HMO := Lib.hid hmo
                    have HY1 : Hid (y.1.length ≤ 1000 ∧ y.2.length ≤ 1000) := Lib.hid (by have h1 := HYB.out; have h2 := HSZ.out; have h3 : (r.excs.getD k ByteArray.empty).data.toList.length = (r.excs.getD k ByteArray.empty).size := by simp
                                                                                          omega)
                    have CM' := Lib.hid fun W => CM.out W (r.excs.getD k ByteArray.empty) 45 HSZ.out
                    rw [hmo] at CM'
                    clear hmo hsc
                    obtain ⟨x, hxe⟩ : ∃ x, x = r.excs.getD k ByteArray.empty := ⟨_, rfl⟩
                    rw [← hxe] at c0 CM'
                    clear hxe
                    go_upto_region 21 with (first | (go_at_call 140; refine Calls.mono (CM'.out _) ?_; rintro e w3 (⟨q', A3, c3, hq, rfl, hs3, hx⟩ | ⟨hq, _⟩); rotate_left 1; (exact absurd hq (by simp)); have HQE := Lib.hid (Option.some.inj hq); have HSL3 := Lib.hid hs3; have HX3 := Lib.hid hx; clear hq hs3 hx))
                    have hqe : y = q' := HQE.out
                    subst hqe
                    have HRW3 := Lib.hid (HRW.out.ext' HX3.out)
                    have HTB3 := Lib.hid (HTB.out.ext HX3.out)
                    clear z1 zl c0 HTB HRW HQE
                    have z3 := HTB3.out.cell 3 _ rfl; have zl := HTB3.out.lt
                    have CR := Lib.hid fun W => right1_any y A3 y.2.length c3 W (by have := HY1.out; omega)
                    cases hok : mkOk true y
                    case false =>
                      have HE : Hid (ruleE r = ((k : Int), 3)) := Lib.hid (HEE.out k 3 (mkChk_bad HNL2.out HPB.out (mkErr_none (mkOf_bad HMO.out hok)) (by decide) HLT.out) (by decide))
                      rw [hok] at CR
                      clear hok
                      go_wp2_with (first | (go_at_call 138; refine Calls.mono (CR.out _) ?_; rintro e w4 ⟨rfl, hx⟩; have HX4 := Lib.hid hx; clear hx))
                      go_ret3
                      exact .inr ⟨by rw [HE.out]; simp, by rw [HE.out]; rfl, HRW3.out.ext.trans HX4.out⟩
                    case true =>
                      have HOF := Lib.hid (mkOf_good HMO.out hok)
                      rw [hok] at CR
                      clear hok
                      go_upto_region 23 with (first | (go_at_call 138; refine Calls.mono (CR.out _) ?_; rintro e w4 ⟨rfl, hx⟩; have HX4 := Lib.hid hx; clear hx))
                      have HRW4 := Lib.hid (HRW3.out.ext' HX4.out)
                      have HTB4 := Lib.hid (HTB3.out.ext HX4.out)
                      clear z3 zl HRW3 HTB3
                      have z2 := HTB4.out.cell 2 _ rfl; have zl := HTB4.out.lt
                      obtain ⟨A5, c5, hlk, _, _⟩ := HRW4.out.exc.look (strL y.1) (by rw [strL_size]; have := HY1.out; unfold maxLen; omega)
                      simp only [strL_list] at hlk
                      cases hlo : mkLook true 45 r.excs k y.1
                      case some zs =>
                        rw [hlo] at hlk
                        simp only [Option.getD_some, Option.isSome_some] at hlk
                        have HE : Hid (ruleE r = ((k : Int), 5)) := Lib.hid (HEE.out k 5 (mkChk_bad HNL2.out HPB.out (mkErr_two HOF.out hlo) (by decide) HLT.out) (by decide))
                        clear hlo
                        go_wp2
                        go_ret3
                        exact .inr ⟨by rw [HE.out]; simp, by rw [HE.out]; rfl, HRW4.out.ext⟩
                      case none =>
                        rw [hlo] at hlk
                        simp only [Option.getD_none, Option.isSome_none, List.length_nil] at hlk
                        have HPN := Lib.hid (mkBad_next HPB.out (mkErr_one HOF.out hlo))
                        obtain ⟨w5, hrun, hk5, hg5⟩ := HRW4.out.exc.put (strL y.1) (by rw [strL_size]; have := HY1.out; unfold maxLen; omega) A3 c3 y.2 ((HSL3.out.ext HX4.out).mono (Nat.zero_le _)) (by have := HS.out.e.1; have := HLT.out; unfold maxLen; omega)
                        have HRW5 := Lib.hid (HRW4.out.putE hg5 hk5)
                        have HTB5 := Lib.hid (HTB4.out.on (CellsOn.of_map HRW4.out.exc hg5))
                        rw [mkLook_next HOF.out] at HRW5
                        clear hlo hk5 hg5
                        go_wp2
                        go_roundw
                        case rel => exact ⟨k + 1, by omega, by go_num, HPN, HRW5, HTB5⟩
                        case measure => simp [intOf]; omega
                case neg =>
                  obtain rfl : k = r.excs.length := by omega
                  have ik : ¬ (r.excs.length : Int) < (r.excs.length : Int) := by omega
                  have HCC := Lib.hid (mkChk_good HNL2.out HPB.out)
                  clear HPB hk hlt
                  go_wp2
                  go_roundw
                  case rel => exact .inr (.inl ⟨rfl, HRW, HCC⟩)
                  case measure => simp [intOf]
          · have HEE : Hid (∀ i e, mkChk false 124 r.bars = (i, e) → e ≠ 0 → ruleE r = (i, e)) := Lib.hid fun i e h he => ruleE_b HNL.out HP1.out HC1.out h he
            have hx0 := @row1
            have hst : ∀ (fn : Fn) (x y : Array Value) (a : Addr) (m : Mode) (w : World), (store a (.func fn x y) m).run Tryz.prog w = stored Tryz.prog w a (.func fn x y) m := fun _ _ _ _ _ _ => run_store _ _ _ _ _ rfl
            go_upto_region 15 with fail
            have HJ1 : Hid (RuW w r ⟨pa, pc, ea, ec, ba, bc⟩ b1 rb me mb v (patsOf r) r.excs.length 0 (mkLook true 45 r.excs r.excs.length) (fun _ => none) (wr.alloc (.cells #[.slice ba r.bars.length bc, .string ⟨#[124]⟩, .map (some mb), .func (.func 139) #[] #[]] 204))) := Lib.hid (HJ.out.ext' ((Ext.refl wr).alloc (.cells #[.slice ba r.bars.length bc, .string ⟨#[124]⟩, .map (some mb), .func (.func 139) #[] #[]] 204)))
            have HTB : Hid (Blk (wr.alloc (.cells #[.slice ba r.bars.length bc, .string ⟨#[124]⟩, .map (some mb), .func (.func 139) #[] #[]] 204)) wr.heap.size 204 #[.slice ba r.bars.length bc, .string ⟨#[124]⟩, .map (some mb), .func (.func 139) #[] #[]]) := Lib.hid (Blk.new wr _ _)
            clear HJ hx0 hst
            generalize wr.alloc (.cells #[.slice ba r.bars.length bc, .string ⟨#[124]⟩, .map (some mb), .func (.func 139) #[] #[]] 204) = w1 at *
            generalize wr.heap.size = tb at *
            have z0 := HTB.out.cell 0 _ rfl; have zl := HTB.out.lt
            by_cases hlg : 40 < r.bars.length
            case pos =>
              have il : (40 : Int) < (r.bars.length : Int) := by omega
              have HE : Hid (ruleE r = (0, 8)) := Lib.hid (HEE.out 0 8 (mkChk_many hlg) (by decide))
              clear hlg
              go_wp2
              go_ret3
              exact .inr ⟨by rw [HE.out]; decide, by rw [HE.out]; rfl, HJ1.out.ext⟩
            case neg =>
              have il : ¬ (40 : Int) < (r.bars.length : Int) := by omega
              have HNL2 := Lib.hid hlg
              have hln : r.bars.length ≤ 9223372036854775807 := by omega
              have HB0 : Hid (mkBad false 124 r.bars 0 = none) := Lib.hid rfl
              have HJ2 : Hid (RuW w r ⟨pa, pc, ea, ec, ba, bc⟩ b1 rb me mb v (patsOf r) r.excs.length 0 (mkLook true 45 r.excs r.excs.length) (mkLook false 124 r.bars 0) w1) := Lib.hid (by have h := HJ1.out; exact h)
              clear HJ1 hlg
              go_upto_region 18 with fail
              clear z0 zl
              have HTC := Lib.hid HTB.out
              go_loopw [80, 12, 13, 14, 15, 16, 17, 18] (fun v80 _ _ _ _ _ _ _ wq => ∃ k : Nat, k ≤ r.bars.length ∧ v80 = .int .i64 (k : Int) ∧ Hid (mkBad false 124 r.bars k = none) ∧ Hid (RuW w r ⟨pa, pc, ea, ec, ba, bc⟩ b1 rb me mb v (patsOf r) r.excs.length k (mkLook true 45 r.excs r.excs.length) (mkLook false 124 r.bars k) wq) ∧ Hid (Blk wq tb 204 #[.slice ba r.bars.length bc, .string ⟨#[124]⟩, .map (some mb), .func (.func 139) #[] #[]])) (fun v80 _ _ _ _ _ _ _ _ => r.bars.length - (intOf v80).toNat)
              case atStart => exact ⟨0, Nat.zero_le _, rfl, HB0, HJ2, HTC⟩
              case round =>
                clear HB0 HJ2 HTB HTC
                obtain ⟨k, hk, rfl, HPB, HRW, HTB⟩ := hrel
                by_cases hlt : k < r.bars.length
                case pos =>
                  have ik : (k : Int) < (r.bars.length : Int) := by omega
                  obtain ⟨sb, so, hpa, hsl, hsc⟩ := (HR.out.bars.ext HRW.out.ext).2.2 (by omega)
                  have c0 := hsc k hlt
                  have HSZ := Lib.hid (HS.out.b.2 k hlt)
                  have HLT := Lib.hid hlt
                  simp only at hpa
                  subst hpa
                  have z1 := HTB.out.cell 1 _ rfl; have zl := HTB.out.lt
                  cases hmo : mkAll (r.bars.getD k ByteArray.empty).data.toList 124
                  case none =>
                    have HE : Hid (ruleE r = ((k : Int), 3)) := Lib.hid (HEE.out k 3 (mkChk_bad HNL2.out HPB.out (mkErr_none (mkOf_none hmo)) (by decide) HLT.out) (by decide))
                    have CM' := Lib.hid fun W => CM.out W (r.bars.getD k ByteArray.empty) 124 HSZ.out
                    rw [hmo] at CM'
                    clear hmo hsc
                    generalize r.bars.getD k ByteArray.empty = x at *
                    go_wp2_with (first | (go_at_call 140; refine Calls.mono (CM'.out _) ?_; rintro e w3 (⟨q, A3, c3, hq, _⟩ | ⟨_, rfl, hx⟩); (exact absurd hq (by simp)); have HX3 := Lib.hid hx; clear hx))
                    go_ret3
                    exact .inr ⟨by rw [HE.out]; simp, by rw [HE.out]; rfl, HRW.out.ext.trans HX3.out⟩
                  case some y =>
                    have HYB := Lib.hid (mkAll_bd hmo)
                    have HMO := Lib.hid hmo
                    have HY1 : Hid (y.1.length ≤ 1000 ∧ y.2.length ≤ 1000) := Lib.hid (by have h1 := HYB.out; have h2 := HSZ.out; have h3 : (r.bars.getD k ByteArray.empty).data.toList.length = (r.bars.getD k ByteArray.empty).size := by simp
                                                                                          omega)
                    have CM' := Lib.hid fun W => CM.out W (r.bars.getD k ByteArray.empty) 124 HSZ.out
                    rw [hmo] at CM'
                    clear hmo hsc
                    obtain ⟨x, hxe⟩ : ∃ x, x = r.bars.getD k ByteArray.empty := ⟨_, rfl⟩
                    rw [← hxe] at c0 CM'
                    clear hxe
                    go_upto_region 21 with (first | (go_at_call 140; refine Calls.mono (CM'.out _) ?_; rintro e w3 (⟨q', A3, c3, hq, rfl, hs3, hx⟩ | ⟨hq, _⟩); rotate_left 1; (exact absurd hq (by simp)); have HQE := Lib.hid (Option.some.inj hq); have HSL3 := Lib.hid hs3; have HX3 := Lib.hid hx; clear hq hs3 hx))
                    have hqe : y = q' := HQE.out
                    subst hqe
                    have HRW3 := Lib.hid (HRW.out.ext' HX3.out)
                    have HTB3 := Lib.hid (HTB.out.ext HX3.out)
                    clear z1 zl c0 HTB HRW HQE
                    have z3 := HTB3.out.cell 3 _ rfl; have zl := HTB3.out.lt
                    have CR := Lib.hid fun W => right2_any y A3 c3 W (by have := HY1.out; omega) (by have := HY1.out; omega)
                    cases hok : mkOk false y
                    case false =>
                      have HE : Hid (ruleE r = ((k : Int), 3)) := Lib.hid (HEE.out k 3 (mkChk_bad HNL2.out HPB.out (mkErr_none (mkOf_bad HMO.out hok)) (by decide) HLT.out) (by decide))
                      rw [hok] at CR
                      clear hok
                      go_wp2_with (first | (go_at_call 139; refine Calls.mono (CR.out _) ?_; rintro e w4 ⟨rfl, hx⟩; have HX4 := Lib.hid hx; clear hx))
                      go_ret3
                      exact .inr ⟨by rw [HE.out]; simp, by rw [HE.out]; rfl, HRW3.out.ext.trans HX4.out⟩
                    case true =>
                      have HOF := Lib.hid (mkOf_good HMO.out hok)
                      rw [hok] at CR
                      clear hok
                      go_upto_region 23 with (first | (go_at_call 139; refine Calls.mono (CR.out _) ?_; rintro e w4 ⟨rfl, hx⟩; have HX4 := Lib.hid hx; clear hx))
                      have HRW4 := Lib.hid (HRW3.out.ext' HX4.out)
                      have HTB4 := Lib.hid (HTB3.out.ext HX4.out)
                      clear z3 zl HRW3 HTB3
                      have z2 := HTB4.out.cell 2 _ rfl; have zl := HTB4.out.lt
                      obtain ⟨A5, c5, hlk, _, _⟩ := HRW4.out.bar.look (strL y.1) (by rw [strL_size]; have := HY1.out; unfold maxLen; omega)
                      simp only [strL_list] at hlk
                      cases hlo : mkLook false 124 r.bars k y.1
                      case some zs =>
                        rw [hlo] at hlk
                        simp only [Option.getD_some, Option.isSome_some] at hlk
                        have HE : Hid (ruleE r = ((k : Int), 5)) := Lib.hid (HEE.out k 5 (mkChk_bad HNL2.out HPB.out (mkErr_two HOF.out hlo) (by decide) HLT.out) (by decide))
                        clear hlo
                        go_wp2
                        go_ret3
                        exact .inr ⟨by rw [HE.out]; simp, by rw [HE.out]; rfl, HRW4.out.ext⟩
                      case none =>
                        rw [hlo] at hlk
                        simp only [Option.getD_none, Option.isSome_none, List.length_nil] at hlk
                        have HPN := Lib.hid (mkBad_next HPB.out (mkErr_one HOF.out hlo))
                        obtain ⟨w5, hrun, hk5, hg5⟩ := HRW4.out.bar.put (strL y.1) (by rw [strL_size]; have := HY1.out; unfold maxLen; omega) A3 c3 y.2 ((HSL3.out.ext HX4.out).mono (Nat.zero_le _)) (by have := HS.out.b.1; have := HLT.out; unfold maxLen; omega)
                        have HRW5 := Lib.hid (HRW4.out.putB hg5 hk5)
                        have HTB5 := Lib.hid (HTB4.out.on (CellsOn.of_map HRW4.out.bar hg5))
                        rw [mkLook_next HOF.out] at HRW5
                        clear hlo hk5 hg5
                        go_wp2
                        go_roundw
                        case rel => exact ⟨k + 1, by omega, by go_num, HPN, HRW5, HTB5⟩
                        case measure => simp [intOf]; omega
                case neg =>
                  obtain rfl : k = r.bars.length := by omega
                  have ik : ¬ (r.bars.length : Int) < (r.bars.length : Int) := by omega
                  have HCC := Lib.hid (mkChk_good HNL2.out HPB.out)
                  clear HPB hk hlt
                  go_wp2
                  go_roundw
                  case rel => exact .inr (.inr ⟨rfl, HRW, HC1, HCC⟩)
                  case measure => simp [intOf]
          · have hbx := HJ.out.bx
            have z3 := hbx.cell 3 _ rfl; have z4 := hbx.cell 4 _ rfl; have zl := hbx.lt
            clear hbx
            by_cases hl : 1 ≤ r.left ∧ r.left ≤ 10
            case neg =>
              have HE := Lib.hid (ruleE_l HNL.out HP1.out HC1.out HC2.out (.inl hl))
              go_wp2_with (first | (go_at_call 80; refine Calls.mono (tWithin_yes _ _ _ _ ?_) ?_; (omega); rintro e w1 ⟨rfl, rfl⟩) | (go_at_call 80; refine Calls.mono (tWithin_no _ _ _ _ ?_) ?_; (omega); rintro e w1 ⟨rfl, rfl⟩))
              go_ret3
              exact .inr ⟨by rw [HE.out]; decide, by rw [HE.out]; rfl, HJ.out.ext⟩
            case pos =>
              by_cases hr2 : 1 ≤ r.right ∧ r.right ≤ 10
              case neg =>
                have HE := Lib.hid (ruleE_l HNL.out HP1.out HC1.out HC2.out (.inr hr2))
                go_wp2_with (first | (go_at_call 80; refine Calls.mono (tWithin_yes _ _ _ _ ?_) ?_; (omega); rintro e w1 ⟨rfl, rfl⟩) | (go_at_call 80; refine Calls.mono (tWithin_no _ _ _ _ ?_) ?_; (omega); rintro e w1 ⟨rfl, rfl⟩))
                go_ret3
                exact .inr ⟨by rw [HE.out]; decide, by rw [HE.out]; rfl, HJ.out.ext⟩
              case pos =>
                have HRU := Lib.hid (RightU.mk (by have := HNL.out; omega) HP1.out HC1.out HC2.out hl hr2 : RightU r)
                have HFM := Lib.hid (HJ.out.ps_.form (by rw [patsOf_len]; have := HNL.out; omega))
                go_wp2_with (first | (go_at_call 80; refine Calls.mono (tWithin_yes _ _ _ _ ?_) ?_; (omega); rintro e w1 ⟨rfl, rfl⟩) | (go_at_call 80; refine Calls.mono (tWithin_no _ _ _ _ ?_) ?_; (omega); rintro e w1 ⟨rfl, rfl⟩))
                go_ret3
                obtain ⟨PA, pc', hv, hPA⟩ := HFM.out
                rw [patsOf_len] at hv
                have hblk := HJ.out.blk
                rw [hv] at hblk
                exact .inl ⟨by rw [HRU.out.to], rb, PA, pc', me, mb, _, _, rfl, ⟨hblk, hPA, HJ.out.exc, HJ.out.bar, by rw [HRU.out.to]⟩, HJ.out.ext⟩
end Go.Proofs.YtccdnieoaejgdaaGreatDoor
