/-
  Walk: a word is set (the printer's set).
-/
import Derived.Test.YtccdnieoaejgdaaGreatDoorT2AV
set_option linter.unusedVariables false
set_option linter.unusedSimpArgs false
set_option linter.unusedSectionVars false
namespace Go.Proofs.YtccdnieoaejgdaaGreatDoor
open Go.RowKit Go.Shelf
attribute [local go_sem] Oper.semAt_some wide_fn wide_depth stateAt vu known List.map_cons List.map_nil Option.getD_some

/-- The measure of the loop: the bytes that are left, by the place's last load. -/
def leftOf (n : Nat) : Value → Nat
  | .int _ z => n - z.toNat
  | _ => n + 1
set_option maxRecDepth 100000 in
set_option maxHeartbeats 8000000 in
theorem set_any (f : FT) (A : Option Addr) (c : Nat) (s : ByteArray) (B : Option Addr) (d : Nat) (bz : List Int) (w : World) (hf : FR w A c f) (hn : f.sorts.length ≤ 120) (hs : s.size ≤ 100) (hb : RI w B bz.length bz) (ht : ∀ k, k < f.sorts.length → (f.sorts.getD k TS.zero).text.size ≤ 4) :
    Calls Tryz.prog 73 #[f.val A c, .string s, .slice B bz.length d] w (RetSB (setOf f.sorts s.data.toList bz) w) := by
  have HF := Lib.hid hf; have HBZ := Lib.hid hb; have HT4 := Lib.hid ht
  have HSL : Hid (s.data.toList.length = s.size) := Lib.hid (by simp)
  have CB := Lib.hid fun a W => begins_any f A c (s.extract a s.size) W
  have CBR := Lib.hid fun W (a n : Int) (hz : RI W B bz.length bz) ha hn => barred_any B d bz a n W hz ha hn
  unfold FT.val at CB ⊢
  obtain ⟨PC, hPC⟩ : ∃ PC : Array Value, PC = #[.string f.name, .int .i64 f.body, .slice A f.sorts.length c] := ⟨_, rfl⟩
  obtain ⟨BV, hBV⟩ : ∃ BV : Value, BV = .slice B bz.length d := ⟨_, rfl⟩
  have HPC := Lib.hid hPC; have HBV := Lib.hid hBV
  clear hf hb ht hPC hBV
  refine (callsIn_wide (n := 3)).1 ?_
  refine callsIn_of_wp_marks Tryz.func73 rfl trivial ?_ rfl
  simp only [Tryz.ntmps73, List.size_toArray, List.length_cons, List.length_nil, Nat.reduceAdd, Nat.reduceSub, Array.replicate_succ, Array.replicate_zero, List.push_toArray, List.append_toArray, List.nil_append, List.cons_append]
  refine wpIn_wide.2 ?_
  go_upto_block 0 with fail
  go_step
  have HS0 : Hid (StW w PC BV (w.heap.size + 1 + 1) ((0 : Nat) : Int) (.slice none 0 0) [] [] (((w.alloc (.cells #[.string f.name, .int .i64 f.body, .slice A f.sorts.length c] 126)).alloc (.cells #[.slice B bz.length d] 27)).alloc (.cells #[.int .i64 0] 3))) := Lib.hid (by
    rw [HPC.out, HBV.out]
    exact ⟨(by repeat (first | exact Ext.refl _ | assumption | refine Ext.alloc ?_ _ | refine Ext.drew ?_ | refine Ext.drewN ?_ _ | (refine Ext.setCell ?_ (by simp <;> omega) _) | refine Ext.trans ?_ (by assumption))), ((Blk.new w _ _).alloc _).alloc _, (Blk.new1 w _ _ _).alloc _, Blk.new2 w _ _ _ _, by omega, Own.nil _ _, (fun k h => by cases h), Marks.nil _ _⟩)
  refine wp_loop_m [false, false, false, false, false, false, false, false, true, true, true, true, true, true, true, true, true, true, true, true, true, true, true, true, true, true, true, true, true, true, true, true, true, true, true, true, true, true, true, true, true, true, true, true, true, true, true, false] 46 (fun U Ds wr => ∃ (k a ab : Nat) (out : List Int), Hid (setSt f.sorts s.data.toList bz k = some (a, out)) ∧ U 9 = .pointer (some ⟨ab, 0, none⟩) ∧ (U 46 = undef ∨ U 46 = .int .i64 (a : Int)) ∧ Hid (StW w PC BV ab (a : Int) (U 8) out Ds wr)) (leftOf s.size) [] rfl ?_ ?_
  · exact ⟨0, 0, _, [], Lib.hid rfl, rfl, .inl rfl, HS0⟩
  intro U Ds wr hrel
  obtain ⟨k, a, ab, out, HST, h9, h46, HS⟩ := hrel
  generalize h8 : U 8 = v8 at *
  simp only [over, Nat.reduceAdd, h8, h9]
  clear h8 h9 HS0
  have H46 := Lib.hid h46
  clear h46
  have hbd := setSt_bd HST.out
  rw [HSL.out] at hbd
  obtain ⟨hbd1, hbd2, hbd3, hbd4⟩ := hbd
  have HBD3 := Lib.hid hbd3; have HBD4 := Lib.hid hbd4
  have y1 := HS.out.at_.cell 0 _ rfl; have l1 := HS.out.at_.lt
  clear hbd3 hbd4
  by_cases hlt : a < s.size
  case neg =>
    -- BEGIN E
    obtain rfl : a = s.size := by omega
    have i1 : ¬ (s.size : Int) < (s.size : Int) := by omega
    have HR : Hid (setOf f.sorts s.data.toList bz = some out) := Lib.hid (setOf_some HST.out (by rw [HSL.out]; omega))
    obtain ⟨A8, c8, rfl, hc8, hr8⟩ := HS.out.own.form (by omega)
    clear hc8 hr8 hlt
    go_wp2
    refine leaves_marks (n0 := w.heap.size) Ds _ (HS.out.ms.ext (by repeat (first | exact Ext.refl _ | assumption | refine Ext.alloc ?_ _ | refine Ext.drew ?_ | refine Ext.drewN ?_ _ | (refine Ext.setCell ?_ (by simp <;> omega) _) | refine Ext.trans ?_ (by assumption)))) fun w' hb' hc' => ⟨.tuple #[.slice A8 out.length c8, .bool true], by simp [results, Tryz.results73], ?_⟩
    rw [HR.out]
    exact ⟨A8, c8, rfl, (SL.of_own (hc'.own HS.out.own) (by omega)).mono (by omega), Below.trans HS.out.ext hb'⟩
    -- END E
  case pos =>
    have i1 : (a : Int) < (s.size : Int) := by omega
    go_upto_region 5 with fail
    obtain ⟨wm, hwm⟩ : ∃ wm, (wr.alloc (.cells #[.int .i64 (-1)] 3)).alloc (.cells #[.int .i64 0] 3) = wm := ⟨_, rfl⟩
    have hxm : Ext wr wm := by rw [← hwm]; exact (by repeat (first | exact Ext.refl _ | assumption | refine Ext.alloc ?_ _ | refine Ext.drew ?_ | refine Ext.drewN ?_ _ | (refine Ext.setCell ?_ (by simp <;> omega) _) | refine Ext.trans ?_ (by assumption)))
    have hQ0 : Blk wm wr.heap.size 3 #[.int .i64 (-1)] := by rw [← hwm]; exact (Blk.new wr _ _).alloc _
    have hM0 : Blk wm (wr.heap.size + 1) 3 #[.int .i64 0] := by rw [← hwm]; exact Blk.new1 wr _ _ _
    rw [hwm]
    obtain ⟨qb, hqb⟩ : ∃ qb, qb = wr.heap.size := ⟨_, rfl⟩
    obtain ⟨qm, hqm⟩ : ∃ qm, qm = wr.heap.size + 1 := ⟨_, rfl⟩
    rw [← hqm] at hM0 ⊢
    rw [← hqb] at hQ0 ⊢
    have HM := Lib.hid (HS.out.next hxm)
    have HQ0 := Lib.hid hQ0; have HM0 := Lib.hid hM0
    have HNE : Hid (∀ k, v8.ownBlock = some k → k ≠ ab ∧ k ≠ qb ∧ k ≠ qm) := Lib.hid fun k hk => by have h1 := HS.out.ne k hk; have h2 := (World.ownsRow.lt HS.out.own k hk).2; omega
    have HAB : Hid (ab ≠ qb ∧ ab ≠ qm ∧ qb ≠ qm) := Lib.hid (by omega)
    have HQL : Hid (w.heap.size + 2 ≤ qb ∧ w.heap.size + 2 ≤ qm) := Lib.hid (by have := HS.out.lo; omega)
    clear hwm hxm hQ0 hM0 hqb hqm y1 l1 HS
    have CBA := Lib.hid fun W => CB.out a W
    have has : a ≤ s.size := by omega
    refine wp_region_rel [some (.agg #[.string f.name, .int .i64 f.body, .slice A f.sorts.length c]), some (.string s), some (.int .i64 (a : Int)), some (.string (s.extract a s.size)), none] (fun k v W => (k = 4 → (fun (v : Value) (W : World) => ∃ bk bf, v = .func (.func 143) #[] #[.pointer (some ⟨bk, 0, none⟩), .pointer (some ⟨bf, 0, none⟩)] ∧ Blk W bk 126 #[.string f.name, .int .i64 f.body, .slice A f.sorts.length c] ∧ Blk W bf 9 #[.string (s.extract a s.size)]) v W)) wm (by kernel_rfl) (by kernel_rfl) rfl (fun k v W W' h hx => fun e => let ⟨bk, bf, h1, h2, h3⟩ := (h e); ⟨bk, bf, h1, h2.ext hx, h3.ext hx⟩) (Ext.refl _) ⟨?_, ?_, ?_, ?_, ?_, trivial⟩ ?_
    · intro U W hx hR
      clear hR
      have hP := HM.out.pb.ext hx; rw [HPC.out] at hP; have y1 := hP.cell 0 _ rfl; have y2 := hP.cell 1 _ rfl; have y3 := hP.cell 2 _ rfl; have l1 := hP.lt; clear hP
      refine StepZ.go rfl ?_
      go_simp
      exact ⟨(by repeat (first | exact Ext.refl _ | assumption | refine Ext.alloc ?_ _ | refine Ext.drew ?_ | refine Ext.drewN ?_ _ | (refine Ext.setCell ?_ (by simp <;> omega) _) | refine Ext.trans ?_ (by assumption))), gives_k (by kernel_rfl)⟩
    · intro U W hx hR
      clear hR
      refine StepZ.go rfl ?_
      go_simp
      exact ⟨(by repeat (first | exact Ext.refl _ | assumption | refine Ext.alloc ?_ _ | refine Ext.drew ?_ | refine Ext.drewN ?_ _ | (refine Ext.setCell ?_ (by simp <;> omega) _) | refine Ext.trans ?_ (by assumption))), gives_k (by kernel_rfl)⟩
    · intro U W hx hR
      clear hR
      have hP := HM.out.at_.ext hx; have y1 := hP.cell 0 _ rfl; have l1 := hP.lt; clear hP
      refine StepZ.go rfl ?_
      go_simp
      exact ⟨(by repeat (first | exact Ext.refl _ | assumption | refine Ext.alloc ?_ _ | refine Ext.drew ?_ | refine Ext.drewN ?_ _ | (refine Ext.setCell ?_ (by simp <;> omega) _) | refine Ext.trans ?_ (by assumption))), gives_k (by kernel_rfl)⟩
    · intro U W hx hR
      clear hR
      refine StepZ.go rfl ?_
      go_simp
      exact ⟨(by repeat (first | exact Ext.refl _ | assumption | refine Ext.alloc ?_ _ | refine Ext.drew ?_ | refine Ext.drewN ?_ _ | (refine Ext.setCell ?_ (by simp <;> omega) _) | refine Ext.trans ?_ (by assumption))), gives_k (by kernel_rfl)⟩
    · intro U W hx hR
      clear hR
      refine StepZ.go rfl ?_
      go_simp
      refine Calls.mono (CBA.out _) ?_; rintro e w4 ⟨rfl, rfl⟩; exact ⟨_, rfl, (by repeat (first | exact Ext.refl _ | assumption | refine Ext.alloc ?_ _ | refine Ext.drew ?_ | refine Ext.drewN ?_ _ | (refine Ext.setCell ?_ (by simp <;> omega) _) | refine Ext.trans ?_ (by assumption))), gives_e (by kernel_rfl) (fun _ => ⟨_, _, rfl, (Blk.new W _ _).alloc _, Blk.new1 W _ _ _⟩)⟩
    · intro U W hx hR
      have r4 := (hR 4 (by decide) (by kernel_rfl)) rfl; obtain ⟨bk, bf, e4_, hbk, hbf⟩ := r4
      clear hR
      simp only [putAll, vu, Act.put, List.setIfInBounds_toArray, List.set_cons_zero, List.set_cons_succ]
      (try simp only [e4_])
      have HM2 := Lib.hid (HM.out.next hx); have HQ2 := Lib.hid (HQ0.out.ext hx); have HM3 := Lib.hid (HM0.out.ext hx)
      have HKB : Hid (bk ≠ qb ∧ bk ≠ qm ∧ bf ≠ qb ∧ bf ≠ qm) := Lib.hid ⟨blk_neT hbk HQ2.out (by decide), blk_neT hbk HM3.out (by decide), blk_neT hbf HQ2.out (by decide), blk_neT hbf HM3.out (by decide)⟩
      have HBS : Hid (BgS w f A c (s.extract a s.size) bk bf W) := Lib.hid ⟨HM2.out.ext, HF.out, hbk, hbf⟩
      have HBE : Hid (bestL f.sorts bz a (begTo f.sorts (s.extract a s.size).data.toList f.sorts.length) = bestAt f.sorts s.data.toList bz a) := Lib.hid (congrArg (fun l => bestL f.sorts bz a (begTo f.sorts l f.sorts.length)) (by rw [ext_list, List.take_of_length_le (by simp)]))
      have hq0 := HM2.out.ext.size; have hq1 := hbk.lt; have hq2 := hbf.lt
      have HMB : Hid (∀ D, D ∈ Ds → D < W.heap.size) := Lib.hid fun D hD => (HM2.out.ms.2 D hD).2.1
      clear hx hbk hbf HM HQ0 HM0 has
      go_upto_block 2 with fail
      go_step
      obtain ⟨sx, hsx⟩ : ∃ sx, sx = s.extract a s.size := ⟨_, rfl⟩
      rw [← hsx] at HBS HBE
      clear hsx
      generalize W = wq at *
      refine (wpIn_wide (n := 3)).1 ?_
      refine wpIn_rangeFunc_ownG_of_H (gf := 143) (lb := #[.pointer (some ⟨bk, 0, none⟩), .pointer (some ⟨bf, 0, none⟩)]) rfl (by decide) rfl trivial (enters_of Tryz.func143 (by kernel_rfl) rfl)
        (begins1_stops f A c sx bk bf 2 w wq (by decide) hn HBS.out) (fun h k => KpX.trans h k) (fun W l o o' hl _ _ _ => KpX.of_put (w := wq) hq0 hq1 hq2 W l o' hl) (Below.refl _ _) (fun _ => rfl)
        (fun pre W => StW w PC BV ab (a : Int) v8 out Ds W ∧ (Blk W qb 3 #[.int .i64 (bestL f.sorts bz a pre).1] ∧ Blk W qm 3 #[.int .i64 (bestL f.sorts bz a pre).2] ∧ wq.heap.size ≤ W.heap.size)) (fun _ _ _ => False)
        (OwnFrom.and (StW.from _ HMB.out hq0) (OwnFrom.and (blk_ownF _ _ _ _) (OwnFrom.and (blk_ownF _ _ _ _) (size_own _ _)))) (fun _ _ _ _ _ h _ _ => h.elim) ⟨HM2.out, HQ2.out, HM3.out, Nat.le_refl _⟩ ?a1 ?assign ?body ?done ?stop (KpX.refl _ _ _)
      case assign =>
        intro l x2 W K hK
        gi_wp2
        exact hK
      case body =>
        rintro l pre ⟨t, ht⟩ wo ⟨hS2, hB2, hM2, hoq⟩ hlen
        have HXB := Lib.hid hS2.ext
        have HSO := Lib.hid hS2; have HBO := Lib.hid hB2; have HMO := Lib.hid hM2
        have HSN := Lib.hid (bestL_snoc f.sorts bz a pre ⟨t, ht⟩)
        have HBT : Hid (bestS f.sorts bz a (bestL f.sorts bz a pre) t = if (bestL f.sorts bz a pre).2 < (txN f.sorts t : Int) ∧ barIn bz (a : Int) (txN f.sorts t) = false then ((t : Int), (txN f.sorts t : Int)) else bestL f.sorts bz a pre) := Lib.hid rfl
        have htn : txN f.sorts t ≤ 4 := HT4.out t ht.1
        obtain ⟨y1, yf1, l1⟩ := hM2.c1
        have y2 := hS2.bb.cell 0 _ rfl; have l2 := hS2.bb.lt
        rw [HBV.out] at y2
        have y3 := hS2.at_.cell 0 _ rfl; have l3 := hS2.at_.lt
        have l0 := HQL.out
        simp only at HSN
        generalize bestL f.sorts bz a pre = c1 at *
        generalize txN f.sorts t = tn at *
        rw [HBT.out] at HSN
        obtain ⟨cb, cm⟩ := c1
        simp only at y1 HSN
        clear hS2 hB2 hM2 hlen HBT
        have CBX := Lib.hid fun W hz => CBR.out W (a : Int) (tn : Int) hz (by omega) (by omega)
        by_cases h1 : cm < (tn : Int)
        case neg =>
          -- BEGIN A
          rw [if_neg (fun h => h1 h.1)] at HSN
          gi_wp2_with (first | (gi_at_call 98; refine CallsIn.mono (CallsIn.inRound l (callsIn_wide.2 (CBX.out _ (HBZ.out.ext (HXB.out.trans (by repeat (first | exact Ext.refl _ | assumption | refine Ext.alloc ?_ _ | refine Ext.drew ?_ | refine Ext.drewN ?_ _ | (refine Ext.setCell ?_ (by simp <;> omega) _) | refine Ext.trans ?_ (by assumption)))))))) ?_; rintro e4 w4 ⟨rfl, hb⟩; have HX4 := Lib.hid (Ext.trans (a := wo) (by repeat (first | exact Ext.refl _ | assumption | refine Ext.alloc ?_ _ | refine Ext.drew ?_ | refine Ext.drewN ?_ _ | (refine Ext.setCell ?_ (by simp <;> omega) _) | refine Ext.trans ?_ (by assumption))) hb); clear hb) | gi_in)
          refine ⟨(Ext.refl _).keeps _, KpX.refl _ _ _ _, HSO.out, ?_, ?_, by omega⟩
          · rw [HSN.out]; exact HBO.out
          · rw [HSN.out]; exact HMO.out
          -- END A
        case pos =>
          cases h2 : barIn bz (a : Int) (tn : Int)
          case true =>
            -- BEGIN B
            rw [h2, if_neg (fun h => absurd h.2 (by decide))] at HSN
            rw [h2] at CBX
            gi_wp2_with (first | (gi_at_call 98; refine CallsIn.mono (CallsIn.inRound l (callsIn_wide.2 (CBX.out _ (HBZ.out.ext (HXB.out.trans (by repeat (first | exact Ext.refl _ | assumption | refine Ext.alloc ?_ _ | refine Ext.drew ?_ | refine Ext.drewN ?_ _ | (refine Ext.setCell ?_ (by simp <;> omega) _) | refine Ext.trans ?_ (by assumption)))))))) ?_; rintro e4 w4 ⟨rfl, hb⟩; have HX4 := Lib.hid (Ext.trans (a := wo) (by repeat (first | exact Ext.refl _ | assumption | refine Ext.alloc ?_ _ | refine Ext.drew ?_ | refine Ext.drewN ?_ _ | (refine Ext.setCell ?_ (by simp <;> omega) _) | refine Ext.trans ?_ (by assumption))) hb); clear hb) | gi_in)
            refine ⟨HX4.out.keeps _, HX4.out.kpx (by omega) (by omega), HSO.out.next HX4.out, ?_, ?_, by have := HX4.out.size; omega⟩
            · rw [HSN.out]; exact HBO.out.ext HX4.out
            · rw [HSN.out]; exact HMO.out.ext HX4.out
            -- END B
          case false =>
            -- BEGIN C
            rw [h2, if_pos ⟨h1, rfl⟩] at HSN
            rw [h2] at CBX
            have n1 : ¬ qm = qb := fun e => HAB.out.2.2 e.symm
            have n2 : ¬ qb = qm := HAB.out.2.2
            have HB4 : Hid (∀ W', Ext wo W' → Blk W' qb 3 #[.int .i64 cb] ∧ Blk W' qm 3 #[.int .i64 cm]) := Lib.hid fun W' hx => ⟨HBO.out.ext hx, HMO.out.ext hx⟩
            gi_wp2_with (first | (gi_at_call 98; refine CallsIn.mono (CallsIn.inRound l (callsIn_wide.2 (CBX.out _ (HBZ.out.ext (HXB.out.trans (by repeat (first | exact Ext.refl _ | assumption | refine Ext.alloc ?_ _ | refine Ext.drew ?_ | refine Ext.drewN ?_ _ | (refine Ext.setCell ?_ (by simp <;> omega) _) | refine Ext.trans ?_ (by assumption)))))))) ?_; rintro e4 w4 ⟨rfl, hb⟩; have HX4 := Lib.hid (Ext.trans (a := wo) (by repeat (first | exact Ext.refl _ | assumption | refine Ext.alloc ?_ _ | refine Ext.drew ?_ | refine Ext.drewN ?_ _ | (refine Ext.setCell ?_ (by simp <;> omega) _) | refine Ext.trans ?_ (by assumption))) hb); clear hb y1 yf1 l1 y2 l2 y3 l3; obtain ⟨y1, yf1, l1⟩ := (HB4.out w4 HX4.out).1.c1; obtain ⟨y2, yf2, l2⟩ := (HB4.out w4 HX4.out).2.c1) | gi_in)
            have hx4 := HX4.out
            have hw4 := HXB.out.size
            have hw5 := hx4.size
            have hnb := HNE.out
            have hab := HAB.out
            have hkb := HKB.out
            have hs4 := HSO.out.next hx4
            have hb4 := HBO.out.ext hx4
            have hm4 := HMO.out.ext hx4
            have hs5 := hs4.put (z := .int .i64 (t : Int)) hb4 (fun e => hab.1 e.symm) (fun k hk => (hnb k hk).2.1) (by omega)
            have hm5 := hm4.far (p := ⟨qb, 0, none⟩) (fun e => hab.2.2 e.symm) (.int .i64 (t : Int))
            refine ⟨(hx4.keeps _).trans (((KeepsOthers.setCell _ _ _).from _).trans ((KeepsOthers.setCell _ _ _).from _)), KpX.trans (hx4.kpx (by omega) (by omega)) (KpX.trans (KpX.of_setCell (q := ⟨qb, 0, none⟩) _ (by simp only; omega) (by simp only; omega) (by simp only; omega)) (KpX.of_setCell (q := ⟨qm, 0, none⟩) _ (by simp only; omega) (by simp only; omega) (by simp only; omega))), hs5.put (z := .int .i64 (tn : Int)) hm5 (fun e => hab.2.1 e.symm) (fun k hk => (hnb k hk).2.2) (by omega), ?_, ?_, by simp [World.setCell]; omega⟩
            · rw [HSN.out]; exact (hb4.set_ 0 _).far (p := ⟨qm, 0, none⟩) hab.2.2 _
            · rw [HSN.out]; exact hm5.set_ 0 _
            -- END C
      case done =>
        rintro D xs W hD rfl ⟨hS2, hB2, hM2, _⟩ hK
        rw [HBE.out] at hB2 hM2
        have HS3 := Lib.hid (hS2.cons hK (Nat.le_trans hq0 hD) fun E hE => Nat.lt_of_lt_of_le (HMB.out E hE) hD)
        obtain ⟨y1, yf1, l1⟩ := hB2.c1
        have HB3 := Lib.hid hB2; have HM4 := Lib.hid hM2
        have HBD := Lib.hid (bestAt_bd f.sorts s.data.toList bz a)
        have HSX := Lib.hid (setSt_next HST.out (by rw [HSL.out]; exact hlt))
        have HSZ := Lib.hid (fun h => setOf_none HST.out (by rw [HSL.out]; exact hlt) h)
        clear hS2 hB2 hM2 hK hD hq0 hq1 hq2 HBE HBS
        dsimp only
        generalize bestAt f.sorts s.data.toList bz a = be at *
        rcases HBD.out with hbe | ⟨⟨ti, hti⟩, hbe, htn1, htn2⟩
        · -- BEGIN N
          subst hbe
          have HR := Lib.hid (HSZ.out (by decide))
          simp only at y1
          clear HSX HSZ HBD
          go_wp2
          refine leaves_marks (n0 := w.heap.size) (D :: Ds) _ (HS3.out.ms.ext (by repeat (first | exact Ext.refl _ | assumption | refine Ext.alloc ?_ _ | refine Ext.drew ?_ | refine Ext.drewN ?_ _ | (refine Ext.setCell ?_ (by simp <;> omega) _) | refine Ext.trans ?_ (by assumption)))) fun w' hb' hc' => ⟨.tuple #[.slice none 0 0, .bool false], by simp [results, Tryz.results73], ?_⟩
          rw [HR.out]
          exact ⟨none, 0, rfl, SL.nil _ _, Below.trans HS3.out.ext hb'⟩
          -- END N
        · -- BEGIN P
          subst hbe
          simp only at y1 HSX HB3 HM4 htn1 htn2
          have hi1 : ¬ (ti : Int) < 0 := by omega
          rw [if_neg hi1, Int.toNat_natCast] at HSX
          have hti4 : txN f.sorts ti ≤ 4 := HT4.out ti hti.1
          clear HSZ HBD htn2 hti
          generalize txN f.sorts ti = tn at *
          have u1 : IntKind.i64.wrap ((a : Int) + (tn : Int)) = ((a + tn : Nat) : Int) := by rw [← Int.natCast_add]; exact IntWalk.i64_in _ (by omega)
          have HS12 : Hid (S12 w PC BV ab (a : Int) ((a + tn : Nat) : Int) v8 out (D :: Ds) qb qm (ti : Int) (tn : Int) false false W.drew) := Lib.hid (by
            have h := HS3.out.next (Ext.refl W).drew
            exact ⟨h.ext, h.pb, h.bb, h.at_, h.lo, fun _ => h.own, HNE.out, h.ms, HB3.out.ext (Ext.refl W).drew, HM4.out.ext (Ext.refl W).drew, ⟨HAB.out.1, HAB.out.2.1⟩⟩)
          clear HB3 HM4 HS3
          go_upto_region 12 with fail
          clear y1 yf1 l1
          refine wp_region_sp [3, 8] [some (v8), some (.int .i64 (ti : Int)), none, none, some (.int .i64 (a : Int)), some (.int .i64 (tn : Int)), some (.int .i64 ((a + tn : Nat) : Int)), none, some (undef)] (fun k v fl W => (k = 2 → (fun (v : Value) (fl : List Bool) (W : World) => fl.getD 0 false = false → LitI w ab (ti : Int) v W) v fl W) ∧ (k = 3 → (fun (v : Value) (fl : List Bool) (W : World) => AppI w ab (out ++ [(ti : Int)]) v W) v fl W) ∧ (k = 7 → (fun (v : Value) (fl : List Bool) (W : World) => AppI w ab (out ++ [(ti : Int)]) v W) v fl W)) (fun fl W => S12 w PC BV ab (a : Int) ((a + tn : Nat) : Int) v8 out (D :: Ds) qb qm (ti : Int) (tn : Int) (fl.getD 0 false) (fl.getD 1 false) W) (by kernel_rfl) (by kernel_rfl) rfl (by decide) (fun fl W W' h hx => h.next hx) (fun k v fl W W' h hx => ⟨fun e => fun h0 => ((h.1 e) h0).ext hx, fun e => ((h.2.1 e)).ext hx, fun e => ((h.2.2 e)).ext hx⟩) (HS12.out) ⟨?_, ?_, ?_, ?_, ?_, ?_, ?_, ?_, ?_, trivial⟩ ?_
          · intro U fl W hS hl hn hd hR
            obtain ⟨f0, f1, rfl⟩ := flen2 hl
            obtain rfl : f0 = false := hn 0 (by decide) (by kernel_rfl)
            clear hR hl hn hd
            have hT : S12 w PC BV ab (a : Int) ((a + tn : Nat) : Int) v8 out (D :: Ds) qb qm (ti : Int) (tn : Int) _ _ W := hS; clear hS
            refine StepZ.go rfl ?_
            go_simp
            exact ⟨Turn.ext rfl (by repeat (first | exact Ext.refl _ | assumption | refine Ext.alloc ?_ _ | refine Ext.drew ?_ | refine Ext.drewN ?_ _ | (refine Ext.setCell ?_ (by simp <;> omega) _) | refine Ext.trans ?_ (by assumption))), givesS_k (by kernel_rfl)⟩
          · intro U fl W hS hl hn hd hR
            obtain ⟨f0, f1, rfl⟩ := flen2 hl
            obtain rfl : f0 = false := hn 0 (by decide) (by kernel_rfl)
            clear hR hl hn hd
            have hT : S12 w PC BV ab (a : Int) ((a + tn : Nat) : Int) v8 out (D :: Ds) qb qm (ti : Int) (tn : Int) _ _ W := hS; clear hS
            have y1 := hT.b0.cell 0 _ rfl; have l1 := hT.b0.lt
            refine StepZ.go rfl ?_
            go_simp
            exact ⟨Turn.ext rfl (by repeat (first | exact Ext.refl _ | assumption | refine Ext.alloc ?_ _ | refine Ext.drew ?_ | refine Ext.drewN ?_ _ | (refine Ext.setCell ?_ (by simp <;> omega) _) | refine Ext.trans ?_ (by assumption))), givesS_k (by kernel_rfl)⟩
          · intro U fl W hS hl hn hd hR
            obtain ⟨f0, f1, rfl⟩ := flen2 hl
            obtain rfl : f0 = false := hn 0 (by decide) (by kernel_rfl)
            clear hR hl hn hd
            have hT : S12 w PC BV ab (a : Int) ((a + tn : Nat) : Int) v8 out (D :: Ds) qb qm (ti : Int) (tn : Int) _ _ W := hS; clear hS
            refine StepZ.go rfl ?_
            go_simp
            exact ⟨Turn.ext rfl (by repeat (first | exact Ext.refl _ | assumption | refine Ext.alloc ?_ _ | refine Ext.drew ?_ | refine Ext.drewN ?_ _ | (refine Ext.setCell ?_ (by simp <;> omega) _) | refine Ext.trans ?_ (by assumption))), givesS_e (by kernel_rfl) ⟨fun _ => fun _ => ⟨_, rfl, Blk.new W _ _, fun e => (by have h9 := hT.at_.lt; omega), hT.ext.size⟩, fun e => absurd e (by decide), fun e => absurd e (by decide)⟩⟩
          · intro U fl W hS hl hn hd hR
            obtain ⟨f0, f1, rfl⟩ := flen2 hl
            obtain rfl : f0 = false := hn 0 (by decide) (by kernel_rfl)
            have r2 := (hR 2 (by decide) (by kernel_rfl)).1 rfl; obtain ⟨g2, e2_, hb2, _, _⟩ := r2 rfl
            clear hR hl hn hd
            have hT : S12 w PC BV ab (a : Int) ((a + tn : Nat) : Int) v8 out (D :: Ds) qb qm (ti : Int) (tn : Int) _ _ W := hS; clear hS
            refine StepZ.pushI rfl (.tmp 39) (.tmp 41) rfl (w.heap.size + 2) v8 out ?_ (hT.own rfl) g2 (ti : Int) ?_ (hb2.cell 0 _ rfl) (by omega) (by have h8 := hT.lo; have h9 := hT.at_.lt; omega) fun v' w' ho hg hk => ⟨Turn.sp rfl (S12.app hT hg) (fun k9 v9 hk9 h9 => ⟨fun e => fun h0 => absurd (show true = false from h0) (by decide), fun e => by subst e; exact clo_no hk9 (by kernel_rfl), fun e => by subst e; exact clo_no hk9 (by kernel_rfl)⟩), givesS_e (by kernel_rfl) ⟨fun e => absurd e (by decide), fun _ => ⟨ho, fun k hk9 => (hk k hk9).elim (fun e => (hT.ne k e).1) (fun e => by have h9 := hT.at_.lt; omega)⟩, fun e => absurd e (by decide)⟩⟩ <;> (go_simp <;> exact e2_)
          · intro U fl W hS hl hn hd hR
            obtain ⟨f0, f1, rfl⟩ := flen2 hl
            obtain rfl : f1 = false := hn 1 (by decide) (by kernel_rfl)
            clear hR hl hn hd
            have hT : S12 w PC BV ab (a : Int) ((a + tn : Nat) : Int) v8 out (D :: Ds) qb qm (ti : Int) (tn : Int) _ _ W := hS; clear hS
            have y1 : W.cell? ⟨ab, 0, none⟩ = some (.int .i64 (a : Int)) := hT.at_.cell 0 _ rfl; have l1 := hT.at_.lt
            refine StepZ.go rfl ?_
            go_simp
            exact ⟨Turn.ext rfl (by repeat (first | exact Ext.refl _ | assumption | refine Ext.alloc ?_ _ | refine Ext.drew ?_ | refine Ext.drewN ?_ _ | (refine Ext.setCell ?_ (by simp <;> omega) _) | refine Ext.trans ?_ (by assumption))), givesS_k (by kernel_rfl)⟩
          · intro U fl W hS hl hn hd hR
            obtain ⟨f0, f1, rfl⟩ := flen2 hl
            obtain rfl : f1 = false := hn 1 (by decide) (by kernel_rfl)
            clear hR hl hn hd
            have hT : S12 w PC BV ab (a : Int) ((a + tn : Nat) : Int) v8 out (D :: Ds) qb qm (ti : Int) (tn : Int) _ _ W := hS; clear hS
            have y1 := hT.m0.cell 0 _ rfl; have l1 := hT.m0.lt
            refine StepZ.go rfl ?_
            go_simp
            exact ⟨Turn.ext rfl (by repeat (first | exact Ext.refl _ | assumption | refine Ext.alloc ?_ _ | refine Ext.drew ?_ | refine Ext.drewN ?_ _ | (refine Ext.setCell ?_ (by simp <;> omega) _) | refine Ext.trans ?_ (by assumption))), givesS_k (by kernel_rfl)⟩
          · intro U fl W hS hl hn hd hR
            obtain ⟨f0, f1, rfl⟩ := flen2 hl
            obtain rfl : f1 = false := hn 1 (by decide) (by kernel_rfl)
            clear hR hl hn hd
            have hT : S12 w PC BV ab (a : Int) ((a + tn : Nat) : Int) v8 out (D :: Ds) qb qm (ti : Int) (tn : Int) _ _ W := hS; clear hS
            refine StepZ.go rfl ?_
            go_simp
            exact ⟨Turn.ext rfl (by repeat (first | exact Ext.refl _ | assumption | refine Ext.alloc ?_ _ | refine Ext.drew ?_ | refine Ext.drewN ?_ _ | (refine Ext.setCell ?_ (by simp <;> omega) _) | refine Ext.trans ?_ (by assumption))), givesS_k (by kernel_rfl)⟩
          · intro U fl W hS hl hn hd hR
            obtain ⟨f0, f1, rfl⟩ := flen2 hl
            obtain rfl : f0 = true := hd 0 (by decide) (by kernel_rfl)
            have r3 := (hR 3 (by decide) (by kernel_rfl)).2.1 rfl; obtain ⟨o3, q3⟩ := r3
            clear hR hl hn hd
            have hT : S12 w PC BV ab (a : Int) ((a + tn : Nat) : Int) v8 out (D :: Ds) qb qm (ti : Int) (tn : Int) _ _ W := hS; clear hS
            refine StepZ.go rfl ?_
            go_simp
            exact ⟨Turn.ext rfl (by repeat (first | exact Ext.refl _ | assumption | refine Ext.alloc ?_ _ | refine Ext.drew ?_ | refine Ext.drewN ?_ _ | (refine Ext.setCell ?_ (by simp <;> omega) _) | refine Ext.trans ?_ (by assumption))), givesS_e (by kernel_rfl) ⟨fun e => absurd e (by decide), fun e => absurd e (by decide), fun _ => ⟨o3, q3⟩⟩⟩
          · intro U fl W hS hl hn hd hR
            obtain ⟨f0, f1, rfl⟩ := flen2 hl
            obtain rfl : f1 = false := hn 1 (by decide) (by kernel_rfl)
            clear hR hl hn hd
            have hT : S12 w PC BV ab (a : Int) ((a + tn : Nat) : Int) v8 out (D :: Ds) qb qm (ti : Int) (tn : Int) _ _ W := hS; clear hS
            have y1 := hT.at_.cell 0 _ rfl; have l1 := hT.at_.lt; have yf := hT.at_.frozen 0
            refine StepZ.go rfl ?_
            go_simp
            exact ⟨rfl, Turn.sp rfl hT.sto (fun k9 v9 hk9 h9 => ⟨fun e => fun h0 => LitI.sto ((h9.1 e) h0), fun e => AppI.sto ((h9.2.1 e)), fun e => AppI.sto ((h9.2.2 e))⟩), givesS_k (by kernel_rfl)⟩
          · intro U W hS hR
            have r3 := (hR 3 (by decide) (by kernel_rfl)).2.1 rfl; obtain ⟨o3, q3⟩ := r3
            have r7 := (hR 7 (by decide) (by kernel_rfl)).2.2 rfl; obtain ⟨o7, q7⟩ := r7
            clear hR
            have hT : S12 w PC BV ab (a : Int) ((a + tn : Nat) : Int) v8 out (D :: Ds) qb qm (ti : Int) (tn : Int) true true W := hS; clear hS
            simp only [putAll, vu, Act.put, List.setIfInBounds_toArray, List.set_cons_zero, List.set_cons_succ]
            have y1 : W.cell? ⟨ab, 0, none⟩ = some (.int .i64 ((a + tn : Nat) : Int)) := hT.at_.cell 0 _ rfl
            have l1 := hT.at_.lt
            have HTT := Lib.hid hT; have HA7 := Lib.hid o7
            clear o3 q3 o7 q7 hT
            generalize U 7 = v7 at *
            go_wp2
            have hx9 : Ext W (W.alloc (.cells #[.int .i64 ((a : Int) + (tn : Int))] 3)) := (by repeat (first | exact Ext.refl _ | assumption | refine Ext.alloc ?_ _ | refine Ext.drew ?_ | refine Ext.drewN ?_ _ | (refine Ext.setCell ?_ (by simp <;> omega) _) | refine Ext.trans ?_ (by assumption)))
            have ht := HTT.out
            refine ⟨D :: Ds, rfl, ⟨k + 1, a + tn, W.heap.size, out ++ [(ti : Int)], HSX, rfl, .inr (by omega), Lib.hid ⟨ht.ext.trans hx9, ht.pb.ext hx9, ht.bb.ext hx9, by rw [Int.natCast_add]; exact Blk.new W _ _, by have := ht.lo; have := ht.at_.lt; omega, HA7.out.ext hx9, fun k hk => by have := (World.ownsRow.lt HA7.out k hk).2; omega, ht.ms.ext hx9⟩⟩, ?_⟩
            rcases H46.out with h | h
            · rw [h, show leftOf s.size undef = s.size + 1 from rfl]; unfold leftOf; simp only; omega
            · rw [h]; unfold leftOf; simp only; omega
          -- END P
      case stop => exact fun _ _ _ _ _ _ h _ => h.elim
end Go.Proofs.YtccdnieoaejgdaaGreatDoor
