/-
  Walk: chapter 5: the check of labels.
-/
import Derived.Test.YtpkmapngdkkglaaGreatDoorPgGrd
namespace Go.Proofs.YtpkmapngdkkglaaGreatDoor
open Go.RowKit
attribute [local go_sem] Oper.semAt_some wide_fn wide_depth stateAt known List.map_cons List.map_nil Option.getD_some
attribute [local go_sem ↓] Go.wp_at_zero Go.wp_at_succ

theorem badL_pred (w : World) : PredI 79 #[] badL w := fun W z _ => by
  unfold badL
  by_cases h : 0 ≤ z ∧ z ≤ 1000000000000
  · rw [decide_eq_true h.1, decide_eq_true h.2]
    go_enter Tryz.func79, Tryz.ntmps79
    go_wp2_with (first | (go_at_call 77; refine Calls.mono (pWithin_yes _ _ _ _ ?_) ?_; (omega); rintro e w1 ⟨rfl, rfl⟩))
    go_ret
    exact ⟨rfl, rfl⟩
  · have e : (!(decide (0 ≤ z) && decide (z ≤ 1000000000000))) = true := by
      rw [Bool.not_eq_true', Bool.and_eq_false_iff, decide_eq_false_iff_not, decide_eq_false_iff_not]; omega
    rw [e]
    go_enter Tryz.func79, Tryz.ntmps79
    go_wp2_with (first | (go_at_call 77; refine Calls.mono (pWithin_no _ _ _ _ ?_) ?_; (omega); rintro e w1 ⟨rfl, rfl⟩))
    go_ret
    exact ⟨rfl, rfl⟩
/-- The last one of labels, or the error. -/
def clP (g : GT) (r : QT) (l : List Int) : Int × Int := if bookErr g r ≠ 0 then (0, bookErr g r) else clR (costR g r) g.items.length l
/-- The boxes of labels and of the results. -/
structure ClB (w : World) (lv x y : Value) (W : World) : Prop where
  ext : Ext w W
  bl : Blk W (w.heap.size + 1 + 1) 23 #[lv]
  r6 : Blk W (w.heap.size + 1 + 1 + 1) 3 #[x]
  r7 : Blk W (w.heap.size + 1 + 1 + 1 + 1) 31 #[y]
section
variable {w W W' : World} {lv x y : Value}
theorem ClB.next (h : ClB w lv x y W) (hx : Ext W W') : ClB w lv x y W' := ⟨h.ext.trans hx, h.bl.ext hx, h.r6.ext hx, h.r7.ext hx⟩
theorem ClB.at (h : ClB w lv x y W) : W.cell? ⟨w.heap.size + 1 + 1, 0, none⟩ = some lv ∧ W.cell? ⟨w.heap.size + 1 + 1 + 1, 0, none⟩ = some x ∧ W.cell? ⟨w.heap.size + 1 + 1 + 1 + 1, 0, none⟩ = some y ∧ W.frozen? ⟨w.heap.size + 1 + 1 + 1, 0, none⟩ = false ∧ W.frozen? ⟨w.heap.size + 1 + 1 + 1 + 1, 0, none⟩ = false ∧ w.heap.size + 1 + 1 < W.heap.size ∧ w.heap.size + 1 + 1 + 1 < W.heap.size ∧ w.heap.size + 1 + 1 + 1 + 1 < W.heap.size :=
  ⟨h.bl.cell 0 _ rfl, h.r6.cell 0 _ rfl, h.r7.cell 0 _ rfl, h.r6.frozen 0, h.r7.frozen 0, h.bl.lt, h.r6.lt, h.r7.lt⟩
theorem ClB.start (w : World) (cg cq : Array Value) (lv : Value) : ClB w lv (.int .i64 0) (.int .i64 0) (((((w.alloc (.cells cg 25)).alloc (.cells cq 27)).alloc (.cells #[lv] 23)).alloc (.cells #[.int .i64 0] 3)).alloc (.cells #[.int .i64 0] 31)) := by
  refine ⟨(by repeat first | exact xe0 _ | assumption | refine xea ?_ _ | refine xed ?_ | refine xes ?_ (by simp <;> omega) _ | refine xet ?_ (by assumption)), ((Blk.new2 w _ _ _ _).alloc _).alloc _, ?_, ?_⟩
  · have h := Blk.new2 (w.alloc (.cells cg 25)) (.cells cq 27) (.cells #[lv] 23) 3 #[.int .i64 0]
    rw [World.size_alloc] at h
    exact h.alloc _
  · have h := Blk.new2 ((w.alloc (.cells cg 25)).alloc (.cells cq 27)) (.cells #[lv] 23) (.cells #[.int .i64 0] 3) 31 #[.int .i64 0]
    rw [World.size_alloc, World.size_alloc] at h
    exact h
end
/-- What the loops of CheckLabels keep. -/
structure ClS (w : World) (cs : Array Value) (bk : Nat) (lv x y : Value) (Ds : List Nat) (W : World) : Prop where
  b : ClB w lv x y W
  bb : Blk W bk 96 cs
  ms : Marks w.heap.size Ds W
  lo : w.heap.size + 1 + 1 + 1 + 1 < bk
section
variable {w W W' : World} {cs : Array Value} {bk : Nat} {lv x y : Value} {Ds : List Nat}
theorem ClS.next (h : ClS w cs bk lv x y Ds W) (hx : Ext W W') : ClS w cs bk lv x y Ds W' := ⟨h.b.next hx, h.bb.ext hx, h.ms.ext hx, h.lo⟩
theorem Marks.put {n0 : Nat} (h : Marks n0 Ds W) {q : Nat} {t : TypeId} {c9 : Array Value} (hq : Blk W q t c9) (v : Value) : Marks n0 Ds (W.setCell ⟨q, 0, none⟩ v) := by
  refine ⟨h.1, fun D hD => ?_⟩
  obtain ⟨q1, q2, q3⟩ := h.2 D hD
  refine ⟨q1, by simpa using q2, (Below.heap_setCell W ⟨q, 0, none⟩ _ D (fun e => ?_)).trans q3⟩
  subst e
  unfold Blk at hq
  try simp only at q3
  rw [q3] at hq; cases hq
theorem ClS.put6 (h : ClS w cs bk lv x y Ds W) (v : Value) : ClS w cs bk lv v y Ds (W.setCell ⟨w.heap.size + 1 + 1 + 1, 0, none⟩ v) := by
  have := h.lo
  exact ⟨⟨h.b.ext.setCell (p := ⟨w.heap.size + 1 + 1 + 1, 0, none⟩) (by simp only; omega) _, h.b.bl.far (p := ⟨w.heap.size + 1 + 1 + 1, 0, none⟩) (by simp only; omega) _, h.b.r6.set_ 0 v, h.b.r7.far (p := ⟨w.heap.size + 1 + 1 + 1, 0, none⟩) (by simp only; omega) _⟩, h.bb.far (p := ⟨w.heap.size + 1 + 1 + 1, 0, none⟩) (by simp only; omega) _, h.ms.put h.b.r6 _, h.lo⟩
theorem ClS.put7 (h : ClS w cs bk lv x y Ds W) (v : Value) : ClS w cs bk lv x v Ds (W.setCell ⟨w.heap.size + 1 + 1 + 1 + 1, 0, none⟩ v) := by
  have := h.lo
  exact ⟨⟨h.b.ext.setCell (p := ⟨w.heap.size + 1 + 1 + 1 + 1, 0, none⟩) (by simp only; omega) _, h.b.bl.far (p := ⟨w.heap.size + 1 + 1 + 1 + 1, 0, none⟩) (by simp only; omega) _, h.b.r6.far (p := ⟨w.heap.size + 1 + 1 + 1 + 1, 0, none⟩) (by simp only; omega) _, h.b.r7.set_ 0 v⟩, h.bb.far (p := ⟨w.heap.size + 1 + 1 + 1 + 1, 0, none⟩) (by simp only; omega) _, h.ms.put h.b.r7 _, h.lo⟩
theorem ClS.from (B : Nat) {α : Type} (hB : ∀ D, D ∈ Ds → D < B) (hw : w.heap.size ≤ B) : OwnFrom B (fun (_ : α) W => ClS w cs bk lv x y Ds W) := fun s X Y row h hg hr => by
  have keep : ∀ {k : Nat} {t : TypeId} {cs : Array Value}, Blk X k t cs → Blk Y k t cs := fun {k t cs} hb =>
    (hg.block k hb.lt (fun e => by obtain ⟨_, o, ho, hc⟩ := hr k e.symm; unfold Blk at hb; rw [hb] at ho; cases ho; cases hc)).trans hb
  exact ⟨⟨h.b.ext.grown hg (fun k e => by have := (hr k e).1; omega), keep h.b.bl, keep h.b.r6, keep h.b.r7⟩, keep h.bb, Marks.own (α := α) w.heap.size B Ds hB s X Y row h.ms hg hr, h.lo⟩
theorem ClS.cons (h : ClS w cs bk lv x y Ds W) {D : Nat} (hD : W.heap[D]? = some (.deferred (some []))) (h0 : w.heap.size ≤ D) (hn : ∀ E, E ∈ Ds → E < D) : ClS w cs bk lv x y (D :: Ds) W := ⟨h.b, h.bb, h.ms.cons hD h0 hn, h.lo⟩
end
/-- The labels hold against the pages looked at. -/
def PreOk {cs : CS} {n a : Nat} (l : List Int) (pre : List (PgT cs n a)) : Prop := ∀ t ∈ pre, l.getD t.1 0 ≤ l.getD a 0 + (cs a t.1).1
/-- Each possible page of the first m places is among them. -/
theorem mem_tos {cs : CS} {n a : Nat} : ∀ m b, a < b → b ≤ a + m → b ≤ n → (cs a b).2 = 0 → ∃ t ∈ tosTo cs n a m, t.1 = b
  | 0, b, h1, h2, _, _ => by omega
  | m + 1, b, h1, h2, h3, h4 => by
    unfold tosTo
    by_cases e : b = a + m + 1
    · subst e
      rw [dif_pos ⟨h3, h4⟩]
      exact ⟨_, List.mem_append_right _ (.head _), rfl⟩
    · obtain ⟨t, ht, he⟩ := mem_tos m b h1 (by omega) h3 h4
      split
      · exact ⟨t, List.mem_append_left _ ht, he⟩
      · exact ⟨t, ht, he⟩
set_option maxRecDepth 100000 in
set_option maxHeartbeats 8000000 in
theorem checkLabels_any (g : GT) (p : GA) (r : QT) (A : Option Addr) (c : Nat) (l : List Int) (w : World) (hg : GR w p g) (hl : RI w A l.length l) :
    Calls Tryz.prog 43 #[g.val p, r.val, .slice A l.length c] w (Ret (pairGV (clP g r l)) w) := by
  have hbig := hl.big
  have cO := fun W h => open_any g p r W h
  have HV0 : Hid (clP g r l = if bookErr g r ≠ 0 then (0, bookErr g r) else clR (costR g r) g.items.length l) := Lib.hid rfl
  unfold pairGV
  generalize clP g r l = V at *
  have HG := Lib.hid hg
  by_cases hck : (chkG g).2 = 0
  case neg =>
    have hbe : bookErr g r = (chkG g).2 := by unfold bookErr; rw [if_pos hck]
    have HV : Hid (V = (0, (chkG g).2)) := Lib.hid (by rw [HV0.out, if_pos (by rw [hbe]; exact hck), hbe])
    have HOV : Hid (openV g p r = .tuple #[.agg #[.slice none 0 0, .slice none 0 0, .int .i64 0, .int .i64 0, .int .i64 0, .int .i64 0], .int .i64 (chkG g).2]) := Lib.hid (by unfold openV; rw [if_pos hck])
    rw [HOV.out] at cO
    have e0 : ((chkG g).2 != 0) = true := by simpa using hck
    generalize (chkG g).2 = z at *
    unfold GT.val QT.val at *
    have CO := Lib.hid cO; clear cO hck hbe hg HOV HV0
    go_enter Tryz.func43, Tryz.ntmps43
    go_wp2_with (first | (go_at_call 51; refine Calls.mono (CO.out _ ?_) ?_; (exact HG.out.ext (by repeat first | exact xe0 _ | assumption | refine xea ?_ _ | refine xed ?_ | refine xes ?_ (by simp <;> omega) _ | refine xet ?_ (by assumption))); rintro e w1 ⟨rfl, hb⟩; have HX1 := Lib.hid (Ext.trans (a := w) (by repeat first | exact xe0 _ | assumption | refine xea ?_ _ | refine xed ?_ | refine xes ?_ (by simp <;> omega) _ | refine xet ?_ (by assumption)) hb); have HB1 := Lib.hid ((ClB.start w #[.slice p.A g.items.length p.c, .slice p.B g.notes.length p.d] #[.int .i64 r.height, .int .i64 r.gap, .int .i64 r.widow, .int .i64 r.orphan] (.slice A l.length c)).next hb); obtain ⟨m0, m1, m2, f1, f2, ml0, ml1, ml⟩ := HB1.out.at; clear hb))
    refine bodyPost_ret (v := .tuple #[.int .i64 0, .int .i64 z]) (by simp [results, Tryz.results43, go_sem, ml1, ml, m1, m2]) rfl ?_
    exact Ret.mk' (by rw [HV.out]) (by have hX := HX1.out; exact (by repeat first | exact xe0 _ | assumption | refine xea ?_ _ | refine xed ?_ | refine xes ?_ (by simp <;> omega) _ | refine xet ?_ (by assumption)))
  case pos =>
  have hR := chkG_zero hck
  have HOV : Hid (openV g p r = .tuple #[bkVal g p r, .int .i64 (chkQ r)]) := Lib.hid (by unfold openV; rw [if_neg (by simpa using hck)])
  rw [HOV.out] at cO
  have hbe : bookErr g r = chkQ r := by unfold bookErr; rw [if_neg (by simpa using hck)]
  rw [hbe] at HV0
  clear hbe hck
  by_cases hq : chkQ r = 0
  case neg =>
    have HV : Hid (V = (0, chkQ r)) := Lib.hid (by rw [HV0.out, if_pos hq])
    have e0 : (chkQ r != 0) = true := by simpa using hq
    generalize chkQ r = z at *
    unfold bkVal at cO
    unfold GT.val QT.val at *
    have CO := Lib.hid cO; clear cO hq hg HOV HV0 hR
    go_enter Tryz.func43, Tryz.ntmps43
    go_wp2_with (first | (go_at_call 51; refine Calls.mono (CO.out _ ?_) ?_; (exact HG.out.ext (by repeat first | exact xe0 _ | assumption | refine xea ?_ _ | refine xed ?_ | refine xes ?_ (by simp <;> omega) _ | refine xet ?_ (by assumption))); rintro e w1 ⟨rfl, hb⟩; have HX1 := Lib.hid (Ext.trans (a := w) (by repeat first | exact xe0 _ | assumption | refine xea ?_ _ | refine xed ?_ | refine xes ?_ (by simp <;> omega) _ | refine xet ?_ (by assumption)) hb); have HB1 := Lib.hid ((ClB.start w #[.slice p.A g.items.length p.c, .slice p.B g.notes.length p.d] #[.int .i64 r.height, .int .i64 r.gap, .int .i64 r.widow, .int .i64 r.orphan] (.slice A l.length c)).next hb); obtain ⟨m0, m1, m2, f1, f2, ml0, ml1, ml⟩ := HB1.out.at; clear hb))
    refine bodyPost_ret (v := .tuple #[.int .i64 0, .int .i64 z]) (by simp [results, Tryz.results43, go_sem, ml1, ml, m1, m2]) rfl ?_
    exact Ret.mk' (by rw [HV.out]) (by have hX := HX1.out; exact (by repeat first | exact xe0 _ | assumption | refine xea ?_ _ | refine xed ?_ | refine xes ?_ (by simp <;> omega) _ | refine xet ?_ (by assumption)))
  case pos =>
  rw [hq] at cO
  have hn := hR.many
  have hs := cost_small hR hq
  have cE := fun W => bookEnd_any g p r W
  have HR1 := HV0.out
  rw [if_neg (by simpa using hq)] at HR1
  have HR : Hid (V = if l.length ≠ g.items.length + 1 then (0, 10) else if (idxOf badL l l.length).isSome = true then (0, 2) else if l.getD 0 0 ≠ 0 then (0, 22) else if labOk (costR g r) g.items.length l = false then (0, 22) else (l.getD g.items.length 0, 0)) := Lib.hid (HR1.trans rfl)
  have HLO := Lib.hid (labOk_iff (cs := costR g r) (n := g.items.length) (lab := l))
  generalize labOk (costR g r) g.items.length l = ok at *
  have HRG := Lib.hid hR; have HQ := Lib.hid hq; have HSM := Lib.hid hs; have HL := Lib.hid hl
  have CCF := Lib.hid (fun W h => containsFunc_any 79 #[] (fun _ _ => by kernel_rfl) badL A l.length c l W h (badL_pred W))
  unfold bkVal at cO cE
  unfold GT.val QT.val at *
  have CO := Lib.hid cO; have CE := Lib.hid cE; clear cO cE hq hg hR HR1 HV0 HOV hl hs
  by_cases hln : l.length = g.items.length + 1
  case neg =>
    have HV : Hid (V = (0, 10)) := Lib.hid (by rw [HR.out, if_pos hln])
    have i1 : ((l.length : Int) != (g.items.length : Int) + 1) = true := by rw [bne_iff_ne]; omega
    have hw1 : IntKind.i64.wrap ((g.items.length : Int) + 1) = (g.items.length : Int) + 1 := IntWalk.i64_in _ (by omega)
    clear HR HLO hln
    go_enter Tryz.func43, Tryz.ntmps43
    go_upto_region 4 with (first | (go_at_call 51; refine Calls.mono (CO.out _ ?_) ?_; (exact HG.out.ext (by repeat first | exact xe0 _ | assumption | refine xea ?_ _ | refine xed ?_ | refine xes ?_ (by simp <;> omega) _ | refine xet ?_ (by assumption))); rintro e w1 ⟨rfl, hb⟩; have HX1 := Lib.hid (Ext.trans (a := w) (by repeat first | exact xe0 _ | assumption | refine xea ?_ _ | refine xed ?_ | refine xes ?_ (by simp <;> omega) _ | refine xet ?_ (by assumption)) hb); have HB1 := Lib.hid ((ClB.start w #[.slice p.A g.items.length p.c, .slice p.B g.notes.length p.d] #[.int .i64 r.height, .int .i64 r.gap, .int .i64 r.widow, .int .i64 r.orphan] (.slice A l.length c)).next hb); obtain ⟨m0, m1, m2, f1, f2, ml0, ml1, ml⟩ := HB1.out.at; clear hb))
    have HBK := Lib.hid (Blk.new w1 96 #[.slice p.A g.items.length p.c, .slice p.B g.notes.length p.d, .int .i64 r.height, .int .i64 r.gap, .int .i64 r.widow, .int .i64 r.orphan])
    have HB2 := Lib.hid (HB1.out.next (Ext.alloc (Ext.refl w1) (.cells #[.slice p.A g.items.length p.c, .slice p.B g.notes.length p.d, .int .i64 r.height, .int .i64 r.gap, .int .i64 r.widow, .int .i64 r.orphan] 96)))
    clear m0 m1 m2 f1 f2 ml0 ml1 ml
    refine wp_region_steady (Ext _) [?_, ?_, ?_, ?_, ?_, ?_, ?_] (by kernel_rfl) (by kernel_rfl) rfl (Ext.refl _).drew ?_ ?_
    rotate_left 7
    · refine StepsT.cons (fun W hW => ?_) ?_
      · obtain ⟨m0, m1, m2, f1, f2, ml0, ml1, ml⟩ := (HB2.out.next hW).at; obtain ⟨k0, k1, k2, k3, k4, k5, _, kl⟩ := (HBK.out.ext hW).c6; first | (refine StepT.off rfl hW ?_; rfl) | (refine StepT.go rfl ?_; go_simp; first | (refine ⟨?_, hW⟩; rfl) | (refine Calls.mono (CE.out _) ?_; rintro e w4 ⟨rfl, hb⟩; refine ⟨?_, hW.trans hb⟩; rfl))
      simp only [Act.put, List.setIfInBounds_toArray, List.set_cons_zero, List.set_cons_succ]
      refine StepsT.cons (fun W hW => ?_) ?_
      · obtain ⟨m0, m1, m2, f1, f2, ml0, ml1, ml⟩ := (HB2.out.next hW).at; obtain ⟨k0, k1, k2, k3, k4, k5, _, kl⟩ := (HBK.out.ext hW).c6; first | (refine StepT.off rfl hW ?_; rfl) | (refine StepT.go rfl ?_; go_simp; first | (refine ⟨?_, hW⟩; rfl) | (refine Calls.mono (CE.out _) ?_; rintro e w4 ⟨rfl, hb⟩; refine ⟨?_, hW.trans hb⟩; rfl))
      simp only [Act.put, List.setIfInBounds_toArray, List.set_cons_zero, List.set_cons_succ]
      refine StepsT.cons (fun W hW => ?_) ?_
      · obtain ⟨m0, m1, m2, f1, f2, ml0, ml1, ml⟩ := (HB2.out.next hW).at; obtain ⟨k0, k1, k2, k3, k4, k5, _, kl⟩ := (HBK.out.ext hW).c6; first | (refine StepT.off rfl hW ?_; rfl) | (refine StepT.go rfl ?_; go_simp; first | (refine ⟨?_, hW⟩; rfl) | (refine Calls.mono (CE.out _) ?_; rintro e w4 ⟨rfl, hb⟩; refine ⟨?_, hW.trans hb⟩; rfl))
      simp only [Act.put, List.setIfInBounds_toArray, List.set_cons_zero, List.set_cons_succ]
      refine StepsT.cons (fun W hW => ?_) ?_
      · obtain ⟨m0, m1, m2, f1, f2, ml0, ml1, ml⟩ := (HB2.out.next hW).at; obtain ⟨k0, k1, k2, k3, k4, k5, _, kl⟩ := (HBK.out.ext hW).c6; first | (refine StepT.off rfl hW ?_; rfl) | (refine StepT.go rfl ?_; go_simp; first | (refine ⟨?_, hW⟩; rfl) | (refine Calls.mono (CE.out _) ?_; rintro e w4 ⟨rfl, hb⟩; refine ⟨?_, hW.trans hb⟩; rfl))
      simp only [Act.put, List.setIfInBounds_toArray, List.set_cons_zero, List.set_cons_succ]
      refine StepsT.cons (fun W hW => ?_) ?_
      · obtain ⟨m0, m1, m2, f1, f2, ml0, ml1, ml⟩ := (HB2.out.next hW).at; obtain ⟨k0, k1, k2, k3, k4, k5, _, kl⟩ := (HBK.out.ext hW).c6; first | (refine StepT.off rfl hW ?_; rfl) | (refine StepT.go rfl ?_; go_simp; first | (refine ⟨?_, hW⟩; rfl) | (refine Calls.mono (CE.out _) ?_; rintro e w4 ⟨rfl, hb⟩; refine ⟨?_, hW.trans hb⟩; rfl))
      simp only [Act.put, List.setIfInBounds_toArray, List.set_cons_zero, List.set_cons_succ]
      refine StepsT.cons (fun W hW => ?_) ?_
      · obtain ⟨m0, m1, m2, f1, f2, ml0, ml1, ml⟩ := (HB2.out.next hW).at; obtain ⟨k0, k1, k2, k3, k4, k5, _, kl⟩ := (HBK.out.ext hW).c6; first | (refine StepT.off rfl hW ?_; rfl) | (refine StepT.go rfl ?_; go_simp; first | (refine ⟨?_, hW⟩; rfl) | (refine Calls.mono (CE.out _) ?_; rintro e w4 ⟨rfl, hb⟩; refine ⟨?_, hW.trans hb⟩; rfl))
      simp only [Act.put, List.setIfInBounds_toArray, List.set_cons_zero, List.set_cons_succ]
      refine StepsT.cons (fun W hW => ?_) ?_
      · obtain ⟨m0, m1, m2, f1, f2, ml0, ml1, ml⟩ := (HB2.out.next hW).at; obtain ⟨k0, k1, k2, k3, k4, k5, _, kl⟩ := (HBK.out.ext hW).c6; first | (refine StepT.off rfl hW ?_; rfl) | (refine StepT.go rfl ?_; go_simp; first | (refine ⟨?_, hW⟩; rfl) | (refine Calls.mono (CE.out _) ?_; rintro e w4 ⟨rfl, hb⟩; refine ⟨?_, hW.trans hb⟩; rfl))
      simp only [Act.put, List.setIfInBounds_toArray, List.set_cons_zero, List.set_cons_succ]
      trivial
    intro W hW
    simp only [putAll, Act.put, List.setIfInBounds_toArray, List.set_cons_zero, List.set_cons_succ]
    have HB3 := Lib.hid (HB2.out.next hW)
    have HBK3 := Lib.hid (HBK.out.ext hW)
    obtain ⟨m0, m1, m2, f1, f2, ml0, ml1, ml⟩ := HB3.out.at
    go_wp2
    refine bodyPost_ret (v := .tuple #[.int .i64 0, .int .i64 10]) (by simp [results, Tryz.results43, go_sem, m1, m2]) rfl ?_
    exact Ret.mk' (by rw [HV.out]) (by have hX := HB3.out.ext; exact (by repeat first | exact xe0 _ | assumption | refine xea ?_ _ | refine xed ?_ | refine xes ?_ (by simp <;> omega) _ | refine xet ?_ (by assumption)))
  case pos =>
  have HV := HR.out
  rw [if_neg (by omega), hln] at HV
  have HR2 := Lib.hid HV; clear HR HV
  have HL' := HL.out
  rw [hln] at HL' ⊢
  rw [hln] at CCF
  clear HL hbig hln
  have HL := Lib.hid HL'; clear HL'
  have HBI : Hid ((idxOf badL l (g.items.length + 1)).isSome = true ↔ ∃ k, k < g.items.length + 1 ∧ badL (l.getD k 0) = true) := Lib.hid (idxOf_isSome _ _ _)
  have HBL : Hid (∀ z, badL z = true ↔ ¬ (0 ≤ z ∧ z ≤ 1000000000000)) := Lib.hid fun z => by
    unfold badL; rw [Bool.not_eq_true', ← Bool.not_eq_true, Bool.and_eq_true, decide_eq_true_eq, decide_eq_true_eq]
  have hw1 : IntKind.i64.wrap ((g.items.length : Int) + 1) = (g.items.length : Int) + 1 := IntWalk.i64_in _ (by omega)
  cases hbad : (idxOf badL l (g.items.length + 1)).isSome with
  | true =>
    have HV : Hid (V = (0, 2)) := Lib.hid (by rw [HR2.out, if_pos hbad])
    rw [hbad] at CCF
    clear hbad HR2 HLO HBI HBL
    go_enter Tryz.func43, Tryz.ntmps43
    go_upto_region 4 with (first | (go_at_call 51; refine Calls.mono (CO.out _ ?_) ?_; (exact HG.out.ext (by repeat first | exact xe0 _ | assumption | refine xea ?_ _ | refine xed ?_ | refine xes ?_ (by simp <;> omega) _ | refine xet ?_ (by assumption))); rintro e w1 ⟨rfl, hb⟩; have HX1 := Lib.hid (Ext.trans (a := w) (by repeat first | exact xe0 _ | assumption | refine xea ?_ _ | refine xed ?_ | refine xes ?_ (by simp <;> omega) _ | refine xet ?_ (by assumption)) hb); have HB1 := Lib.hid ((ClB.start w #[.slice p.A g.items.length p.c, .slice p.B g.notes.length p.d] #[.int .i64 r.height, .int .i64 r.gap, .int .i64 r.widow, .int .i64 r.orphan] (.slice A (g.items.length + 1) c)).next hb); obtain ⟨m0, m1, m2, f1, f2, ml0, ml1, ml⟩ := HB1.out.at; clear hb))
    have HBK := Lib.hid (Blk.new w1 96 #[.slice p.A g.items.length p.c, .slice p.B g.notes.length p.d, .int .i64 r.height, .int .i64 r.gap, .int .i64 r.widow, .int .i64 r.orphan])
    have HB2 := Lib.hid (HB1.out.next (Ext.alloc (Ext.refl w1) (.cells #[.slice p.A g.items.length p.c, .slice p.B g.notes.length p.d, .int .i64 r.height, .int .i64 r.gap, .int .i64 r.widow, .int .i64 r.orphan] 96)))
    clear m0 m1 m2 f1 f2 ml0 ml1 ml
    refine wp_region_steady (Ext _) [?_, ?_, ?_, ?_, ?_, ?_, ?_] (by kernel_rfl) (by kernel_rfl) rfl (Ext.refl _).drew ?_ ?_
    rotate_left 7
    · refine StepsT.cons (fun W hW => ?_) ?_
      · obtain ⟨m0, m1, m2, f1, f2, ml0, ml1, ml⟩ := (HB2.out.next hW).at; obtain ⟨k0, k1, k2, k3, k4, k5, _, kl⟩ := (HBK.out.ext hW).c6; first | (refine StepT.off rfl hW ?_; rfl) | (refine StepT.go rfl ?_; go_simp; first | (refine ⟨?_, hW⟩; rfl) | (refine Calls.mono (CE.out _) ?_; rintro e w4 ⟨rfl, hb⟩; refine ⟨?_, hW.trans hb⟩; rfl))
      simp only [Act.put, List.setIfInBounds_toArray, List.set_cons_zero, List.set_cons_succ]
      refine StepsT.cons (fun W hW => ?_) ?_
      · obtain ⟨m0, m1, m2, f1, f2, ml0, ml1, ml⟩ := (HB2.out.next hW).at; obtain ⟨k0, k1, k2, k3, k4, k5, _, kl⟩ := (HBK.out.ext hW).c6; first | (refine StepT.off rfl hW ?_; rfl) | (refine StepT.go rfl ?_; go_simp; first | (refine ⟨?_, hW⟩; rfl) | (refine Calls.mono (CE.out _) ?_; rintro e w4 ⟨rfl, hb⟩; refine ⟨?_, hW.trans hb⟩; rfl))
      simp only [Act.put, List.setIfInBounds_toArray, List.set_cons_zero, List.set_cons_succ]
      refine StepsT.cons (fun W hW => ?_) ?_
      · obtain ⟨m0, m1, m2, f1, f2, ml0, ml1, ml⟩ := (HB2.out.next hW).at; obtain ⟨k0, k1, k2, k3, k4, k5, _, kl⟩ := (HBK.out.ext hW).c6; first | (refine StepT.off rfl hW ?_; rfl) | (refine StepT.go rfl ?_; go_simp; first | (refine ⟨?_, hW⟩; rfl) | (refine Calls.mono (CE.out _) ?_; rintro e w4 ⟨rfl, hb⟩; refine ⟨?_, hW.trans hb⟩; rfl))
      simp only [Act.put, List.setIfInBounds_toArray, List.set_cons_zero, List.set_cons_succ]
      refine StepsT.cons (fun W hW => ?_) ?_
      · obtain ⟨m0, m1, m2, f1, f2, ml0, ml1, ml⟩ := (HB2.out.next hW).at; obtain ⟨k0, k1, k2, k3, k4, k5, _, kl⟩ := (HBK.out.ext hW).c6; first | (refine StepT.off rfl hW ?_; rfl) | (refine StepT.go rfl ?_; go_simp; first | (refine ⟨?_, hW⟩; rfl) | (refine Calls.mono (CE.out _) ?_; rintro e w4 ⟨rfl, hb⟩; refine ⟨?_, hW.trans hb⟩; rfl))
      simp only [Act.put, List.setIfInBounds_toArray, List.set_cons_zero, List.set_cons_succ]
      refine StepsT.cons (fun W hW => ?_) ?_
      · obtain ⟨m0, m1, m2, f1, f2, ml0, ml1, ml⟩ := (HB2.out.next hW).at; obtain ⟨k0, k1, k2, k3, k4, k5, _, kl⟩ := (HBK.out.ext hW).c6; first | (refine StepT.off rfl hW ?_; rfl) | (refine StepT.go rfl ?_; go_simp; first | (refine ⟨?_, hW⟩; rfl) | (refine Calls.mono (CE.out _) ?_; rintro e w4 ⟨rfl, hb⟩; refine ⟨?_, hW.trans hb⟩; rfl))
      simp only [Act.put, List.setIfInBounds_toArray, List.set_cons_zero, List.set_cons_succ]
      refine StepsT.cons (fun W hW => ?_) ?_
      · obtain ⟨m0, m1, m2, f1, f2, ml0, ml1, ml⟩ := (HB2.out.next hW).at; obtain ⟨k0, k1, k2, k3, k4, k5, _, kl⟩ := (HBK.out.ext hW).c6; first | (refine StepT.off rfl hW ?_; rfl) | (refine StepT.go rfl ?_; go_simp; first | (refine ⟨?_, hW⟩; rfl) | (refine Calls.mono (CE.out _) ?_; rintro e w4 ⟨rfl, hb⟩; refine ⟨?_, hW.trans hb⟩; rfl))
      simp only [Act.put, List.setIfInBounds_toArray, List.set_cons_zero, List.set_cons_succ]
      refine StepsT.cons (fun W hW => ?_) ?_
      · obtain ⟨m0, m1, m2, f1, f2, ml0, ml1, ml⟩ := (HB2.out.next hW).at; obtain ⟨k0, k1, k2, k3, k4, k5, _, kl⟩ := (HBK.out.ext hW).c6; first | (refine StepT.off rfl hW ?_; rfl) | (refine StepT.go rfl ?_; go_simp; first | (refine ⟨?_, hW⟩; rfl) | (refine Calls.mono (CE.out _) ?_; rintro e w4 ⟨rfl, hb⟩; refine ⟨?_, hW.trans hb⟩; rfl))
      simp only [Act.put, List.setIfInBounds_toArray, List.set_cons_zero, List.set_cons_succ]
      trivial
    intro W hW
    simp only [putAll, Act.put, List.setIfInBounds_toArray, List.set_cons_zero, List.set_cons_succ]
    have HB3 := Lib.hid (HB2.out.next hW)
    have HBK3 := Lib.hid (HBK.out.ext hW)
    obtain ⟨m0, m1, m2, f1, f2, ml0, ml1, ml⟩ := HB3.out.at
    go_wp2_with (first | (go_at_call 78; refine Calls.mono (CCF.out _ ?_) ?_; (exact HL.out.ext (HB3.out.ext.trans (by repeat first | exact xe0 _ | assumption | refine xea ?_ _ | refine xed ?_ | refine xes ?_ (by simp <;> omega) _ | refine xet ?_ (by assumption)))); rintro e w5 ⟨rfl, rfl⟩))
    refine bodyPost_ret (v := .tuple #[.int .i64 0, .int .i64 2]) (by simp [results, Tryz.results43, go_sem, m1, m2]) rfl ?_
    exact Ret.mk' (by rw [HV.out]) (by have hX := HB3.out.ext; exact (by repeat first | exact xe0 _ | assumption | refine xea ?_ _ | refine xed ?_ | refine xes ?_ (by simp <;> omega) _ | refine xet ?_ (by assumption)))
  | false =>
  have HIN : Hid (∀ k, k < g.items.length + 1 → 0 ≤ l.getD k 0 ∧ l.getD k 0 ≤ 1000000000000) := Lib.hid fun k hk => by
    by_cases h9 : 0 ≤ l.getD k 0 ∧ l.getD k 0 ≤ 1000000000000
    · exact h9
    · have := HBI.out.2 ⟨k, hk, (HBL.out _).2 h9⟩
      rw [hbad] at this; cases this
  have HV := HR2.out
  rw [hbad, if_neg (by decide)] at HV
  have HR3 := Lib.hid HV; clear HR2 HV
  rw [hbad] at CCF
  clear hbad HBI HBL
  have hk0 : (0 : Int) < (g.items.length : Int) + 1 := by omega
  obtain ⟨bb, bo, rfl, hbb, hbc⟩ := HL.out.2.2 (by omega)
  have hbc0 := hbc 0 (by omega)
  rw [Nat.add_zero] at hbc0
  by_cases h0 : l.getD 0 0 = 0
  case neg =>
    have HV : Hid (V = (0, 22)) := Lib.hid (by rw [HR3.out, if_pos h0])
    have i1 : (l.getD 0 0 != 0) = true := by simpa using h0
    generalize l.getD 0 0 = z at *
    have HC0 := Lib.hid hbc0; have HBB := Lib.hid hbb
    clear h0 HR3 HLO HIN hbc hbc0 hbb
    go_enter Tryz.func43, Tryz.ntmps43
    go_upto_region 4 with (first | (go_at_call 51; refine Calls.mono (CO.out _ ?_) ?_; (exact HG.out.ext (by repeat first | exact xe0 _ | assumption | refine xea ?_ _ | refine xed ?_ | refine xes ?_ (by simp <;> omega) _ | refine xet ?_ (by assumption))); rintro e w1 ⟨rfl, hb⟩; have HX1 := Lib.hid (Ext.trans (a := w) (by repeat first | exact xe0 _ | assumption | refine xea ?_ _ | refine xed ?_ | refine xes ?_ (by simp <;> omega) _ | refine xet ?_ (by assumption)) hb); have HB1 := Lib.hid ((ClB.start w #[.slice p.A g.items.length p.c, .slice p.B g.notes.length p.d] #[.int .i64 r.height, .int .i64 r.gap, .int .i64 r.widow, .int .i64 r.orphan] (.slice (some ⟨bb, bo, none⟩) (g.items.length + 1) c)).next hb); obtain ⟨m0, m1, m2, f1, f2, ml0, ml1, ml⟩ := HB1.out.at; clear hb))
    have HBK := Lib.hid (Blk.new w1 96 #[.slice p.A g.items.length p.c, .slice p.B g.notes.length p.d, .int .i64 r.height, .int .i64 r.gap, .int .i64 r.widow, .int .i64 r.orphan])
    have HB2 := Lib.hid (HB1.out.next (Ext.alloc (Ext.refl w1) (.cells #[.slice p.A g.items.length p.c, .slice p.B g.notes.length p.d, .int .i64 r.height, .int .i64 r.gap, .int .i64 r.widow, .int .i64 r.orphan] 96)))
    clear m0 m1 m2 f1 f2 ml0 ml1 ml
    refine wp_region_steady (Ext _) [?_, ?_, ?_, ?_, ?_, ?_, ?_] (by kernel_rfl) (by kernel_rfl) rfl (Ext.refl _).drew ?_ ?_
    rotate_left 7
    · refine StepsT.cons (fun W hW => ?_) ?_
      · obtain ⟨m0, m1, m2, f1, f2, ml0, ml1, ml⟩ := (HB2.out.next hW).at; obtain ⟨k0, k1, k2, k3, k4, k5, _, kl⟩ := (HBK.out.ext hW).c6; first | (refine StepT.off rfl hW ?_; rfl) | (refine StepT.go rfl ?_; go_simp; first | (refine ⟨?_, hW⟩; rfl) | (refine Calls.mono (CE.out _) ?_; rintro e w4 ⟨rfl, hb⟩; refine ⟨?_, hW.trans hb⟩; rfl))
      simp only [Act.put, List.setIfInBounds_toArray, List.set_cons_zero, List.set_cons_succ]
      refine StepsT.cons (fun W hW => ?_) ?_
      · obtain ⟨m0, m1, m2, f1, f2, ml0, ml1, ml⟩ := (HB2.out.next hW).at; obtain ⟨k0, k1, k2, k3, k4, k5, _, kl⟩ := (HBK.out.ext hW).c6; first | (refine StepT.off rfl hW ?_; rfl) | (refine StepT.go rfl ?_; go_simp; first | (refine ⟨?_, hW⟩; rfl) | (refine Calls.mono (CE.out _) ?_; rintro e w4 ⟨rfl, hb⟩; refine ⟨?_, hW.trans hb⟩; rfl))
      simp only [Act.put, List.setIfInBounds_toArray, List.set_cons_zero, List.set_cons_succ]
      refine StepsT.cons (fun W hW => ?_) ?_
      · obtain ⟨m0, m1, m2, f1, f2, ml0, ml1, ml⟩ := (HB2.out.next hW).at; obtain ⟨k0, k1, k2, k3, k4, k5, _, kl⟩ := (HBK.out.ext hW).c6; first | (refine StepT.off rfl hW ?_; rfl) | (refine StepT.go rfl ?_; go_simp; first | (refine ⟨?_, hW⟩; rfl) | (refine Calls.mono (CE.out _) ?_; rintro e w4 ⟨rfl, hb⟩; refine ⟨?_, hW.trans hb⟩; rfl))
      simp only [Act.put, List.setIfInBounds_toArray, List.set_cons_zero, List.set_cons_succ]
      refine StepsT.cons (fun W hW => ?_) ?_
      · obtain ⟨m0, m1, m2, f1, f2, ml0, ml1, ml⟩ := (HB2.out.next hW).at; obtain ⟨k0, k1, k2, k3, k4, k5, _, kl⟩ := (HBK.out.ext hW).c6; first | (refine StepT.off rfl hW ?_; rfl) | (refine StepT.go rfl ?_; go_simp; first | (refine ⟨?_, hW⟩; rfl) | (refine Calls.mono (CE.out _) ?_; rintro e w4 ⟨rfl, hb⟩; refine ⟨?_, hW.trans hb⟩; rfl))
      simp only [Act.put, List.setIfInBounds_toArray, List.set_cons_zero, List.set_cons_succ]
      refine StepsT.cons (fun W hW => ?_) ?_
      · obtain ⟨m0, m1, m2, f1, f2, ml0, ml1, ml⟩ := (HB2.out.next hW).at; obtain ⟨k0, k1, k2, k3, k4, k5, _, kl⟩ := (HBK.out.ext hW).c6; first | (refine StepT.off rfl hW ?_; rfl) | (refine StepT.go rfl ?_; go_simp; first | (refine ⟨?_, hW⟩; rfl) | (refine Calls.mono (CE.out _) ?_; rintro e w4 ⟨rfl, hb⟩; refine ⟨?_, hW.trans hb⟩; rfl))
      simp only [Act.put, List.setIfInBounds_toArray, List.set_cons_zero, List.set_cons_succ]
      refine StepsT.cons (fun W hW => ?_) ?_
      · obtain ⟨m0, m1, m2, f1, f2, ml0, ml1, ml⟩ := (HB2.out.next hW).at; obtain ⟨k0, k1, k2, k3, k4, k5, _, kl⟩ := (HBK.out.ext hW).c6; first | (refine StepT.off rfl hW ?_; rfl) | (refine StepT.go rfl ?_; go_simp; first | (refine ⟨?_, hW⟩; rfl) | (refine Calls.mono (CE.out _) ?_; rintro e w4 ⟨rfl, hb⟩; refine ⟨?_, hW.trans hb⟩; rfl))
      simp only [Act.put, List.setIfInBounds_toArray, List.set_cons_zero, List.set_cons_succ]
      refine StepsT.cons (fun W hW => ?_) ?_
      · obtain ⟨m0, m1, m2, f1, f2, ml0, ml1, ml⟩ := (HB2.out.next hW).at; obtain ⟨k0, k1, k2, k3, k4, k5, _, kl⟩ := (HBK.out.ext hW).c6; first | (refine StepT.off rfl hW ?_; rfl) | (refine StepT.go rfl ?_; go_simp; first | (refine ⟨?_, hW⟩; rfl) | (refine Calls.mono (CE.out _) ?_; rintro e w4 ⟨rfl, hb⟩; refine ⟨?_, hW.trans hb⟩; rfl))
      simp only [Act.put, List.setIfInBounds_toArray, List.set_cons_zero, List.set_cons_succ]
      trivial
    intro W hW
    simp only [putAll, Act.put, List.setIfInBounds_toArray, List.set_cons_zero, List.set_cons_succ]
    have HB3 := Lib.hid (HB2.out.next hW)
    have HBK3 := Lib.hid (HBK.out.ext hW)
    obtain ⟨m0, m1, m2, f1, f2, ml0, ml1, ml⟩ := HB3.out.at
    have hc0 := (HB3.out.ext.cell (p := ⟨bb, bo, none⟩) HBB.out).trans HC0.out
    go_wp2_with (first | (go_at_call 78; refine Calls.mono (CCF.out _ ?_) ?_; (exact HL.out.ext (HB3.out.ext.trans (by repeat first | exact xe0 _ | assumption | refine xea ?_ _ | refine xed ?_ | refine xes ?_ (by simp <;> omega) _ | refine xet ?_ (by assumption)))); rintro e w5 ⟨rfl, rfl⟩))
    refine bodyPost_ret (v := .tuple #[.int .i64 0, .int .i64 22]) (by simp [results, Tryz.results43, go_sem, m1, m2]) rfl ?_
    exact Ret.mk' (by rw [HV.out]) (by have hX := HB3.out.ext; exact (by repeat first | exact xe0 _ | assumption | refine xea ?_ _ | refine xed ?_ | refine xes ?_ (by simp <;> omega) _ | refine xet ?_ (by assumption)))
  case pos =>
  rw [h0] at hbc0
  have HV := HR3.out
  rw [if_neg (by simpa using h0)] at HV
  have HR4 := Lib.hid HV; clear HR3 HV h0
  have HC0 := Lib.hid hbc0; have HBB := Lib.hid hbb; have HBC := Lib.hid hbc
  clear hbc hbc0 hbb
  refine (callsIn_wide (n := 3)).1 ?_
  refine callsIn_of_wp_marks Tryz.func43 rfl trivial ?_ rfl
  simp only [Tryz.ntmps43, List.size_toArray, List.length_cons, List.length_nil, Nat.reduceAdd, Nat.reduceSub, Array.replicate_succ, Array.replicate_zero, List.push_toArray, List.append_toArray, List.nil_append, List.cons_append]
  refine wpIn_wide.2 ?_
  go_upto_region 4 with (first | (go_at_call 51; refine Calls.mono (CO.out _ ?_) ?_; (exact HG.out.ext (by repeat first | exact xe0 _ | assumption | refine xea ?_ _ | refine xed ?_ | refine xes ?_ (by simp <;> omega) _ | refine xet ?_ (by assumption))); rintro e w1 ⟨rfl, hb⟩; have HX1 := Lib.hid (Ext.trans (a := w) (by repeat first | exact xe0 _ | assumption | refine xea ?_ _ | refine xed ?_ | refine xes ?_ (by simp <;> omega) _ | refine xet ?_ (by assumption)) hb); have HB1 := Lib.hid ((ClB.start w #[.slice p.A g.items.length p.c, .slice p.B g.notes.length p.d] #[.int .i64 r.height, .int .i64 r.gap, .int .i64 r.widow, .int .i64 r.orphan] (.slice (some ⟨bb, bo, none⟩) (g.items.length + 1) c)).next hb); obtain ⟨m0, m1, m2, f1, f2, ml0, ml1, ml⟩ := HB1.out.at; clear hb))
  have HBK := Lib.hid (Blk.new w1 96 #[.slice p.A g.items.length p.c, .slice p.B g.notes.length p.d, .int .i64 r.height, .int .i64 r.gap, .int .i64 r.widow, .int .i64 r.orphan])
  have HB2 := Lib.hid (HB1.out.next (Ext.alloc (Ext.refl w1) (.cells #[.slice p.A g.items.length p.c, .slice p.B g.notes.length p.d, .int .i64 r.height, .int .i64 r.gap, .int .i64 r.widow, .int .i64 r.orphan] 96)))
  clear m0 m1 m2 f1 f2 ml0 ml1 ml
  refine wp_region_steady (Ext _) [?_, ?_, ?_, ?_, ?_, ?_, ?_] (by kernel_rfl) (by kernel_rfl) rfl (Ext.refl _).drew ?_ ?_
  rotate_left 7
  · refine StepsT.cons (fun W hW => ?_) ?_
    · obtain ⟨m0, m1, m2, f1, f2, ml0, ml1, ml⟩ := (HB2.out.next hW).at; obtain ⟨k0, k1, k2, k3, k4, k5, _, kl⟩ := (HBK.out.ext hW).c6; first | (refine StepT.off rfl hW ?_; rfl) | (refine StepT.go rfl ?_; go_simp; first | (refine ⟨?_, hW⟩; rfl) | (refine Calls.mono (CE.out _) ?_; rintro e w4 ⟨rfl, hb⟩; refine ⟨?_, hW.trans hb⟩; rfl))
    simp only [Act.put, List.setIfInBounds_toArray, List.set_cons_zero, List.set_cons_succ]
    refine StepsT.cons (fun W hW => ?_) ?_
    · obtain ⟨m0, m1, m2, f1, f2, ml0, ml1, ml⟩ := (HB2.out.next hW).at; obtain ⟨k0, k1, k2, k3, k4, k5, _, kl⟩ := (HBK.out.ext hW).c6; first | (refine StepT.off rfl hW ?_; rfl) | (refine StepT.go rfl ?_; go_simp; first | (refine ⟨?_, hW⟩; rfl) | (refine Calls.mono (CE.out _) ?_; rintro e w4 ⟨rfl, hb⟩; refine ⟨?_, hW.trans hb⟩; rfl))
    simp only [Act.put, List.setIfInBounds_toArray, List.set_cons_zero, List.set_cons_succ]
    refine StepsT.cons (fun W hW => ?_) ?_
    · obtain ⟨m0, m1, m2, f1, f2, ml0, ml1, ml⟩ := (HB2.out.next hW).at; obtain ⟨k0, k1, k2, k3, k4, k5, _, kl⟩ := (HBK.out.ext hW).c6; first | (refine StepT.off rfl hW ?_; rfl) | (refine StepT.go rfl ?_; go_simp; first | (refine ⟨?_, hW⟩; rfl) | (refine Calls.mono (CE.out _) ?_; rintro e w4 ⟨rfl, hb⟩; refine ⟨?_, hW.trans hb⟩; rfl))
    simp only [Act.put, List.setIfInBounds_toArray, List.set_cons_zero, List.set_cons_succ]
    refine StepsT.cons (fun W hW => ?_) ?_
    · obtain ⟨m0, m1, m2, f1, f2, ml0, ml1, ml⟩ := (HB2.out.next hW).at; obtain ⟨k0, k1, k2, k3, k4, k5, _, kl⟩ := (HBK.out.ext hW).c6; first | (refine StepT.off rfl hW ?_; rfl) | (refine StepT.go rfl ?_; go_simp; first | (refine ⟨?_, hW⟩; rfl) | (refine Calls.mono (CE.out _) ?_; rintro e w4 ⟨rfl, hb⟩; refine ⟨?_, hW.trans hb⟩; rfl))
    simp only [Act.put, List.setIfInBounds_toArray, List.set_cons_zero, List.set_cons_succ]
    refine StepsT.cons (fun W hW => ?_) ?_
    · obtain ⟨m0, m1, m2, f1, f2, ml0, ml1, ml⟩ := (HB2.out.next hW).at; obtain ⟨k0, k1, k2, k3, k4, k5, _, kl⟩ := (HBK.out.ext hW).c6; first | (refine StepT.off rfl hW ?_; rfl) | (refine StepT.go rfl ?_; go_simp; first | (refine ⟨?_, hW⟩; rfl) | (refine Calls.mono (CE.out _) ?_; rintro e w4 ⟨rfl, hb⟩; refine ⟨?_, hW.trans hb⟩; rfl))
    simp only [Act.put, List.setIfInBounds_toArray, List.set_cons_zero, List.set_cons_succ]
    refine StepsT.cons (fun W hW => ?_) ?_
    · obtain ⟨m0, m1, m2, f1, f2, ml0, ml1, ml⟩ := (HB2.out.next hW).at; obtain ⟨k0, k1, k2, k3, k4, k5, _, kl⟩ := (HBK.out.ext hW).c6; first | (refine StepT.off rfl hW ?_; rfl) | (refine StepT.go rfl ?_; go_simp; first | (refine ⟨?_, hW⟩; rfl) | (refine Calls.mono (CE.out _) ?_; rintro e w4 ⟨rfl, hb⟩; refine ⟨?_, hW.trans hb⟩; rfl))
    simp only [Act.put, List.setIfInBounds_toArray, List.set_cons_zero, List.set_cons_succ]
    refine StepsT.cons (fun W hW => ?_) ?_
    · obtain ⟨m0, m1, m2, f1, f2, ml0, ml1, ml⟩ := (HB2.out.next hW).at; obtain ⟨k0, k1, k2, k3, k4, k5, _, kl⟩ := (HBK.out.ext hW).c6; first | (refine StepT.off rfl hW ?_; rfl) | (refine StepT.go rfl ?_; go_simp; first | (refine ⟨?_, hW⟩; rfl) | (refine Calls.mono (CE.out _) ?_; rintro e w4 ⟨rfl, hb⟩; refine ⟨?_, hW.trans hb⟩; rfl))
    simp only [Act.put, List.setIfInBounds_toArray, List.set_cons_zero, List.set_cons_succ]
    trivial
  intro W hW
  simp only [putAll, Act.put, List.setIfInBounds_toArray, List.set_cons_zero, List.set_cons_succ]
  have HB3 := Lib.hid (HB2.out.next hW)
  have HBK3 := Lib.hid (HBK.out.ext hW)
  obtain ⟨m0, m1, m2, f1, f2, ml0, ml1, ml⟩ := HB3.out.at
  have hc0 := (HB3.out.ext.cell (p := ⟨bb, bo, none⟩) HBB.out).trans HC0.out
  obtain ⟨k0, k1, k2, k3, k4, k5, _, kl⟩ := HBK3.out.c6
  go_upto_block 1 with (first | (go_at_call 78; refine Calls.mono (CCF.out _ ?_) ?_; (exact HL.out.ext (HB3.out.ext.trans (by repeat first | exact xe0 _ | assumption | refine xea ?_ _ | refine xed ?_ | refine xes ?_ (by simp <;> omega) _ | refine xet ?_ (by assumption)))); rintro e w5 ⟨rfl, rfl⟩))
  go_step
  have HLO5 : Hid (w.heap.size + 1 + 1 + 1 + 1 < w1.heap.size) := Lib.hid HB1.out.r7.lt
  refine wp_loop_m [false, false, false, false, false, false, false, false, false, false, true, true, true, false, false, false, false, false, false, false, false, false, false, false, false, false, false, false, false, false, false, false, false, false, false, false, false, false, false, false, false, false, true, true, true, true, true, true, true, true, true, true, true, true, true, true, true, true, true, true, true, true, false, false, false, false, false] 42 (fun U Ds wr => ∃ k : Nat, k ≤ g.items.length ∧ U 42 = .int .i64 (k : Int) ∧ Hid (∀ a' b', a' < k → a' < b' → b' ≤ g.items.length → (costR g r a' b').2 = 0 → l.getD b' 0 ≤ l.getD a' 0 + (costR g r a' b').1) ∧ Hid (ClS w #[.slice p.A g.items.length p.c, .slice p.B g.notes.length p.d, .int .i64 r.height, .int .i64 r.gap, .int .i64 r.widow, .int .i64 r.orphan] w1.heap.size (.slice (some ⟨bb, bo, none⟩) (g.items.length + 1) c) (.int .i64 0) (.int .i64 0) Ds wr)) (fun v => g.items.length - (intOf v).toNat) [] rfl ?_ ?_
  · exact ⟨0, Nat.zero_le _, rfl, Lib.hid (fun a' b' hj => absurd hj (by omega)), Lib.hid ⟨HB3.out.next (by repeat first | exact xe0 _ | assumption | refine xea ?_ _ | refine xed ?_ | refine xes ?_ (by simp <;> omega) _ | refine xet ?_ (by assumption)), HBK3.out.ext (by repeat first | exact xe0 _ | assumption | refine xea ?_ _ | refine xed ?_ | refine xes ?_ (by simp <;> omega) _ | refine xet ?_ (by assumption)), Marks.nil _ _, HLO5.out⟩⟩
  intro U Ds wr hrel
  obtain ⟨k, hk, h42, HA, HS⟩ := hrel
  simp only [over, Nat.reduceAdd, h42]
  clear h42 HB1 HB2 HB3 HBK HBK3 m0 m1 m2 f1 f2 ml0 ml1 ml k0 k1 k2 k3 k4 k5 kl hc0 hW HX1
  obtain ⟨m0, m1, m2, f1, f2, ml0, ml1, ml⟩ := HS.out.b.at
  obtain ⟨k0, k1, k2, k3, k4, k5, _, kl⟩ := HS.out.bb.c6
  by_cases hkn : k < g.items.length
  case neg =>
    obtain rfl : g.items.length = k := by omega
    have hok : ok = true := HLO.out.2 fun a' b' h1 h2 h3 => HA.out a' b' (by omega) h1 h2 h3
    have HV : Hid (V = (l.getD g.items.length 0, 0)) := Lib.hid (by rw [HR4.out, if_neg (by rw [hok]; decide)])
    have HBN0 := HBC.out g.items.length (by omega)
    have i2 : ¬ (g.items.length : Int) < (g.items.length : Int) := by omega
    have hk1 : (g.items.length : Int) < (g.items.length : Int) + 1 := by omega
    have hk2 : (0 : Int) ≤ (g.items.length : Int) := by omega
    generalize l.getD g.items.length 0 = z at *
    have HBN := Lib.hid HBN0
    clear hok HR4 HLO HA HBN0 hkn
    go_upto_region 19 with fail
    clear m0 m1 m2 f1 f2 ml0 ml1 ml k0 k1 k2 k3 k4 k5 kl
    refine wp_region_steadyF (fun W => ∃ x y, ClS w #[.slice p.A g.items.length p.c, .slice p.B g.notes.length p.d, .int .i64 r.height, .int .i64 r.gap, .int .i64 r.widow, .int .i64 r.orphan] w1.heap.size (.slice (some ⟨bb, bo, none⟩) (g.items.length + 1) c) x y Ds W) (fun j W => (j = 5 → Blk W (w.heap.size + 1 + 1 + 1) 3 #[.int .i64 z]) ∧ (j = 6 → Blk W (w.heap.size + 1 + 1 + 1 + 1) 31 #[.int .i64 0])) [?_, ?_, ?_, ?_, ?_, ?_, ?_] (by kernel_rfl) (by kernel_rfl) rfl ?_ ?_ ?_
    rotate_left 7
    · exact ⟨_, _, HS.out.next (Ext.refl _).drew⟩
    · skip
      refine StepsF.cons (fun W hW => ?_) ?_
      · obtain ⟨x9, y9, hS⟩ := hW; obtain ⟨m0, m1, m2, f1, f2, ml0, ml1, ml⟩ := hS.b.at; obtain ⟨k0, k1, k2, k3, k4, k5, _, kl⟩ := hS.bb.c6; have qn := (hS.b.ext.cell (p := ⟨bb, bo + g.items.length, none⟩) HBB.out).trans HBN.out; have qlo := hS.lo; clear qlo; refine StepT.go rfl ?_; go_simp; first | (refine ⟨?_, ⟨x9, y9, hS⟩, ⟨fun h => (by cases h), fun h => (by cases h)⟩, fun _ h => h⟩; rfl) | (refine Calls.mono (CE.out _) ?_; rintro e w4 ⟨rfl, hb⟩; refine ⟨?_, ⟨x9, y9, hS.next hb⟩, ⟨fun h => (by cases h), fun h => (by cases h)⟩, fun _ h => ⟨fun hj => (h.1 hj).ext hb, fun hj => (h.2 hj).ext hb⟩⟩; rfl)
      simp only [Act.put, List.setIfInBounds_toArray, List.set_cons_zero, List.set_cons_succ]
      refine StepsF.cons (fun W hW => ?_) ?_
      · obtain ⟨x9, y9, hS⟩ := hW; obtain ⟨m0, m1, m2, f1, f2, ml0, ml1, ml⟩ := hS.b.at; obtain ⟨k0, k1, k2, k3, k4, k5, _, kl⟩ := hS.bb.c6; have qn := (hS.b.ext.cell (p := ⟨bb, bo + g.items.length, none⟩) HBB.out).trans HBN.out; have qlo := hS.lo; clear qlo; refine StepT.go rfl ?_; go_simp; first | (refine ⟨?_, ⟨x9, y9, hS⟩, ⟨fun h => (by cases h), fun h => (by cases h)⟩, fun _ h => h⟩; rfl) | (refine Calls.mono (CE.out _) ?_; rintro e w4 ⟨rfl, hb⟩; refine ⟨?_, ⟨x9, y9, hS.next hb⟩, ⟨fun h => (by cases h), fun h => (by cases h)⟩, fun _ h => ⟨fun hj => (h.1 hj).ext hb, fun hj => (h.2 hj).ext hb⟩⟩; rfl)
      simp only [Act.put, List.setIfInBounds_toArray, List.set_cons_zero, List.set_cons_succ]
      refine StepsF.cons (fun W hW => ?_) ?_
      · obtain ⟨x9, y9, hS⟩ := hW; obtain ⟨m0, m1, m2, f1, f2, ml0, ml1, ml⟩ := hS.b.at; obtain ⟨k0, k1, k2, k3, k4, k5, _, kl⟩ := hS.bb.c6; have qn := (hS.b.ext.cell (p := ⟨bb, bo + g.items.length, none⟩) HBB.out).trans HBN.out; have qlo := hS.lo; clear qlo; refine StepT.go rfl ?_; go_simp; first | (refine ⟨?_, ⟨x9, y9, hS⟩, ⟨fun h => (by cases h), fun h => (by cases h)⟩, fun _ h => h⟩; rfl) | (refine Calls.mono (CE.out _) ?_; rintro e w4 ⟨rfl, hb⟩; refine ⟨?_, ⟨x9, y9, hS.next hb⟩, ⟨fun h => (by cases h), fun h => (by cases h)⟩, fun _ h => ⟨fun hj => (h.1 hj).ext hb, fun hj => (h.2 hj).ext hb⟩⟩; rfl)
      simp only [Act.put, List.setIfInBounds_toArray, List.set_cons_zero, List.set_cons_succ]
      refine StepsF.cons (fun W hW => ?_) ?_
      · obtain ⟨x9, y9, hS⟩ := hW; obtain ⟨m0, m1, m2, f1, f2, ml0, ml1, ml⟩ := hS.b.at; obtain ⟨k0, k1, k2, k3, k4, k5, _, kl⟩ := hS.bb.c6; have qn := (hS.b.ext.cell (p := ⟨bb, bo + g.items.length, none⟩) HBB.out).trans HBN.out; have qlo := hS.lo; clear qlo; refine StepT.go rfl ?_; go_simp; first | (refine ⟨?_, ⟨x9, y9, hS⟩, ⟨fun h => (by cases h), fun h => (by cases h)⟩, fun _ h => h⟩; rfl) | (refine Calls.mono (CE.out _) ?_; rintro e w4 ⟨rfl, hb⟩; refine ⟨?_, ⟨x9, y9, hS.next hb⟩, ⟨fun h => (by cases h), fun h => (by cases h)⟩, fun _ h => ⟨fun hj => (h.1 hj).ext hb, fun hj => (h.2 hj).ext hb⟩⟩; rfl)
      simp only [Act.put, List.setIfInBounds_toArray, List.set_cons_zero, List.set_cons_succ]
      refine StepsF.cons (fun W hW => ?_) ?_
      · obtain ⟨x9, y9, hS⟩ := hW; obtain ⟨m0, m1, m2, f1, f2, ml0, ml1, ml⟩ := hS.b.at; obtain ⟨k0, k1, k2, k3, k4, k5, _, kl⟩ := hS.bb.c6; have qn := (hS.b.ext.cell (p := ⟨bb, bo + g.items.length, none⟩) HBB.out).trans HBN.out; have qlo := hS.lo; clear qlo; refine StepT.go rfl ?_; go_simp; first | (refine ⟨?_, ⟨x9, y9, hS⟩, ⟨fun h => (by cases h), fun h => (by cases h)⟩, fun _ h => h⟩; rfl) | (refine Calls.mono (CE.out _) ?_; rintro e w4 ⟨rfl, hb⟩; refine ⟨?_, ⟨x9, y9, hS.next hb⟩, ⟨fun h => (by cases h), fun h => (by cases h)⟩, fun _ h => ⟨fun hj => (h.1 hj).ext hb, fun hj => (h.2 hj).ext hb⟩⟩; rfl)
      simp only [Act.put, List.setIfInBounds_toArray, List.set_cons_zero, List.set_cons_succ]
      refine StepsF.cons (fun W hW => ?_) ?_
      · obtain ⟨x9, y9, hS⟩ := hW; obtain ⟨m0, m1, m2, f1, f2, ml0, ml1, ml⟩ := hS.b.at; obtain ⟨k0, k1, k2, k3, k4, k5, _, kl⟩ := hS.bb.c6; have qn := (hS.b.ext.cell (p := ⟨bb, bo + g.items.length, none⟩) HBB.out).trans HBN.out; have qlo := hS.lo; clear qlo; refine StepT.go rfl ?_; go_simp; refine ⟨?_, ⟨_, y9, hS.put6 _⟩, ⟨fun _ => hS.b.r6.set_ 0 _, fun h => (by cases h)⟩, fun _ h => ⟨fun _ => hS.b.r6.set_ 0 _, fun hj => (h.2 hj).far (p := ⟨w.heap.size + 1 + 1 + 1, 0, none⟩) (by simp only; omega) _⟩⟩; rfl
      simp only [Act.put]
      refine StepsF.cons (fun W hW => ?_) ?_
      · obtain ⟨x9, y9, hS⟩ := hW; obtain ⟨m0, m1, m2, f1, f2, ml0, ml1, ml⟩ := hS.b.at; obtain ⟨k0, k1, k2, k3, k4, k5, _, kl⟩ := hS.bb.c6; have qn := (hS.b.ext.cell (p := ⟨bb, bo + g.items.length, none⟩) HBB.out).trans HBN.out; have qlo := hS.lo; clear qlo; refine StepT.go rfl ?_; go_simp; refine ⟨?_, ⟨x9, _, hS.put7 _⟩, ⟨fun h => (by cases h), fun _ => hS.b.r7.set_ 0 _⟩, fun _ h => ⟨fun hj => (h.1 hj).far (p := ⟨w.heap.size + 1 + 1 + 1 + 1, 0, none⟩) (by simp only; omega) _, fun _ => hS.b.r7.set_ 0 _⟩⟩; rfl
      simp only [Act.put]
      trivial
    intro W hW hF
    simp only [putAll, Act.put, List.setIfInBounds_toArray, List.set_cons_zero, List.set_cons_succ]
    obtain ⟨x9, y9, hS⟩ := hW
    have HSF := Lib.hid hS
    have HF6 := Lib.hid ((hF 5 (by decide)).1 rfl); have HF7 := Lib.hid ((hF 6 (by decide)).2 rfl)
    clear hF hS
    go_wp2
    refine leaves_marks (n0 := w.heap.size) Ds _ (HSF.out.ms.ext (by repeat first | exact xe0 _ | assumption | refine xea ?_ _ | refine xed ?_ | refine xes ?_ (by simp <;> omega) _ | refine xet ?_ (by assumption))) fun w' hb' hc' => ⟨.tuple #[.int .i64 z, .int .i64 0], by (have c6 := hc'.cell (HF6.out.cell 0 _ rfl); have c7 := hc'.cell (HF7.out.cell 0 _ rfl); simp [results, Tryz.results43, go_sem, c6, c7]), ?_⟩
    exact Ret.mk' (by rw [HV.out]) (Below.trans (HSF.out.b.ext.trans (by repeat first | exact xe0 _ | assumption | refine xea ?_ _ | refine xed ?_ | refine xes ?_ (by simp <;> omega) _ | refine xet ?_ (by assumption))) hb')
  case pos =>
    have hkl : (k : Int) < (g.items.length : Int) := by omega
    have hkl2 : (k : Int) < (g.items.length : Int) + 1 := by omega
    have hk1 : IntKind.i64.wrap ((k : Int) + 1) = ((k + 1 : Nat) : Int) := by rw [IntWalk.i64_in _ (by omega)]; omega
    have CP := Lib.hid (fun W => pages_any g p r (k : Int) W)
    unfold bkVal at CP
    go_upto_block 3 with (first | (go_at_call 75; refine Calls.mono (CP.out _) ?_; rintro e w3 ⟨rfl, rfl⟩))
    go_step
    obtain ⟨wq, hwq⟩ : ∃ wq, ((wr.alloc (.cells #[.int .i64 (k : Int)] 3)).alloc (.cells #[.slice p.A g.items.length p.c, .slice p.B g.notes.length p.d, .int .i64 r.height, .int .i64 r.gap, .int .i64 r.widow, .int .i64 r.orphan] 96)).alloc (.cells #[.int .i64 (k : Int)] 3) = wq := ⟨_, rfl⟩
    have hxq : Ext wr wq := by rw [← hwq]; exact (by repeat first | exact xe0 _ | assumption | refine xea ?_ _ | refine xed ?_ | refine xes ?_ (by simp <;> omega) _ | refine xet ?_ (by assumption))
    have hF : Blk wq wr.heap.size 3 #[.int .i64 (k : Int)] := by rw [← hwq]; exact ((Blk.new wr _ _).alloc _).alloc _
    have hK : Blk wq (wr.heap.size + 1) 96 #[.slice p.A g.items.length p.c, .slice p.B g.notes.length p.d, .int .i64 r.height, .int .i64 r.gap, .int .i64 r.widow, .int .i64 r.orphan] := by rw [← hwq]; exact (Blk.new1 wr _ _ _).alloc _
    have hK2 : Blk wq (wr.heap.size + 1 + 1) 3 #[.int .i64 (k : Int)] := by rw [← hwq]; exact Blk.new2 wr _ _ _ _
    rw [hwq]
    clear hwq m0 m1 m2 f1 f2 ml0 ml1 ml k0 k1 k2 k3 k4 k5 kl
    have HSQ := Lib.hid (HS.out.next hxq); have HF := Lib.hid hF
    have HPS : Hid (PgS w g p r k (wr.heap.size + 1) (wr.heap.size + 1 + 1) wq) := Lib.hid ⟨HSQ.out.b.ext, hK, hK2⟩
    have hq1 := hK.lt; have hq2 := hK2.lt; have hq0 := HSQ.out.b.ext.size
    have HMB : Hid (∀ D, D ∈ Ds → D < wq.heap.size) := Lib.hid fun D hD => (HSQ.out.ms.2 D hD).2.1
    clear hxq hF hK hK2
    refine (wpIn_wide (n := 3)).1 ?_
    refine wpIn_rangeFunc_ownG_of_H (gf := 98) (lb := #[.pointer (some ⟨wr.heap.size + 1 + 1, 0, none⟩), .pointer (some ⟨wr.heap.size + 1, 0, none⟩)]) rfl (by decide) rfl trivial (enters_of Tryz.func98 (by kernel_rfl) rfl)
      (pages1_stops g p r k (wr.heap.size + 1) (wr.heap.size + 1 + 1) 2 w wq (by decide) HG.out hkn HRG.out HQ.out HPS.out) (fun h k => KpP.trans h k) (fun W l o o' hl _ _ _ => KpP.of_put (w := wq) hq0 hq1 hq2 W l o' hl) (Below.refl _ _) (fun _ => rfl)
      (fun pre W => ClS w #[.slice p.A g.items.length p.c, .slice p.B g.notes.length p.d, .int .i64 r.height, .int .i64 r.gap, .int .i64 r.widow, .int .i64 r.orphan] w1.heap.size (.slice (some ⟨bb, bo, none⟩) (g.items.length + 1) c) (.int .i64 0) (.int .i64 0) Ds W ∧ (Blk W wr.heap.size 3 #[.int .i64 (k : Int)] ∧ (Blk W (wr.heap.size + 1 + 1) 3 #[.int .i64 (k : Int)] ∧ PreOk l pre))) (fun c' _ W => c' = .ret ∧ (V = (0, 22) ∧ ClS w #[.slice p.A g.items.length p.c, .slice p.B g.notes.length p.d, .int .i64 r.height, .int .i64 r.gap, .int .i64 r.widow, .int .i64 r.orphan] w1.heap.size (.slice (some ⟨bb, bo, none⟩) (g.items.length + 1) c) (.int .i64 0) (.int .i64 22) Ds W))
      (OwnFrom.and (ClS.from _ HMB.out hq0) (OwnFrom.and (Blk.own _ _ _ _) (OwnFrom.and (Blk.own _ _ _ _) (fun _ _ _ _ h _ _ => h)))) (fun c' pre X Y row h hg hr => ⟨h.1, h.2.1, ClS.from (α := Unit) _ HMB.out hq0 () X Y row h.2.2 hg hr⟩) ⟨HSQ.out, HF.out, HPS.out.bfr, fun t ht => by cases ht⟩ ?a1 ?assign ?body ?done ?stop (KpP.refl _ _ _)
    case assign =>
      intro l x2 W K hK
      gi_wp2
      exact hK
    case body =>
      rintro l0 pre ⟨t, ht1, ht2, ht3⟩ wo ⟨hS2, hF2, hF3, hP⟩ hlen
      have hcb := HSM.out k t ht1 ht2 ht3
      have hbk := HBC.out k (by omega)
      have hbt := HBC.out t (by omega)
      have hla := HIN.out k (by omega)
      have hlb := HIN.out t (by omega)
      have HPN : Hid (l.getD t 0 ≤ l.getD k 0 + (costR g r k t).1 → PreOk l (pre ++ [⟨t, ht1, ht2, ht3⟩])) := Lib.hid fun h t' ht' => by
        rcases List.mem_append.1 ht' with h9 | h9
        · exact hP t' h9
        · rw [List.mem_singleton.1 h9]; exact h
      have HNO : Hid (¬ l.getD t 0 ≤ l.getD k 0 + (costR g r k t).1 → V = (0, 22)) := Lib.hid fun h => by
        rw [HR4.out, if_pos (by rw [← Bool.not_eq_true]; exact fun h3 => h (HLO.out.1 h3 k t ht1 ht2 ht3))]
      have htl : (t : Int) < (g.items.length : Int) + 1 := by omega
      generalize l.getD t 0 = lb at *
      generalize hga : l.getD k 0 = la at *
      generalize (costR g r k t).1 = cv at *
      have HBK := Lib.hid hbk; have HBT := Lib.hid hbt
      have hws : IntKind.i64.wrap (la + cv) = la + cv := IntWalk.i64_in _ (by omega)
      clear hP hbk hbt hga
      gi_step
      gi_step
      gi_step
      refine wpIn_region_steady (Ext _) [?_, ?_, ?_, ?_, ?_, ?_, ?_, ?_, ?_, ?_, ?_] (by kernel_rfl) (by kernel_rfl) (by kernel_rfl) rfl (Ext.refl _).drew ?_ ?_
      rotate_left 11
      · refine StepsT.cons (fun W hW => ?_) ?_
        · obtain ⟨m0, m1, m2, f1, f2, ml0, ml1, ml⟩ := (hS2.next hW).b.at; have qk := ((hS2.next hW).b.ext.cell (p := ⟨bb, bo + k, none⟩) HBB.out).trans HBK.out; have qt := ((hS2.next hW).b.ext.cell (p := ⟨bb, bo + t, none⟩) HBB.out).trans HBT.out; have qf := (hF2.ext hW).cell 0 _ rfl; have qfl := (hF2.ext hW).lt; first | (refine StepT.off rfl hW ?_; rfl) | (refine StepT.go rfl ?_; go_simp; first | (refine ⟨?_, hW⟩; rfl))
        simp only [Act.put, List.setIfInBounds_toArray, List.set_cons_zero, List.set_cons_succ]
        refine StepsT.cons (fun W hW => ?_) ?_
        · obtain ⟨m0, m1, m2, f1, f2, ml0, ml1, ml⟩ := (hS2.next hW).b.at; have qk := ((hS2.next hW).b.ext.cell (p := ⟨bb, bo + k, none⟩) HBB.out).trans HBK.out; have qt := ((hS2.next hW).b.ext.cell (p := ⟨bb, bo + t, none⟩) HBB.out).trans HBT.out; have qf := (hF2.ext hW).cell 0 _ rfl; have qfl := (hF2.ext hW).lt; first | (refine StepT.off rfl hW ?_; rfl) | (refine StepT.go rfl ?_; go_simp; first | (refine ⟨?_, hW⟩; rfl))
        simp only [Act.put, List.setIfInBounds_toArray, List.set_cons_zero, List.set_cons_succ]
        refine StepsT.cons (fun W hW => ?_) ?_
        · obtain ⟨m0, m1, m2, f1, f2, ml0, ml1, ml⟩ := (hS2.next hW).b.at; have qk := ((hS2.next hW).b.ext.cell (p := ⟨bb, bo + k, none⟩) HBB.out).trans HBK.out; have qt := ((hS2.next hW).b.ext.cell (p := ⟨bb, bo + t, none⟩) HBB.out).trans HBT.out; have qf := (hF2.ext hW).cell 0 _ rfl; have qfl := (hF2.ext hW).lt; first | (refine StepT.off rfl hW ?_; rfl) | (refine StepT.go rfl ?_; go_simp; first | (refine ⟨?_, hW⟩; rfl))
        simp only [Act.put, List.setIfInBounds_toArray, List.set_cons_zero, List.set_cons_succ]
        refine StepsT.cons (fun W hW => ?_) ?_
        · obtain ⟨m0, m1, m2, f1, f2, ml0, ml1, ml⟩ := (hS2.next hW).b.at; have qk := ((hS2.next hW).b.ext.cell (p := ⟨bb, bo + k, none⟩) HBB.out).trans HBK.out; have qt := ((hS2.next hW).b.ext.cell (p := ⟨bb, bo + t, none⟩) HBB.out).trans HBT.out; have qf := (hF2.ext hW).cell 0 _ rfl; have qfl := (hF2.ext hW).lt; first | (refine StepT.off rfl hW ?_; rfl) | (refine StepT.go rfl ?_; go_simp; first | (refine ⟨?_, hW⟩; rfl))
        simp only [Act.put, List.setIfInBounds_toArray, List.set_cons_zero, List.set_cons_succ]
        refine StepsT.cons (fun W hW => ?_) ?_
        · obtain ⟨m0, m1, m2, f1, f2, ml0, ml1, ml⟩ := (hS2.next hW).b.at; have qk := ((hS2.next hW).b.ext.cell (p := ⟨bb, bo + k, none⟩) HBB.out).trans HBK.out; have qt := ((hS2.next hW).b.ext.cell (p := ⟨bb, bo + t, none⟩) HBB.out).trans HBT.out; have qf := (hF2.ext hW).cell 0 _ rfl; have qfl := (hF2.ext hW).lt; first | (refine StepT.off rfl hW ?_; rfl) | (refine StepT.go rfl ?_; go_simp; first | (refine ⟨?_, hW⟩; rfl))
        simp only [Act.put, List.setIfInBounds_toArray, List.set_cons_zero, List.set_cons_succ]
        refine StepsT.cons (fun W hW => ?_) ?_
        · obtain ⟨m0, m1, m2, f1, f2, ml0, ml1, ml⟩ := (hS2.next hW).b.at; have qk := ((hS2.next hW).b.ext.cell (p := ⟨bb, bo + k, none⟩) HBB.out).trans HBK.out; have qt := ((hS2.next hW).b.ext.cell (p := ⟨bb, bo + t, none⟩) HBB.out).trans HBT.out; have qf := (hF2.ext hW).cell 0 _ rfl; have qfl := (hF2.ext hW).lt; first | (refine StepT.off rfl hW ?_; rfl) | (refine StepT.go rfl ?_; go_simp; first | (refine ⟨?_, hW⟩; rfl))
        simp only [Act.put, List.setIfInBounds_toArray, List.set_cons_zero, List.set_cons_succ]
        refine StepsT.cons (fun W hW => ?_) ?_
        · obtain ⟨m0, m1, m2, f1, f2, ml0, ml1, ml⟩ := (hS2.next hW).b.at; have qk := ((hS2.next hW).b.ext.cell (p := ⟨bb, bo + k, none⟩) HBB.out).trans HBK.out; have qt := ((hS2.next hW).b.ext.cell (p := ⟨bb, bo + t, none⟩) HBB.out).trans HBT.out; have qf := (hF2.ext hW).cell 0 _ rfl; have qfl := (hF2.ext hW).lt; first | (refine StepT.off rfl hW ?_; rfl) | (refine StepT.go rfl ?_; go_simp; first | (refine ⟨?_, hW⟩; rfl))
        simp only [Act.put, List.setIfInBounds_toArray, List.set_cons_zero, List.set_cons_succ]
        refine StepsT.cons (fun W hW => ?_) ?_
        · obtain ⟨m0, m1, m2, f1, f2, ml0, ml1, ml⟩ := (hS2.next hW).b.at; have qk := ((hS2.next hW).b.ext.cell (p := ⟨bb, bo + k, none⟩) HBB.out).trans HBK.out; have qt := ((hS2.next hW).b.ext.cell (p := ⟨bb, bo + t, none⟩) HBB.out).trans HBT.out; have qf := (hF2.ext hW).cell 0 _ rfl; have qfl := (hF2.ext hW).lt; first | (refine StepT.off rfl hW ?_; rfl) | (refine StepT.go rfl ?_; go_simp; first | (refine ⟨?_, hW⟩; rfl))
        simp only [Act.put, List.setIfInBounds_toArray, List.set_cons_zero, List.set_cons_succ]
        refine StepsT.cons (fun W hW => ?_) ?_
        · obtain ⟨m0, m1, m2, f1, f2, ml0, ml1, ml⟩ := (hS2.next hW).b.at; have qk := ((hS2.next hW).b.ext.cell (p := ⟨bb, bo + k, none⟩) HBB.out).trans HBK.out; have qt := ((hS2.next hW).b.ext.cell (p := ⟨bb, bo + t, none⟩) HBB.out).trans HBT.out; have qf := (hF2.ext hW).cell 0 _ rfl; have qfl := (hF2.ext hW).lt; first | (refine StepT.off rfl hW ?_; rfl) | (refine StepT.go rfl ?_; go_simp; first | (refine ⟨?_, hW⟩; rfl))
        simp only [Act.put, List.setIfInBounds_toArray, List.set_cons_zero, List.set_cons_succ]
        refine StepsT.cons (fun W hW => ?_) ?_
        · obtain ⟨m0, m1, m2, f1, f2, ml0, ml1, ml⟩ := (hS2.next hW).b.at; have qk := ((hS2.next hW).b.ext.cell (p := ⟨bb, bo + k, none⟩) HBB.out).trans HBK.out; have qt := ((hS2.next hW).b.ext.cell (p := ⟨bb, bo + t, none⟩) HBB.out).trans HBT.out; have qf := (hF2.ext hW).cell 0 _ rfl; have qfl := (hF2.ext hW).lt; first | (refine StepT.off rfl hW ?_; rfl) | (refine StepT.go rfl ?_; go_simp; first | (refine ⟨?_, hW⟩; rfl))
        simp only [Act.put, List.setIfInBounds_toArray, List.set_cons_zero, List.set_cons_succ]
        refine StepsT.cons (fun W hW => ?_) ?_
        · obtain ⟨m0, m1, m2, f1, f2, ml0, ml1, ml⟩ := (hS2.next hW).b.at; have qk := ((hS2.next hW).b.ext.cell (p := ⟨bb, bo + k, none⟩) HBB.out).trans HBK.out; have qt := ((hS2.next hW).b.ext.cell (p := ⟨bb, bo + t, none⟩) HBB.out).trans HBT.out; have qf := (hF2.ext hW).cell 0 _ rfl; have qfl := (hF2.ext hW).lt; first | (refine StepT.off rfl hW ?_; rfl) | (refine StepT.go rfl ?_; go_simp; first | (refine ⟨?_, hW⟩; rfl))
        simp only [Act.put, List.setIfInBounds_toArray, List.set_cons_zero, List.set_cons_succ]
        trivial
      intro W hW
      simp only [putAll, Act.put, List.setIfInBounds_toArray, List.set_cons_zero, List.set_cons_succ]
      have hlo := hF3.lt
      have hS3 := hS2.next hW
      obtain ⟨m0, m1, m2, f1, f2, ml0, ml1, ml⟩ := hS3.b.at
      have HPL : Hid (wr.heap.size + 1 < wo.heap.size ∧ wr.heap.size + 1 + 1 < wo.heap.size) := Lib.hid ⟨by omega, by omega⟩
      by_cases h4 : lb ≤ la + cv
      case pos =>
        have i4 : ¬ la + cv < lb := by omega
        have HPN2 := Lib.hid (HPN.out h4)
        clear hws h4
        gi_wp2
        exact ⟨hW.keeps _, hW.kp HPL.out.1 HPL.out.2, hS3, hF2.ext hW, hF3.ext hW, HPN2.out⟩
      case neg =>
        have i4 : la + cv < lb := by omega
        have HV := Lib.hid (HNO.out h4)
        clear hws h4
        gi_wp2
        exact ⟨(hW.keeps _).trans (((KeepsOthers.setCell _ _ _).from _).trans ((KeepsOthers.setCell _ _ _).from _)), rfl, HV.out, (hS3.put6 _).put7 _⟩
    case done =>
      rintro D xs W hD rfl ⟨hS2, _, _, hP⟩ hK
      have HS3 := Lib.hid (hS2.cons hK (Nat.le_trans hq0 hD) fun E hE => Nat.lt_of_lt_of_le (HMB.out E hE) hD)
      have HN : Hid (∀ a' b', a' < k + 1 → a' < b' → b' ≤ g.items.length → (costR g r a' b').2 = 0 → l.getD b' 0 ≤ l.getD a' 0 + (costR g r a' b').1) := Lib.hid fun a' b' h1 h2 h3 h4 => by
        rcases Nat.lt_or_ge a' k with h9 | h9
        · exact HA.out a' b' h9 h2 h3 h4
        · obtain rfl : a' = k := by omega
          obtain ⟨t, ht, rfl⟩ := mem_tos (g.items.length - a') b' h2 (by omega) h3 h4
          exact hP t ht
      clear hS2 hP hK hD
      dsimp only
      go_wp2
      refine ⟨D :: Ds, rfl, rfl, ⟨k + 1, by omega, rfl, HN, HS3⟩, ?_⟩
      simp [intOf]; omega
    case stop =>
      rintro D c' pre W hD _ ⟨rfl, hV, hS⟩ hK
      have HS3 := Lib.hid (hS.cons hK (Nat.le_trans hq0 hD) fun E hE => Nat.lt_of_lt_of_le (HMB.out E hE) hD)
      have HV := Lib.hid hV
      clear hS hV hK hD
      refine wpIn_wide.2 ?_
      dsimp only
      go_wp2
      refine leaves_marks (n0 := w.heap.size) (D :: Ds) _ (HS3.out.ms.ext (by repeat first | exact xe0 _ | assumption | refine xea ?_ _ | refine xed ?_ | refine xes ?_ (by simp <;> omega) _ | refine xet ?_ (by assumption))) fun w' hb' hc' => ⟨.tuple #[.int .i64 0, .int .i64 22], by (have c6 := hc'.cell (HS3.out.b.at.2.1); have c7 := hc'.cell (HS3.out.b.at.2.2.1); simp [results, Tryz.results43, go_sem, c6, c7]), ?_⟩
      exact Ret.mk' (by rw [HV.out]) (Below.trans (HS3.out.b.ext.trans (by repeat first | exact xe0 _ | assumption | refine xea ?_ _ | refine xed ?_ | refine xes ?_ (by simp <;> omega) _ | refine xet ?_ (by assumption))) hb')
end Go.Proofs.YtpkmapngdkkglaaGreatDoor
