/-
  Walks: chapter 5: open, UsedBy, NotesOn, CostOf.
  Walks: chapter 5: UsedBy, NotesOn, CostOf.
  Walk: chapter 5: NotesOn.
  Walks: chapter 5: the pages that begin at a place, one by one (an iterator).
  Walk: slices.Repeat at a list of one number.
  Leaving a function behind loops over iterators: the marks among its deferred calls, none of which has a call.
  A region whose operations keep to a condition on the world, within a round of a loop over an iterator.
  Plain law: what a page uses is at least the heights of its items that are no gaps; breaks found, label by label.
  Best in memory: the labels, the places before, and a page's round.
-/
import Derived.Test.YtfbdklminljecaaGreatDoorGH
import Derived.Deep.MidRow
import Derived.RangeFuncNested
import Derived.RangeFuncBound
import Derived.RangeFuncCalls
import Derived.RangeFuncLeaves
import Derived.Shelf.Abstract
import Derived.Shelf.RegionOpen
import Derived.OwnWalkIn
import Derived.TacticsInMore
import Derived.LoopNIn
import Derived.LoopIn
import Derived.Test.YtfbdklminljecaaGreatDoorGC
import Derived.Test.YtfbdklminljecaaGreatDoorGE
import Derived.OwnWalk
import Derived.Test.YtfbdklminljecaaGreatDoorShelf
import Derived.Laws.CopyRow
import Derived.Laws.CopyOwn
import Derived.Deep.WholeRow
import Derived.Test.YtfbdklminljecaaGreatDoorGA
import Derived.Test.YtfbdklminljecaaGreatDoorGD
import Derived.OrdersIn
import Derived.Test.YtfbdklminljecaaGreatDoorGG
namespace Go.Proofs.YtfbdklminljecaaGreatDoor
open Go.RowKit
attribute [local go_sem ↓] Go.wp_at_zero Go.wp_at_succ

theorem Blk.c6 {w : World} {g : Nat} {t : TypeId} {a b c d e f : Value} (h : Blk w g t #[a, b, c, d, e, f]) : w.cell? ⟨g, 0, none⟩ = some a ∧ w.cell? ⟨g, 1, none⟩ = some b ∧ w.cell? ⟨g, 2, none⟩ = some c ∧ w.cell? ⟨g, 3, none⟩ = some d ∧
    w.cell? ⟨g, 4, none⟩ = some e ∧ w.cell? ⟨g, 5, none⟩ = some f ∧ (∀ i, w.frozen? ⟨g, i, none⟩ = false) ∧ g < w.heap.size :=
  ⟨h.cell 0 _ rfl, h.cell 1 _ rfl, h.cell 2 _ rfl, h.cell 3 _ rfl, h.cell 4 _ rfl, h.cell 5 _ rfl, fun i => h.frozen i, h.lt⟩
theorem Ext.setCells {a : World} {g : Nat} : ∀ (vs : List Value) (o : Nat) (b : World), Ext a b → a.heap.size ≤ g → Ext a (b.setCells g o vs)
  | [], _, _, h, _ => h
  | v :: vs, o, b, h, hg => by rw [World.setCells]; exact Ext.setCells vs (o + 1) _ (h.setCell (p := ⟨g, o, none⟩) hg v) hg
theorem Blk.put6 {w : World} {g : Nat} {t : TypeId} {a b c d e f a' b' c' d' e' f' : Value} (h : Blk w g t #[a, b, c, d, e, f]) : Blk (w.setCells g 0 [a', b', c', d', e', f']) g t #[a', b', c', d', e', f'] :=
  (((((h.set_ 0 a').set_ 1 b').set_ 2 c').set_ 3 d').set_ 4 e').set_ 5 f'
theorem Blk.there6 {w : World} {g : Nat} {t : TypeId} {a b c d e f : Value} (h : Blk w g t #[a, b, c, d, e, f]) : w.there g 0 6 := fun j hj => by
  obtain ⟨h0, h1, h2, h3, h4, h5, hf, _⟩ := h.c6
  refine ⟨?_, by rw [Nat.zero_add]; exact hf j⟩
  rw [Nat.zero_add]
  match j with
  | 0 => rw [h0]; rfl
  | 1 => rw [h1]; rfl
  | 2 => rw [h2]; rfl
  | 3 => rw [h3]; rfl
  | 4 => rw [h4]; rfl
  | 5 => rw [h5]; rfl
  | j + 6 => omega
/-- A book with its error: the empty book where the galley is wrong. -/
def openV (g : GT) (a : GA) (r : QT) : Value := if (chkG g).2 ≠ 0 then .tuple #[.agg #[.slice none 0 0, .slice none 0 0, .int .i64 0, .int .i64 0, .int .i64 0, .int .i64 0], .int .i64 (chkG g).2]
  else .tuple #[bkVal g a r, .int .i64 (chkQ r)]
/-- What the last statement of open keeps. -/
structure OpS (w : World) (cg cr : Array Value) (W : World) : Prop where
  ext : Ext w W
  fg : Blk W w.heap.size 49 cg
  fq : Blk W (w.heap.size + 1) 52 cr
  fb : ∃ a b c d e f, Blk W (w.heap.size + 1 + 1) 76 #[a, b, c, d, e, f]
theorem OpS.next {w W W' : World} {cg cr : Array Value} (h : OpS w cg cr W) (hx : Ext W W') : OpS w cg cr W' :=
  ⟨h.ext.trans hx, h.fg.ext hx, h.fq.ext hx, let ⟨a, b, c, d, e, f, hb⟩ := h.fb; ⟨a, b, c, d, e, f, hb.ext hx⟩⟩
theorem OpS.put {w W : World} {cg cr : Array Value} {a b c d e f : Value} (h : OpS w cg cr W) : OpS w cg cr (W.setCells (w.heap.size + 1 + 1) 0 [a, b, c, d, e, f]) ∧ Blk (W.setCells (w.heap.size + 1 + 1) 0 [a, b, c, d, e, f]) (w.heap.size + 1 + 1) 76 #[a, b, c, d, e, f] := by
  obtain ⟨h1, h2, h3, a', b', c', d', e', f', h4⟩ := h
  refine ⟨⟨Ext.setCells _ _ _ h1 (by omega), ?_, ?_, a, b, c, d, e, f, h4.put6⟩, h4.put6⟩
  · exact (((((h2.far (by simp; omega) a).far (by simp; omega) b).far (by simp; omega) c).far (by simp; omega) d).far (by simp; omega) e).far (by simp; omega) f
  · exact (((((h3.far (by simp) a).far (by simp) b).far (by simp) c).far (by simp) d).far (by simp) e).far (by simp) f
theorem OpS.at {w W : World} {A B : Value} {a b c d : Value} (h : OpS w #[A, B] #[a, b, c, d] W) : (W.cell? ⟨w.heap.size, 0, none⟩ = some A ∧ W.cell? ⟨w.heap.size, 1, none⟩ = some B) ∧ (W.cell? ⟨w.heap.size + 1, 0, none⟩ = some a ∧ W.cell? ⟨w.heap.size + 1, 1, none⟩ = some b ∧ W.cell? ⟨w.heap.size + 1, 2, none⟩ = some c ∧ W.cell? ⟨w.heap.size + 1, 3, none⟩ = some d) ∧
    W.there (w.heap.size + 1 + 1) 0 6 ∧ w.heap.size + 1 + 1 < W.heap.size :=
  ⟨⟨h.fg.cell 0 _ rfl, h.fg.cell 1 _ rfl⟩, ⟨h.fq.cell 0 _ rfl, h.fq.cell 1 _ rfl, h.fq.cell 2 _ rfl, h.fq.cell 3 _ rfl⟩, let ⟨_, _, _, _, _, _, hb⟩ := h.fb; hb.there6, let ⟨_, _, _, _, _, _, hb⟩ := h.fb; hb.lt⟩
set_option maxRecDepth 100000 in
set_option maxHeartbeats 4000000 in
theorem open_any (g : GT) (a : GA) (r : QT) (w : World) (hg : GR w a g) : Calls Tryz.prog 31 #[g.val a, r.val] w (Ret (openV g a r) w) := by
  have cG := fun W h => galleyErr_any g a W h
  have cQ := fun W => pRules_any r W
  have HE : Hid (openV g a r = if (chkG g).2 ≠ 0 then .tuple #[.agg #[.slice none 0 0, .slice none 0 0, .int .i64 0, .int .i64 0, .int .i64 0, .int .i64 0], .int .i64 (chkG g).2] else .tuple #[bkVal g a r, .int .i64 (chkQ r)]) := Lib.hid rfl
  have HG := Lib.hid hg; clear hg
  generalize openV g a r = V at *
  generalize (chkG g).2 = z at *
  generalize chkQ r = q at *
  unfold bkVal at HE
  unfold GT.val QT.val at *
  have CG := Lib.hid cG; have CQ := Lib.hid cQ; clear cG cQ
  by_cases hz : z = 0
  case neg =>
    have e0 : (z != 0) = true := by simpa using hz
    have HV : Hid (V = .tuple #[.agg #[.slice none 0 0, .slice none 0 0, .int .i64 0, .int .i64 0, .int .i64 0, .int .i64 0], .int .i64 z]) := Lib.hid (by rw [HE.out, if_pos hz])
    clear hz
    go_enter Tryz.func31, Tryz.ntmps31
    go_upto_region 3 with (first | (go_at_call 49; refine Calls.mono (CG.out _ ?_) ?_; (exact HG.out.ext (by repeat (first | exact Ext.refl _ | assumption | refine Ext.alloc ?_ _ | refine Ext.drew ?_ | refine Ext.drewN ?_ _ | (refine Ext.setCell ?_ (by simp <;> omega) _) | refine Ext.trans ?_ (by assumption)))); rintro e w1 ⟨rfl, hb⟩; have HBB := Lib.hid hb; have FB := Lib.hid ((Blk.new2 w _ _ _ #[.slice none 0 0, .slice none 0 0, .int .i64 0, .int .i64 0, .int .i64 0, .int .i64 0]).ext hb); have fl := FB.out.lt))
    refine wp_region_lit ?_
    iterate 6 go_step
    refine wpList_store_mid rfl 76 (.tmp 4) (.tmp 11) rfl (w.heap.size + 1 + 1) 0 #[.slice none 0 0, .slice none 0 0, .int .i64 0, .int .i64 0, .int .i64 0, .int .i64 0] rfl rfl (FB.out.there6) (by kernel_rfl) (by kernel_rfl) ?_
    have FB2 := Lib.hid (Blk.put6 (a' := .slice none 0 0) (b' := .slice none 0 0) (c' := .int .i64 0) (d' := .int .i64 0) (e' := .int .i64 0) (f' := .int .i64 0) FB.out)
    have HX2 : Hid (Ext w (w1.setCells (w.heap.size + 1 + 1) 0 [.slice none 0 0, .slice none 0 0, .int .i64 0, .int .i64 0, .int .i64 0, .int .i64 0])) := Lib.hid (Ext.setCells _ _ _ (Ext.trans (by repeat (first | exact Ext.refl _ | assumption | refine Ext.alloc ?_ _ | refine Ext.drew ?_ | refine Ext.drewN ?_ _ | (refine Ext.setCell ?_ (by simp <;> omega) _) | refine Ext.trans ?_ (by assumption))) HBB.out) (by omega))
    simp only
    generalize w1.setCells (w.heap.size + 1 + 1) 0 [.slice none 0 0, .slice none 0 0, .int .i64 0, .int .i64 0, .int .i64 0, .int .i64 0] = w2 at *
    obtain ⟨f0, f1, f2, f3, f4, f5, ff, _⟩ := FB2.out.c6
    go_wp2
    refine bodyPost_ret (v := .tuple #[.agg #[.slice none 0 0, .slice none 0 0, .int .i64 0, .int .i64 0, .int .i64 0, .int .i64 0], .int .i64 z]) (by simp [results, Tryz.results31, go_sem, f0, f1, f2, f3, f4, f5]) rfl (Ret.mk' (by rw [HV.out]) HX2.out)
  case pos =>
    subst hz
    have HV : Hid (V = .tuple #[.agg #[.slice a.A g.items.length a.c, .slice a.B g.notes.length a.d, .int .i64 r.height, .int .i64 r.gap, .int .i64 r.widow, .int .i64 r.orphan], .int .i64 q]) := Lib.hid (by rw [HE.out, if_neg (by simp)])
    go_enter Tryz.func31, Tryz.ntmps31
    go_upto_region 4 with (first | (go_at_call 49; refine Calls.mono (CG.out _ ?_) ?_; (exact HG.out.ext (by repeat (first | exact Ext.refl _ | assumption | refine Ext.alloc ?_ _ | refine Ext.drew ?_ | refine Ext.drewN ?_ _ | (refine Ext.setCell ?_ (by simp <;> omega) _) | refine Ext.trans ?_ (by assumption)))); rintro e w1 ⟨rfl, hb⟩; have HBB := Lib.hid hb; have FG := Lib.hid (((Blk.new w 49 #[.slice a.A g.items.length a.c, .slice a.B g.notes.length a.d]).alloc _).alloc _ |>.ext hb); have FQ := Lib.hid ((Blk.new1 w _ 52 #[.int .i64 r.height, .int .i64 r.gap, .int .i64 r.widow, .int .i64 r.orphan]).alloc _ |>.ext hb); have FB := Lib.hid ((Blk.new2 w _ _ _ #[.slice none 0 0, .slice none 0 0, .int .i64 0, .int .i64 0, .int .i64 0, .int .i64 0]).ext hb); have fl := FB.out.lt))
    have HOS : Hid (OpS w #[.slice a.A g.items.length a.c, .slice a.B g.notes.length a.d] #[.int .i64 r.height, .int .i64 r.gap, .int .i64 r.widow, .int .i64 r.orphan] w1) := Lib.hid ⟨Ext.trans (by repeat (first | exact Ext.refl _ | assumption | refine Ext.alloc ?_ _ | refine Ext.drew ?_ | refine Ext.drewN ?_ _ | (refine Ext.setCell ?_ (by simp <;> omega) _) | refine Ext.trans ?_ (by assumption))) HBB.out, FG.out, FQ.out, _, _, _, _, _, _, FB.out⟩
    refine wp_region_steadyF (OpS w #[.slice a.A g.items.length a.c, .slice a.B g.notes.length a.d] #[.int .i64 r.height, .int .i64 r.gap, .int .i64 r.widow, .int .i64 r.orphan]) (fun j W => j = 5 → Blk W (w.heap.size + 1 + 1) 76 #[.slice a.A g.items.length a.c, .slice a.B g.notes.length a.d, .int .i64 r.height, .int .i64 r.gap, .int .i64 r.widow, .int .i64 r.orphan]) [?_, ?_, ?_, ?_, ?_, ?_, ?_] (by kernel_rfl) (by kernel_rfl) rfl (HOS.out.next (Ext.refl _).drew) ?_ ?_
    rotate_left 7
    · skip
      refine StepsF.cons (fun W hW => ?_) ?_
      · obtain ⟨⟨q0, q1⟩, ⟨q2, q3, q4, q5⟩, qt, ql⟩ := hW.at; refine StepT.go rfl ?_; go_simp; first | (refine ⟨?_, hW, fun h => (by cases h), fun _ h => h⟩; rfl) | (refine Calls.mono (CQ.out _) ?_; rintro e w2 ⟨rfl, hb2⟩; refine ⟨?_, hW.next hb2, fun h => (by cases h), fun _ h hj => (h hj).ext hb2⟩; rfl)
      simp only [Act.put, List.setIfInBounds_toArray, List.set_cons_zero, List.set_cons_succ]
      refine StepsF.cons (fun W hW => ?_) ?_
      · obtain ⟨⟨q0, q1⟩, ⟨q2, q3, q4, q5⟩, qt, ql⟩ := hW.at; refine StepT.go rfl ?_; go_simp; first | (refine ⟨?_, hW, fun h => (by cases h), fun _ h => h⟩; rfl) | (refine Calls.mono (CQ.out _) ?_; rintro e w2 ⟨rfl, hb2⟩; refine ⟨?_, hW.next hb2, fun h => (by cases h), fun _ h hj => (h hj).ext hb2⟩; rfl)
      simp only [Act.put, List.setIfInBounds_toArray, List.set_cons_zero, List.set_cons_succ]
      refine StepsF.cons (fun W hW => ?_) ?_
      · obtain ⟨⟨q0, q1⟩, ⟨q2, q3, q4, q5⟩, qt, ql⟩ := hW.at; refine StepT.go rfl ?_; go_simp; first | (refine ⟨?_, hW, fun h => (by cases h), fun _ h => h⟩; rfl) | (refine Calls.mono (CQ.out _) ?_; rintro e w2 ⟨rfl, hb2⟩; refine ⟨?_, hW.next hb2, fun h => (by cases h), fun _ h hj => (h hj).ext hb2⟩; rfl)
      simp only [Act.put, List.setIfInBounds_toArray, List.set_cons_zero, List.set_cons_succ]
      refine StepsF.cons (fun W hW => ?_) ?_
      · obtain ⟨⟨q0, q1⟩, ⟨q2, q3, q4, q5⟩, qt, ql⟩ := hW.at; refine StepT.go rfl ?_; go_simp; first | (refine ⟨?_, hW, fun h => (by cases h), fun _ h => h⟩; rfl) | (refine Calls.mono (CQ.out _) ?_; rintro e w2 ⟨rfl, hb2⟩; refine ⟨?_, hW.next hb2, fun h => (by cases h), fun _ h hj => (h hj).ext hb2⟩; rfl)
      simp only [Act.put, List.setIfInBounds_toArray, List.set_cons_zero, List.set_cons_succ]
      refine StepsF.cons (fun W hW => ?_) ?_
      · obtain ⟨⟨q0, q1⟩, ⟨q2, q3, q4, q5⟩, qt, ql⟩ := hW.at; refine StepT.go rfl ?_; go_simp; first | (refine ⟨?_, hW, fun h => (by cases h), fun _ h => h⟩; rfl) | (refine Calls.mono (CQ.out _) ?_; rintro e w2 ⟨rfl, hb2⟩; refine ⟨?_, hW.next hb2, fun h => (by cases h), fun _ h hj => (h hj).ext hb2⟩; rfl)
      simp only [Act.put, List.setIfInBounds_toArray, List.set_cons_zero, List.set_cons_succ]
      refine StepsF.cons (fun W hW => ?_) ?_
      · obtain ⟨⟨q0, q1⟩, ⟨q2, q3, q4, q5⟩, qt, ql⟩ := hW.at
        refine StepT.store_mid rfl 76 (.tmp 4) (.tmp 15) rfl (w.heap.size + 1 + 1) 0 #[.slice a.A g.items.length a.c, .slice a.B g.notes.length a.d, .int .i64 r.height, .int .i64 r.gap, .int .i64 r.widow, .int .i64 r.orphan] rfl rfl qt (by kernel_rfl) (by kernel_rfl) ⟨hW.put.1, fun _ => hW.put.2, fun j h hj => hW.put.2⟩ ?_
        rfl
      simp only [Act.put]
      refine StepsF.cons (fun W hW => ?_) ?_
      · obtain ⟨⟨q0, q1⟩, ⟨q2, q3, q4, q5⟩, qt, ql⟩ := hW.at; refine StepT.go rfl ?_; go_simp; first | (refine ⟨?_, hW, fun h => (by cases h), fun _ h => h⟩; rfl) | (refine Calls.mono (CQ.out _) ?_; rintro e w2 ⟨rfl, hb2⟩; refine ⟨?_, hW.next hb2, fun h => (by cases h), fun _ h hj => (h hj).ext hb2⟩; rfl)
      simp only [Act.put, List.setIfInBounds_toArray, List.set_cons_zero, List.set_cons_succ]
      trivial
    intro W hW hF
    simp only [putAll, Act.put, List.setIfInBounds_toArray, List.set_cons_zero, List.set_cons_succ]
    obtain ⟨f0, f1, f2, f3, f4, f5, ff, _⟩ := (hF 5 (by decide) rfl).c6
    clear fl
    go_wp2
    refine bodyPost_ret (v := .tuple #[.agg #[.slice a.A g.items.length a.c, .slice a.B g.notes.length a.d, .int .i64 r.height, .int .i64 r.gap, .int .i64 r.widow, .int .i64 r.orphan], .int .i64 q]) (by simp [results, Tryz.results31, go_sem, f0, f1, f2, f3, f4, f5]) rfl (Ret.mk' (by rw [HV.out]) hW.ext)
end Go.Proofs.YtfbdklminljecaaGreatDoor
namespace Go.Proofs.YtfbdklminljecaaGreatDoor
open Go.RowKit

def usedByR (g : GT) (r : QT) (x y : Int) : Int × Int :=
  if bookErr g r ≠ 0 then (0, bookErr g r) else if pageB g.items.length x y = false then (0, 2) else if coreB g.items x.toNat y.toNat ≤ coreA g.items x.toNat y.toNat then (0, 0) else (usesR g r x.toNat y.toNat, 0)
def costOfR (g : GT) (r : QT) (x y : Int) : Int × Int :=
  if bookErr g r ≠ 0 then (0, bookErr g r) else if pageB g.items.length x y = false then (0, 2) else costR g r x.toNat y.toNat
def notesOnR (g : GT) (x y : Int) : List Int × Int :=
  if (chkG g).2 ≠ 0 then ([], (chkG g).2) else if pageB g.items.length x y = false then ([], 2) else (notesR g.items x.toNat (y.toNat - x.toNat), 0)
theorem pageB_true {n x y : Int} (h : pageB n x y = true) : 0 ≤ x ∧ x < y ∧ y ≤ n := by
  unfold pageB at h
  rw [Bool.and_eq_true, decide_eq_true_eq, decide_eq_true_eq] at h
  omega
theorem pageB_nat {n : Nat} {x y : Int} (h : pageB n x y = true) : ∃ a b : Nat, x = a ∧ y = b ∧ a < b ∧ b ≤ n := by
  have := pageB_true h
  exact ⟨x.toNat, y.toNat, by omega, by omega, by omega, by omega⟩
end Go.Proofs.YtfbdklminljecaaGreatDoor
namespace Go.Proofs.YtfbdklminljecaaGreatDoor
open Go.RowKit

theorem RetSE.nil {z : Int} {w w' : World} (h : Ext w w') : RetSE [] z w (.returned (.tuple #[.slice none 0 0, .int .i64 z])) w' := ⟨none, 0, rfl, SL.nil _ _, h⟩
end Go.Proofs.YtfbdklminljecaaGreatDoor
namespace Go.Proofs.YtfbdklminljecaaGreatDoor
open Go.RowKit Go.Shelf
theorem wide_fn (f : FuncId) : Fence.wide.fn f = True := rfl
theorem wide_depth : Fence.wide.depth = none := rfl
attribute [local go_sem] Oper.semAt_some wide_fn wide_depth

theorem Ext.grows {W W' : World} (h : Ext W W') : W.grownBy W' none := ⟨h.os, h.tape, h.output, h.size, fun _ hk _ => h.block hk⟩
/-- A page that begins at a and is possible. -/
abbrev PgT (cs : CS) (n a : Nat) := { t : Nat // a < t ∧ t ≤ n ∧ (cs a t).2 = 0 }
/-- The possible pages from a on, of the first k places. -/
def tosTo (cs : CS) (n a : Nat) : Nat → List (PgT cs n a)
  | 0 => []
  | k + 1 => if h : a + k + 1 ≤ n ∧ (cs a (a + k + 1)).2 = 0 then tosTo cs n a k ++ [⟨a + k + 1, by omega, h.1, h.2⟩] else tosTo cs n a k
theorem tosTo_len (cs : CS) (n a : Nat) : ∀ k, (tosTo cs n a k).length ≤ k
  | 0 => Nat.le_refl _
  | k + 1 => by
    unfold tosTo
    split
    · rw [List.length_append]; have := tosTo_len cs n a k; simp; omega
    · have := tosTo_len cs n a k; omega
theorem pages_any (g : GT) (p : GA) (r : QT) (a : Int) (w : World) :
    Calls Tryz.prog 34 #[bkVal g p r, .int .i64 a] w (fun e w' => e = .returned (.func (.func 52) #[] #[.pointer (some ⟨w.heap.size + 1, 0, none⟩), .pointer (some ⟨w.heap.size, 0, none⟩)]) ∧
      w' = (w.alloc (.cells #[.slice p.A g.items.length p.c, .slice p.B g.notes.length p.d, .int .i64 r.height, .int .i64 r.gap, .int .i64 r.widow, .int .i64 r.orphan] 76)).alloc (.cells #[.int .i64 a] 3)) := by
  unfold bkVal
  go_enter Tryz.func34, Tryz.ntmps34
  go_wp2
  go_ret
  exact ⟨rfl, rfl⟩
/-- What a round over the pages keeps. -/
def KpP (w0 : World) (bk bf : Nat) (W W' : World) : Prop := (Ext w0 W → Ext w0 W') ∧ W'.heap[bk]? = W.heap[bk]? ∧ W'.heap[bf]? = W.heap[bf]?
theorem KpP.trans {w0 : World} {bk bf : Nat} {X Y Z : World} (h : KpP w0 bk bf X Y) (k : KpP w0 bk bf Y Z) : KpP w0 bk bf X Z := ⟨fun e => k.1 (h.1 e), k.2.1.trans h.2.1, k.2.2.trans h.2.2⟩
theorem KpP.refl (w0 : World) (bk bf : Nat) (W : World) : KpP w0 bk bf W W := ⟨id, rfl, rfl⟩
theorem KpP.of_put {w0 w : World} {bk bf : Nat} (h0 : w0.heap.size ≤ w.heap.size) (h1 : bk < w.heap.size) (h2 : bf < w.heap.size) (W : World) (l : Nat) (o' : Obj) (hl : w.heap.size ≤ l) : KpP w0 bk bf W (W.putObj l o') :=
  ⟨fun e => Ext.grown e (grownBy_putObj' W l o') (fun k ek => by cases ek; omega), World.putObj_heap_other (by omega), World.putObj_heap_other (by omega)⟩
structure PgS (w0 : World) (g : GT) (p : GA) (r : QT) (a bk bf : Nat) (W : World) : Prop where
  ext : Ext w0 W
  bb : Blk W bk 76 #[.slice p.A g.items.length p.c, .slice p.B g.notes.length p.d, .int .i64 r.height, .int .i64 r.gap, .int .i64 r.widow, .int .i64 r.orphan]
  bfr : Blk W bf 3 #[.int .i64 a]
section
variable {w0 W W' : World} {g : GT} {p : GA} {r : QT} {a bk bf : Nat}
theorem PgS.ext' (h : PgS w0 g p r a bk bf W) (hx : Ext W W') : PgS w0 g p r a bk bf W' := ⟨h.ext.trans hx, h.bb.ext hx, h.bfr.ext hx⟩
theorem PgS.kp (h : PgS w0 g p r a bk bf W) (hk : KpP w0 bk bf W W') : PgS w0 g p r a bk bf W' := ⟨hk.1 h.ext, hk.2.1.trans h.bb, hk.2.2.trans h.bfr⟩
theorem PgS.at (h : PgS w0 g p r a bk bf W) : (W.cell? ⟨bk, 0, none⟩ = some (.slice p.A g.items.length p.c) ∧ W.cell? ⟨bk, 1, none⟩ = some (.slice p.B g.notes.length p.d) ∧ W.cell? ⟨bk, 2, none⟩ = some (.int .i64 r.height) ∧ W.cell? ⟨bk, 3, none⟩ = some (.int .i64 r.gap) ∧
    W.cell? ⟨bk, 4, none⟩ = some (.int .i64 r.widow) ∧ W.cell? ⟨bk, 5, none⟩ = some (.int .i64 r.orphan)) ∧ W.cell? ⟨bf, 0, none⟩ = some (.int .i64 a) ∧ bk < W.heap.size ∧ bf < W.heap.size :=
  ⟨⟨h.bb.cell 0 _ rfl, h.bb.cell 1 _ rfl, h.bb.cell 2 _ rfl, h.bb.cell 3 _ rfl, h.bb.cell 4 _ rfl, h.bb.cell 5 _ rfl⟩, h.bfr.cell 0 _ rfl, h.bb.lt, h.bfr.lt⟩
end
set_option maxRecDepth 100000 in
set_option maxHeartbeats 8000000 in
theorem pages1_stops (g : GT) (p : GA) (r : QT) (a bk bf n : Nat) (w0 w : World) (hn : 1 ≤ n) (hg : GR w0 p g) (ha : a < g.items.length) (hr : RightG g) (hq : chkQ r = 0) (hS : PgS w0 g p r a bk bf w) :
    SeqStopsK Fence.wide n Tryz.prog 52 #[.pointer (some ⟨bf, 0, none⟩), .pointer (some ⟨bk, 0, none⟩)] (fun x : PgT (costR g r) g.items.length a => #[.int .i64 (x.1 : Nat), .int .i64 (costR g r a x.1).1]) (KpP w0 bk bf)
      (fun xs => xs = tosTo (costR g r) g.items.length a (g.items.length - a)) (fun _ => True) (g.items.length + 1) w := fun l J Jx W hW hJ hJx hY h0 => by
  have cE := fun W => bookEnd_any g p r W
  have cC := fun W h b hb hb' => cost_any g p r a b W h hb hb' hr hq
  have hm := hr.many
  have HG := Lib.hid hg
  have hS0 := hS.ext' (hW : Ext w W)
  have HL := Lib.hid (tosTo_len (costR g r) g.items.length a)
  have HT : Hid (∀ k, tosTo (costR g r) g.items.length a (k + 1) = if h : a + k + 1 ≤ g.items.length ∧ (costR g r a (a + k + 1)).2 = 0 then tosTo (costR g r) g.items.length a k ++ [⟨a + k + 1, by omega, h.1, h.2⟩] else tosTo (costR g r) g.items.length a k) := Lib.hid fun _ => rfl
  have HJ := Lib.hid hJ; have HJX := Lib.hid hJx; have HY := Lib.hid hY
  have HS0 := Lib.hid hS0
  unfold costV at cC
  unfold bkVal at cE cC
  have CE := Lib.hid cE; have CC := Lib.hid cC
  clear hJ hJx hY cE cC hg hr hq hS hW hS0
  obtain ⟨⟨k0, k1, k2, k3, k4, k5⟩, kf, kl, kl2⟩ := HS0.out.at
  refine callsIn_of_wp Tryz.func52 rfl trivial ?_ rfl
  simp only [Tryz.ntmps52, List.size_toArray, List.length_cons, List.length_nil, Nat.reduceAdd, Nat.reduceSub, Array.replicate_succ, Array.replicate_zero, List.push_toArray, List.append_toArray, List.nil_append, List.cons_append]
  gi_wp2
  gi_loopw [4] (fun i wr => ∃ k : Nat, a + k ≤ g.items.length ∧ i = .int .i64 ((a : Int) + 1 + k) ∧ Hid (J (tosTo (costR g r) g.items.length a k) wr) ∧ Hid (PgS w0 g p r a bk bf wr)) (fun i _ => g.items.length + 1 - (intOf i).toNat)
  case atStart => exact ⟨0, by omega, by simp, Lib.hid h0, HS0⟩
  case round =>
    obtain ⟨k, hk, rfl, HJS, HS⟩ := hrel
    clear k0 k1 k2 k3 k4 k5 kf kl kl2 h0
    obtain ⟨⟨k0, k1, k2, k3, k4, k5⟩, kf, kl, kl2⟩ := HS.out.at
    by_cases hlt : a + k < g.items.length
    case neg =>
      obtain hke : k = g.items.length - a := by omega
      have HKE := Lib.hid hke; clear hke
      have h1 : (g.items.length : Int) < (a : Int) + 1 + k := by omega
      clear hlt
      gi_wp2_with (first | (gi_at_call 32; refine CallsIn.mono (callsIn_wide.2 (CE.out _)) ?_; rintro e w1 ⟨rfl, hb⟩))
      go_end0
      refine ⟨⟨_, rfl⟩, .inl ⟨_, rfl, ?_⟩⟩
      rw [← HKE.out]
      exact HJ.out _ _ _ none HJS.out (Ext.grows (Ext.trans (by repeat (first | exact Ext.refl _ | assumption | refine Ext.alloc ?_ _ | refine Ext.drew ?_ | refine Ext.drewN ?_ _ | (refine Ext.setCell ?_ (by simp <;> omega) _) | refine Ext.trans ?_ (by assumption))) hb)) (fun _ e => by cases e)
    case pos =>
      have h1 : ((a : Int) + 1 + k ≤ (g.items.length : Int)) := by omega
      have h2 : IntKind.i64.wrap ((a : Int) + 1 + k + 1) = (a : Int) + 1 + ((k + 1 : Nat) : Int) := by rw [IntWalk.i64_in _ (by omega)]; omega
      have h3 : ((a + k + 1 : Nat) : Int) = (a : Int) + 1 + k := by omega
      have hTk := HT.out k
      have cK := fun W h => CC.out W h (a + k + 1) (by omega) (by omega)
      rw [h3] at cK
      have CK := Lib.hid cK; clear cK h3
      have hlk := HL.out k
      by_cases hz : (costR g r a (a + k + 1)).2 = 0
      case neg =>
        rw [dif_neg (fun h => hz h.2)] at hTk
        have HTK := Lib.hid hTk; clear hTk
        have e0 : ((costR g r a (a + k + 1)).2 == 0) = false := by simpa using hz
        generalize costR g r a (a + k + 1) = V at *
        clear hz hlk
        gi_wp2_with (first | (gi_at_call 32; refine CallsIn.mono (callsIn_wide.2 (CE.out _)) ?_; rintro e w1 ⟨rfl, hb1⟩; have HW1 : Hid (Ext wr w1) := Lib.hid hb1; have HS1 := Lib.hid (HS.out.ext' HW1.out); obtain ⟨⟨b0, b1, b2, b3, b4, b5⟩, bf0, bl, bl2⟩ := HS1.out.at) | (gi_at_call 53; refine CallsIn.mono (callsIn_wide.2 (CK.out _ ?_)) ?_; (exact HG.out.ext (HS1.out.ext.trans (by repeat (first | exact Ext.refl _ | assumption | refine Ext.alloc ?_ _ | refine Ext.drew ?_ | refine Ext.drewN ?_ _ | (refine Ext.setCell ?_ (by simp <;> omega) _) | refine Ext.trans ?_ (by assumption))))); rintro e w2 ⟨rfl, hb2⟩))
        go_roundw
        case rel => exact ⟨k + 1, by omega, rfl, Lib.hid (by rw [HTK.out]; exact HJ.out _ _ _ none HJS.out (Ext.grows (HW1.out.trans (Ext.trans (by repeat (first | exact Ext.refl _ | assumption | refine Ext.alloc ?_ _ | refine Ext.drew ?_ | refine Ext.drewN ?_ _ | (refine Ext.setCell ?_ (by simp <;> omega) _) | refine Ext.trans ?_ (by assumption))) hb2))) (fun _ e => by cases e)), Lib.hid (HS1.out.ext' (Ext.trans (by repeat (first | exact Ext.refl _ | assumption | refine Ext.alloc ?_ _ | refine Ext.drew ?_ | refine Ext.drewN ?_ _ | (refine Ext.setCell ?_ (by simp <;> omega) _) | refine Ext.trans ?_ (by assumption))) hb2))⟩
        case measure => show g.items.length + 1 - ((a : Int) + 1 + ((k : Int) + 1)).toNat < g.items.length + 1 - ((a : Int) + 1 + (k : Int)).toNat; omega
      case pos =>
        have hdt : a + k + 1 ≤ g.items.length ∧ (costR g r a (a + k + 1)).2 = 0 := ⟨by omega, hz⟩
        rw [dif_pos hdt] at hTk
        have HTK := Lib.hid hTk; clear hTk
        have e0 : ((costR g r a (a + k + 1)).2 == 0) = true := by simpa using hz
        have h3 : ((a + k + 1 : Nat) : Int) = (a : Int) + 1 + k := by omega
        have hlt2 : (tosTo (costR g r) g.items.length a k).length < g.items.length + 1 := by omega
        have HLT := Lib.hid hlt2
        have HDT := Lib.hid hdt
        have H3 := Lib.hid h3
        clear hz hlk hlt2 h3
        gi_wp2_with (first | (gi_at_call 32; refine CallsIn.mono (callsIn_wide.2 (CE.out _)) ?_; rintro e w1 ⟨rfl, hb1⟩; have HW1 : Hid (Ext wr w1) := Lib.hid hb1; have HS1 := Lib.hid (HS.out.ext' HW1.out); obtain ⟨⟨b0, b1, b2, b3, b4, b5⟩, bf0, bl, bl2⟩ := HS1.out.at) | (gi_at_call 53; refine CallsIn.mono (callsIn_wide.2 (CK.out _ ?_)) ?_; (exact HG.out.ext (HS1.out.ext.trans (by repeat (first | exact Ext.refl _ | assumption | refine Ext.alloc ?_ _ | refine Ext.drew ?_ | refine Ext.drewN ?_ _ | (refine Ext.setCell ?_ (by simp <;> omega) _) | refine Ext.trans ?_ (by assumption))))); rintro e w2 ⟨rfl, hb2⟩; have HJ2 := Lib.hid (HJ.out _ _ _ none HJS.out (Ext.grows (HW1.out.trans (Ext.trans (by repeat (first | exact Ext.refl _ | assumption | refine Ext.alloc ?_ _ | refine Ext.drew ?_ | refine Ext.drewN ?_ _ | (refine Ext.setCell ?_ (by simp <;> omega) _) | refine Ext.trans ?_ (by assumption))) hb2))) (fun _ e => by cases e)); have HS2 := Lib.hid (HS1.out.ext' (Ext.trans (by repeat (first | exact Ext.refl _ | assumption | refine Ext.alloc ?_ _ | refine Ext.drew ?_ | refine Ext.drewN ?_ _ | (refine Ext.setCell ?_ (by simp <;> omega) _) | refine Ext.trans ?_ (by assumption))) hb2)); obtain ⟨fn, tmps, assign, body, hy, hR⟩ := HY.out _ ⟨a + k + 1, by omega, HDT.out.1, HDT.out.2⟩ w2 HJ2.out HLT.out; simp only [H3.out] at hy; have HR := Lib.hid hR; clear hR))
        refine HR.out.mono ?_
        rintro e W3 (⟨rfl, hJ3, hk3⟩ | ⟨rfl, hJx3⟩)
        · rw [← HTK.out] at hJ3
          have HJ3 := Lib.hid hJ3; have HS3 := Lib.hid (HS2.out.kp hk3); clear hJ3 hk3
          gi_wp2
          go_roundw
          case rel => exact ⟨k + 1, by omega, rfl, HJ3, HS3⟩
          case measure => show g.items.length + 1 - ((a : Int) + 1 + ((k : Int) + 1)).toNat < g.items.length + 1 - ((a : Int) + 1 + (k : Int)).toNat; omega
        · gi_wp2
          refine bodyPost_ret (results_none rfl _ _ _) rfl ?_
          exact ⟨⟨_, rfl⟩, .inr ⟨_, trivial, hJx3⟩⟩
end Go.Proofs.YtfbdklminljecaaGreatDoor
namespace Go.Proofs.YtfbdklminljecaaGreatDoor
open Go.RowKit

/-- m times z, then 0, n in all. -/
def mrow (z : Int) (n m : Nat) : Array Value := (List.replicate m (Value.int .i64 z) ++ List.replicate (n - m) (Value.int .i64 0)).toArray
theorem mrow_zero (z : Int) (n : Nat) : mrow z n 0 = Array.replicate n (Value.int .i64 0) := by unfold mrow; simp
theorem mrow_size {z : Int} {n m : Nat} (h : m ≤ n) : (mrow z n m).size = n := by unfold mrow; simp; omega
theorem mrow_all (z : Int) (n : Nat) : mrow z n n = (List.replicate n (Value.int .i64 z)).toArray := by unfold mrow; simp
theorem mrow_next {z : Int} {n m k : Nat} : ((mrow z n m).toList.take m ++ List.replicate k (Value.int .i64 z) ++ (mrow z n m).toList.drop (m + k)).toArray = mrow z n (m + k) := by
  unfold mrow
  simp only
  rw [List.take_append_of_le_length (by simp), List.take_of_length_le (by simp), List.drop_append]
  simp only [List.length_replicate, List.drop_replicate]
  rw [show m - (m + k) = 0 by omega, show m + k - m = k by omega, List.replicate_zero, List.nil_append, show n - m - k = n - (m + k) by omega, ← List.replicate_append_replicate]
theorem Ext.row {a b : World} {g : Nat} (h : Ext a b) (hg : a.heap.size ≤ g) (cs : Array Value) : Ext a (b.setRow g cs) := below_setRow h hg cs
def RetRep (z : Int) (n : Nat) (w : World) (e : Ending) (w' : World) : Prop := e = .returned (.slice (some ⟨w.heap.size, 0, none⟩) n n) ∧ Blk w' w.heap.size 3 (List.replicate n (Value.int .i64 z)).toArray ∧ Ext w w'
theorem copy_first (z : Int) (g0 o0 c0 n s : Nat) (W : World) (hb : Blk W s 3 (mrow z n 0)) (hc : W.cell? ⟨g0, o0, none⟩ = some (.int .i64 z)) (hn : 1 ≤ n) (ty : TypeId) :
    (Builtin.copy_ #[25, 25] ty #[.slice (some ⟨s, 0, none⟩) n n, .slice (some ⟨g0, o0, none⟩) 1 c0]).run Tryz.prog W = .ok (goInt 1) (W.setRow s (mrow z n 1)) := by
  have := run_copy_row Tryz.prog W 25 25 ty 3 s 0 n n ⟨g0, o0, none⟩ 1 c0 (mrow z n 0) 3 [.int .i64 z] (by kernel_rfl) (by kernel_rfl) hb (by show 1 = min 1 n; omega)
    (fun j v hj => by
      match j with
      | 0 =>
        simp at hj; subst hj
        have e : (⟨g0, o0, none⟩ : Addr).add 0 = ⟨g0, o0, none⟩ := by unfold Addr.add; split <;> simp_all
        rw [e]; exact hc
      | j + 1 => simp at hj) (by rw [mrow_size (by omega)]; simp; omega) (fun v hv => by simp at hv; subst hv; rfl)
  have h : ((mrow z n 0).toList.take 0 ++ [Value.int .i64 z] ++ (mrow z n 0).toList.drop (0 + 1)).toArray = mrow z n 1 := mrow_next (z := z) (n := n) (m := 0) (k := 1)
  rw [this, ← h]
  rfl
theorem copy_more (z : Int) (n m k s : Nat) (w : World) (hb : Blk w s 3 (mrow z n m)) (hk : k = min m (n - m)) (hm : m < n) (ty : TypeId) :
    (Builtin.copy_ #[25, 25] ty #[.slice (some ⟨s, m, none⟩) (n - m) (n - m), .slice (some ⟨s, 0, none⟩) m n]).run Tryz.prog w = .ok (goInt k) (w.setRow s (mrow z n (m + k))) := by
  have := run_copy_row Tryz.prog w 25 25 ty 3 s m (n - m) (n - m) ⟨s, 0, none⟩ m n (mrow z n m) 3 (List.replicate k (.int .i64 z)) (by kernel_rfl) (by kernel_rfl) hb (by simp only [List.length_replicate]; exact hk)
    (fun j v hj => by
      rw [List.getElem?_replicate] at hj
      split at hj
      · cases hj
        have e : (⟨s, 0, none⟩ : Addr).add j = ⟨s, j, none⟩ := by unfold Addr.add; split <;> simp_all
        rw [e]
        refine hb.cell j _ ?_
        unfold mrow
        rw [List.getElem?_toArray, List.getElem?_append_left (by simp; omega), List.getElem?_replicate, if_pos (by omega)]
      · cases hj) (by rw [mrow_size (by omega)]; simp; omega) (fun v hv => by rw [List.mem_replicate] at hv; rw [hv.2]; rfl)
  rw [this]
  simp only [List.length_replicate]
  rw [mrow_next]
theorem Blk.row {w : World} {g : Nat} {t : TypeId} {cs : Array Value} (h : Blk w g t cs) (cs' : Array Value) : Blk (w.setRow g cs') g t cs' := setRow_heap w g cs cs' t (0, 0) h
/-- A new row of zeros, cell by cell. -/
theorem zeros_blk {W : World} {s n : Nat} (h : Own W s (.slice (some ⟨s, 0, none⟩) (List.replicate n (0 : Int)).length n) (List.replicate n 0)) : Blk W s 3 (Array.replicate n (.int .i64 0)) := by
  unfold Own at h
  rw [List.length_replicate] at h
  rcases h.2 with ⟨h1, _⟩ | ⟨g, cap, cur, hv, _, hg, _, _, hz, ht⟩
  · cases h1
  · injection hv with e1 _ e3
    injection e1 with e1
    injection e1 with e1
    subst e1 e3
    unfold Blk
    rw [hg]
    have h5 : cur.toList = List.replicate n (Value.int .i64 0) := by
      rw [List.take_of_length_le (by rw [Array.length_toList, hz]; exact Nat.le_refl _), List.map_replicate] at ht
      exact ht
    have h6 : cur = (List.replicate n (Value.int .i64 0)).toArray := by rw [← h5]
    rw [h6]
    simp
set_option maxRecDepth 100000 in
set_option maxHeartbeats 4000000 in
theorem repeat1_any (z : Int) (g0 o0 c0 n : Nat) (w : World) (hc : w.cell? ⟨g0, o0, none⟩ = some (.int .i64 z)) (hg : g0 < w.heap.size) (hn : 1 ≤ n) (hn2 : n ≤ 1000) :
    Calls Tryz.prog 33 #[.slice (some ⟨g0, o0, none⟩) 1 c0, .int .i64 n] w (RetRep z n w) := by
  have cM := Tryz.bits_Mul 1 n (by omega) (by omega)
  rw [Nat.one_mul, Nat.div_eq_of_lt (by omega), Nat.mod_eq_of_lt (by omega)] at cM
  have CM := Lib.hid cM; clear cM
  have h0 : ¬ (n : Int) < 0 := by omega
  have h1 : ¬ (9223372036854775807 : Int) < (n : Int) := by omega
  have HC := Lib.hid hc; clear hc
  go_enter Tryz.func33, Tryz.ntmps33
  go_wp2_with (first | (go_at_call 51; refine Calls.mono (CM.out _) ?_; rintro e w1 ⟨rfl, rfl⟩) | (at_make; go_loud (refine list_makeI rfl (.tmp 29) (.tmp 29) rfl n rfl rfl (by omega) ?_; intro W2 hS hx hlt; have hb0 := zeros_blk hS.own; rw [← mrow_zero z n] at hb0; have hcp := copy_first z g0 o0 c0 n _ W2 hb0 ((hx.cell (p := ⟨g0, o0, none⟩) hg).trans HC.out) hn; have HB := Lib.hid (hb0.row (mrow z n 1)); have HX := Lib.hid (hx.row (Nat.le_refl _) (mrow z n 1)); clear hS hx hb0)))
  go_loopw [8] (fun v wr => ∃ m : Nat, 1 ≤ m ∧ m ≤ n ∧ v = .int .i64 (m : Int) ∧ Hid (Blk wr w1.heap.size 3 (mrow z n m)) ∧ Hid (Ext w1 wr)) (fun v _ => n - (intOf v).toNat)
  case atStart => exact ⟨1, Nat.le_refl _, hn, rfl, HB, HX⟩
  case round =>
    obtain ⟨m, hm1, hm2, rfl, HB1, HX1⟩ := hrel
    by_cases hlt : m < n
    case neg =>
      obtain rfl : m = n := by omega
      go_wp2
      go_ret
      refine ⟨rfl, ?_, HX1.out⟩
      rw [← mrow_all]; exact HB1.out
    case pos =>
      obtain ⟨k, hk⟩ : ∃ k, k = min m (n - m) := ⟨_, rfl⟩
      have hcm := copy_more z n m k w1.heap.size wr.drew HB1.out.drew hk hlt
      have HB2 := Lib.hid (HB1.out.drew.row (mrow z n (m + k)))
      have HX2 := Lib.hid (HX1.out.drew.row (Nat.le_refl _) (mrow z n (m + k)))
      have h3 : ((n : Int) - (m : Int)).toNat = n - m := by omega
      have hk1 : 1 ≤ k ∧ m + k ≤ n := by omega
      have hl : (m : Int) < (n : Int) := by omega
      clear hk
      have h4 : IntKind.i64.wrap ((m : Int) + (k : Int)) = ((m + k : Nat) : Int) := by rw [IntWalk.i64_in _ (by omega)]; omega
      have h5 : ¬ n = m := by omega
      go_wp2
      go_region
      go_wp2
      go_roundw
      case rel => exact ⟨m + k, by omega, by omega, by first | rw [h4] | rfl, HB2, HX2⟩
      case measure => (try rw [h4]); show n - ((m + k : Nat) : Int).toNat < n - (m : Int).toNat; omega
end Go.Proofs.YtfbdklminljecaaGreatDoor
namespace Go.Proofs.YtfbdklminljecaaGreatDoor
open Go.RowKit

/-- Marks: block D has no call. -/
def mk (D : Nat) : Deferred := { target := .collected D, args := #[] }
/-- Marks at Ds, apart from each other, in blocks from n0 on. -/
def Marks (n0 : Nat) (Ds : List Nat) (w : World) : Prop := Ds.Pairwise (· ≠ ·) ∧ ∀ D, D ∈ Ds → n0 ≤ D ∧ D < w.heap.size ∧ w.heap[D]? = some (.deferred (some []))
theorem Marks.nil (n0 : Nat) (w : World) : Marks n0 [] w := ⟨.nil, fun _ h => by cases h⟩
theorem Marks.cons {n0 D : Nat} {Ds : List Nat} {w : World} (h : Marks n0 Ds w) (hD : w.heap[D]? = some (.deferred (some []))) (h0 : n0 ≤ D) (hn : ∀ E, E ∈ Ds → E < D) : Marks n0 (D :: Ds) w :=
  ⟨.cons (fun E hE => by have := hn E hE; omega) h.1, fun E hE => by
    rcases List.mem_cons.1 hE with rfl | h1
    · exact ⟨h0, (Array.getElem?_eq_some_iff.1 hD).1, hD⟩
    · exact h.2 E h1⟩
theorem Marks.ext {n0 : Nat} {Ds : List Nat} {w w' : World} (h : Marks n0 Ds w) (hx : Ext w w') : Marks n0 Ds w' :=
  ⟨h.1, fun D hD => by obtain ⟨h1, h2, h3⟩ := h.2 D hD; have := hx.size; exact ⟨h1, by omega, (hx.block h2).trans h3⟩⟩
/-- It lies on where blocks from B on turn alone. -/
theorem Marks.own {α : Type} (n0 B : Nat) (Ds : List Nat) (hB : ∀ D, D ∈ Ds → D < B) : OwnFrom B (fun (_ : α) W => Marks n0 Ds W) := fun _ X Y row hs hg hr =>
  ⟨hs.1, fun D hD => by
    obtain ⟨h1, h2, h3⟩ := hs.2 D hD
    have h4 := hg.size
    refine ⟨h1, by omega, (hg.block D h2 (fun e => ?_)).trans h3⟩
    have := (hr D e.symm).1; have := hB D hD; omega⟩
/-- Whatever are cells lies on. -/
structure CellsOn (w w' : World) : Prop where
  size : w.heap.size ≤ w'.heap.size
  same : ∀ (k : Nat) (cs : Array Value) (t : TypeId) (fr : Nat × Nat), w.heap[k]? = some (Obj.cells cs t fr) → w'.heap[k]? = some (Obj.cells cs t fr)
theorem CellsOn.refl (w : World) : CellsOn w w := ⟨Nat.le_refl _, fun _ _ _ _ h => h⟩
theorem CellsOn.trans {a b c : World} (h : CellsOn a b) (k : CellsOn b c) : CellsOn a c := ⟨Nat.le_trans h.size k.size, fun i cs t fr hi => k.same i cs t fr (h.same i cs t fr hi)⟩
theorem CellsOn.cell {w w' : World} {b o : Nat} {v : Value} (h : CellsOn w w') (hc : w.cell? ⟨b, o, none⟩ = some v) : w'.cell? ⟨b, o, none⟩ = some v := by
  unfold World.cell? at hc ⊢
  cases hb : w.heap[b]? with
  | none => simp [hb] at hc
  | some ob =>
    cases ob with
    | cells cs t fr =>
      have := h.same b cs t fr hb
      simp only [hb] at hc
      simp only [this]
      exact hc
    | _ => simp [hb] at hc
theorem CellsOn.ri {w w' : World} {A : Option Addr} {n : Nat} {zs : List Int} (h : CellsOn w w') (hr : RI w A n zs) : RI w' A n zs :=
  ⟨hr.1, hr.2.1, fun hn => let ⟨b, off, ha, hb, hc⟩ := hr.2.2 hn; ⟨b, off, ha, Nat.lt_of_lt_of_le hb h.size, fun k hk => h.cell (hc k hk)⟩⟩
/-- Out through the marks. -/
theorem leaves_marks {F : Fence} {n : Nat} {P : Program} {fn : Func} {tmps : Array Value} {R : Ending → World → Prop} {n0 : Nat} : ∀ (Ds : List Nat) (w : World), Marks n0 Ds w →
    (∀ w', Below n0 w w' → CellsOn w w' → ∃ v, (results fn tmps).run P w' = .ok v w' ∧ R (.returned v) w') → LeavesInM F n P fn tmps R (Ds.map mk) .returning w
  | [], w, _, h => by
    obtain ⟨v, h1, h2⟩ := h w (Below.refl _ _) (CellsOn.refl _)
    exact ⟨v, h1, h2⟩
  | D :: Ds, w, hm, h => by
    obtain ⟨h0, h1, h2⟩ := hm.2 D (.head _)
    obtain ⟨hne, hpw⟩ := List.pairwise_cons.1 hm.1
    refine ⟨by simp, .inl ⟨D, _, rfl, run_takeDeferred h2, leaves_marks (n0 := n0) Ds _ ⟨hpw, fun E hE => ?_⟩ fun w' hw' hc' => ?_⟩⟩
    · obtain ⟨g0, g1, g2⟩ := hm.2 E (.tail _ hE)
      exact ⟨g0, by simpa using g1, (World.putObj_heap_other (fun e => hne E hE e.symm)).trans g2⟩
    · refine h w' (Below.trans ?_ hw') (CellsOn.trans ⟨by simp, fun k cs t fr hk => ?_⟩ hc')
      · exact (Below.refl n0 w).grown (grownBy_putObj' w D _) (by omega) (fun k e => by cases e; omega)
      · exact (World.putObj_heap_other (fun e => by subst e; rw [h2] at hk; cases hk)).trans hk
/-- A frame's slots T, those that the mask names as U has them. -/
def over : List Bool → (Nat → Value) → Nat → List Value → List Value
  | true :: m, U, i, _ :: T => U i :: over m U (i + 1) T
  | false :: m, U, i, v :: T => v :: over m U (i + 1) T
  | _, _, _, T => T
/-- A loop whose rounds may leave marks. -/
theorem wp_loop_m {P : Program} {c : Code} {Q : Exit → Act → World → Prop} {w : World} (ds : List Bool) (s : Nat) (rel : (Nat → Value) → List Nat → World → Prop) (f : Value → Nat) {T : List Value} (Ds0 : List Nat)
    (hT : over ds (fun i => T.toArray.getD i undef) 0 T = T) (h0 : rel (fun i => T.toArray.getD i undef) Ds0 w)
    (round : ∀ U Ds w, rel U Ds w → c.wp P (Exit.then (fun a' w' => ∃ Ds', a'.defers = List.map mk Ds' ∧ a'.tmps = (over ds (fun i => a'.tmps.getD i undef) 0 T).toArray ∧ rel (fun i => a'.tmps.getD i undef) Ds' w' ∧ f (a'.tmps.getD s undef) < f (U s)) Q) ⟨(over ds U 0 T).toArray, List.map mk Ds⟩ w) :
    (Code.loop c).wp P Q ⟨T.toArray, List.map mk Ds0⟩ w := by
  refine wp_loop (fun a w => ∃ Ds, a.defers = List.map mk Ds ∧ a.tmps = (over ds (fun i => a.tmps.getD i undef) 0 T).toArray ∧ rel (fun i => a.tmps.getD i undef) Ds w) (fun a _ => f (a.tmps.getD s undef)) ⟨Ds0, rfl, by simp only; rw [hT], h0⟩ ?_
  rintro ⟨t, d⟩ w ⟨Ds, h1, h2, h3⟩
  simp only at h1 h2 h3
  have := round (fun i => t.getD i undef) Ds w h3
  rw [h1, h2]
  rw [← h2]
  rw [← h2] at this
  refine Code.wp_mono (fun e a w q => ?_) this
  cases e with
  | normal => obtain ⟨Ds', q1, q2, q3, q4⟩ := q; exact ⟨⟨Ds', q1, q2, q3⟩, q4⟩
  | _ => exact q
end Go.Proofs.YtfbdklminljecaaGreatDoor
namespace Go.Proofs.YtfbdklminljecaaGreatDoor
open Go.RowKit

/-- No operation defers a call. -/
def noDefer (l : List Oper) : Bool := l.all fun o => match o.op with | .defer _ => false | _ => true
theorem noDefer_at {l : List Oper} (h : noDefer l = true) {i : Nat} {o : Oper} (hi : l[i]? = some o) : ∀ c, o.op ≠ .defer c := fun c e => by
  have := List.all_eq_true.1 h o (List.mem_of_getElem? hi)
  rw [e] at this
  cases this
section
variable {F : Fence} {n : Nat} {P : Program} {ops : Array Oper}
/-- Any order: by an invariant. -/
theorem wpAnyIn_inv {Q : Exit → Act → World → Prop} (J : Array Bool → Act → World → Prop) (hsz : ∀ L a W, J L a W → L.size = ops.size)
    (hstep : ∀ L a W i, J L a W → i ∈ Region.ready .any ops L → wpOpIn F n P ops Q i (J (L.setIfInBounds i true)) a W)
    (hdone : ∀ L a W, J L a W → Region.ready .any ops L = [] → Q .normal a W) : ∀ fuel L a W, J L a W → L.toList.count false ≤ fuel → wpAnyIn F n P .any ops Q fuel L a W
  | 0, L, a, W, hJ, hc => by
    have hr : Region.ready .any ops L = [] := by
      rw [List.eq_nil_iff_forall_not_mem]
      intro i hi
      unfold Region.ready at hi
      simp only [List.mem_filter, List.mem_range, Bool.and_eq_true, Bool.not_eq_true'] at hi
      have h0 : L.toList.count false = 0 := by omega
      rw [List.count_eq_zero] at h0
      have hlt : i < L.size := by rw [hsz L a W hJ]; exact hi.1
      have h2 := hi.2.1
      rw [Array.getD_eq_getD_getElem?, Array.getElem?_eq_getElem hlt, Option.getD_some] at h2
      exact h0 (by rw [← h2]; simp)
    exact ⟨hr, hdone L a W hJ hr⟩
  | fuel + 1, L, a, W, hJ, hc => by
    refine ⟨fun hr => hdone L a W hJ hr, fun i hi => ?_⟩
    refine wpOpIn_mono (fun a' W' hJ' => wpAnyIn_inv J hsz hstep hdone fuel _ a' W' hJ' ?_) (hstep L a W i hJ hi)
    unfold Region.ready at hi
    simp only [List.mem_filter, List.mem_range, Bool.and_eq_true, Bool.not_eq_true'] at hi
    have hlt : i < L.size := by rw [hsz L a W hJ]; exact hi.1
    have h2 := hi.2.1
    rw [Array.getD_eq_getD_getElem?, Array.getElem?_eq_getElem hlt, Option.getD_some] at h2
    have hmem : 0 < L.toList.count false := by
      rw [List.count_pos_iff]
      rw [← h2]; simp
    rw [Array.toList_setIfInBounds, List.count_set (by simpa using hlt)]
    have h3 : L.toList[i]'(by simpa using hlt) = false := by simpa using h2
    rw [h3, if_pos (by rfl), if_neg (by decide)]
    omega
end
section
variable {P : Program} {S : World → Prop} {l : List Oper} {a a0 : Act} {W : World}
theorem StepT.wpOpIn {ops : Array Oper} {Q : Exit → Act → World → Prop} {aT : Act} {i l0 n : Nat} {o : Oper} {v : Value} {K : Act → World → Prop} (hi : ops[i]? = some o) (hnd : ∀ c, o.op ≠ .defer c) (h : StepT P ops S aT o v W) (he : execOp a.eval o = execOp aT.eval o)
    (hw : Region.wanted o (yielded ops a.tmps) = Region.wanted o (yielded ops aT.tmps)) (hK : ∀ W', S W' → K (a.put o.dst v) W') : Go.wpOpIn (Fence.wide.inRound l0) n P ops Q i K a W := by
  unfold Go.wpOpIn
  simp only [hi]
  unfold StepT at h
  rw [← hw] at h
  split
  · rename_i hwt
    rw [if_pos hwt] at h
    refine ⟨fun _ _ => trivial, ?_⟩
    show o.uponIn _ n P a K Q ((o.semAt (some l0) a.eval).run P W)
    rw [Oper.semAt_eq _ _ _ hnd, he]
    generalize (execOp aT.eval o).run P W = r at *
    cases r with
    | ok m w' =>
      cases m with
      | value u => obtain ⟨rfl, hS'⟩ := h; exact hK _ hS'
      | skip => obtain ⟨rfl, hS'⟩ := h; exact hK _ hS'
      | enter f args =>
        refine ⟨fun e => (by cases e), (CallsIn.inRound l0 (callsIn_wide.2 h)).mono fun e w'' he => ?_⟩
        obtain ⟨rfl, hS'⟩ := he
        exact hK _ hS'
      | _ => exact h.elim
    | halt x w' => exact h.elim
  · rename_i hwf
    rw [if_neg hwf] at h
    obtain ⟨rfl, hS⟩ := h
    exact ⟨fun _ _ => trivial, hK _ hS⟩
/-- **A region whose operations keep S, carried out in the order of the text, is carried out**; F i: what operation i leaves behind. -/
theorem wpIn_region_steadyF {id l0 n : Nat} {w : World} {Q : Exit → Act → World → Prop} (S : World → Prop) (F : Nat → World → Prop) (V : List Value) (hm : P.follows .mixedOrders = true) (hok : steadyOk l = true) (hnd : noDefer l = true) (hlen : V.length = l.length)
    (hS : S { w with drawn := w.drawn + 1 }) (hsteps : StepsF P l.toArray S F 0 l V a0) (hQ : ∀ W, S W → (∀ j, j < l.length → F j W) → Q .normal (putAll l V a0) W) : (Code.region id l.toArray true).wpIn (Fence.wide.inRound l0) n P Q a0 w := by
  refine wpIn_region_any hm ?_
  refine wpAnyIn_inv (SteadyJ l V a0 S F) (fun L a W h => by rw [h.size]; simp) (fun L a W i h hi => ?_) (fun L a W h hr => ?_) _ _ _ _
    ⟨by simp, fun i o hi hL => ?_, hS, fun j hj hL => ?_, rfl, rfl, fun t _ => rfl, fun j o v t hj _ _ hL => ?_⟩ ?_
  · unfold Region.ready at hi
    simp only [List.mem_filter, List.mem_range, Bool.and_eq_true, Bool.not_eq_true'] at hi
    obtain ⟨hlt, hun, hrd⟩ := hi
    have hil : i < l.length := by simpa using hlt
    obtain ⟨o, ho⟩ : ∃ o, l[i]? = some o := ⟨_, List.getElem?_eq_getElem hil⟩
    have hoa : l.toArray[i]? = some o := by simpa using ho
    rw [hoa] at hrd
    simp only [Option.map_some, Option.getD_some, Array.all_eq_true'] at hrd
    have hrdy : ∀ k ∈ dirOf o, L.getD k true = true := fun k hk => by
      unfold dirOf at hk
      obtain ⟨e, he, rfl⟩ := List.mem_map.1 hk
      obtain ⟨he1, he2⟩ := List.mem_filter.1 he
      have h1 := hrd e (by simpa using he1)
      rw [he2] at h1
      simp only [Bool.not_true, Bool.false_or] at h1
      have hk2 := (steadyOk_at hok ho).2.1 e.on hk
      rw [Array.getD_eq_getD_getElem?] at h1 ⊢
      rw [Array.getElem?_eq_getElem (by rw [h.size]; omega)] at h1 ⊢
      exact h1
    obtain ⟨v, hv, hst⟩ := hsteps.at i o ho
    have hlook := h.looks hok hlen ho hun hrdy
    rw [Nat.zero_add] at hst
    refine StepT.wpOpIn hoa (noDefer_at hnd ho) (hst W h.st) ?_ ?_ (fun W' hS' => h.put hok ho hv hun hrdy hS')
    · refine execOp_congr o (fun cs b e => ?_) (fun x hx => ?_)
      · have := (steadyOk_at hok ho).1
        rw [e] at this
        cases this
      · cases x with
        | tmp t =>
          have := hlook t (by unfold Oper.looksAt; exact List.mem_append_left _ (List.mem_filterMap.2 ⟨.tmp t, by simpa using hx, rfl⟩))
          show a.tmps.getD t undef = (stateAt l V a0 i).tmps.getD t undef
          rw [Array.getD_eq_getD_getElem?, Array.getD_eq_getD_getElem?, this]
        | _ => rfl
    · unfold Region.wanted
      cases hg : o.guard with
      | none => rfl
      | some gw =>
        obtain ⟨q, want⟩ := gw
        have hy : yielded l.toArray a.tmps q = yielded l.toArray (stateAt l V a0 i).tmps q := by
          unfold yielded
          cases ht : (l.toArray[q]?).bind (·.dst) with
          | none => rfl
          | some t =>
            have := hlook t (by unfold Oper.looksAt; refine List.mem_append_right _ ?_; rw [hg]; simp only [ht]; simp)
            simp only [Option.bind_some, this]
        simp only [hy]
  · -- all are done
    have hall : ∀ i, i < l.length → L.getD i true = true := by
      intro i
      induction i using Nat.strongRecOn with
      | _ i ih =>
        intro hil
        rw [← Bool.not_eq_false]
        intro hun
        obtain ⟨o, ho⟩ : ∃ o, l[i]? = some o := ⟨_, List.getElem?_eq_getElem hil⟩
        have hoa : l.toArray[i]? = some o := by simpa using ho
        have hmem : i ∈ Region.ready .any l.toArray L := by
          unfold Region.ready
          simp only [List.mem_filter, List.mem_range, Bool.and_eq_true, Bool.not_eq_true']
          refine ⟨by simpa using hil, hun, ?_⟩
          rw [hoa]
          simp only [Option.map_some, Option.getD_some, Array.all_eq_true']
          intro e he
          by_cases hb : Region.binds .any e = true
          · have hk : e.on ∈ dirOf o := List.mem_map.2 ⟨e, List.mem_filter.2 ⟨by simpa using he, hb⟩, rfl⟩
            have hlt := (steadyOk_at hok ho).2.1 e.on hk
            have h1 := ih e.on hlt (by omega)
            rw [Array.getD_eq_getD_getElem?, Array.getElem?_eq_getElem (by rw [h.size]; omega)] at h1 ⊢
            rw [hb]
            simpa using h1
          · rw [Bool.not_eq_true] at hb; rw [hb]; rfl
        rw [hr] at hmem
        cases hmem
    have ha : a = putAll l V a0 := by
      rw [putAll_eq]
      obtain ⟨hz, hd⟩ := stateAt_size l V a0 l.length
      have ht : a.tmps = (stateAt l V a0 l.length).tmps := by
        apply Array.ext_getElem?
        intro t
        by_cases hex : ∃ (j : Nat) (x : Oper), l[j]? = some x ∧ x.dst = some t
        · obtain ⟨j, x, hj, hx⟩ := hex
          have hjl := (List.getElem?_eq_some_iff.1 hj).1
          obtain ⟨v, hv⟩ : ∃ v, V[j]? = some v := ⟨V[j]'(by rw [hlen]; exact hjl), List.getElem?_eq_getElem _⟩
          rw [h.done j x v t hj hv hx (hall j hjl), stateAt_own l V a0 l.length j t x v hjl hj hv hx fun q y hq hy hdy => hq (steady_unique hok hy hj hdy hx)]
        · rw [h.old t fun q y hq hy => absurd ⟨q, y, hq, hy⟩ hex, stateAt_other l V a0 l.length t fun q y _ hq hy => hex ⟨q, y, hq, hy⟩]
      obtain ⟨at_, ad⟩ := a
      have hdef := h.defers
      simp only at ht hdef
      rw [ht, hdef, ← hd]
    rw [ha]
    exact hQ W h.st fun j hj => h.eff j hj (hall j hj)
  · have hlt := (List.getElem?_eq_some_iff.1 hi).1
    replace hL : (Array.replicate l.toArray.size false).getD i true = true := hL
    rw [Array.getD_eq_getD_getElem?, Array.getElem?_eq_getElem (by simpa using hlt)] at hL
    simp at hL
  · rw [Array.getD_eq_getD_getElem?, Array.getElem?_eq_getElem (by simpa using hj)] at hL
    simp at hL
  · have hlt := (List.getElem?_eq_some_iff.1 hj).1
    rw [Array.getD_eq_getD_getElem?, Array.getElem?_eq_getElem (by simpa using hlt)] at hL
    simp at hL
  · exact Nat.le_trans (List.count_le_length) (by simp)
theorem wpIn_region_steady {id l0 n : Nat} {w : World} {Q : Exit → Act → World → Prop} (S : World → Prop) (V : List Value) (hm : P.follows .mixedOrders = true) (hok : steadyOk l = true) (hnd : noDefer l = true) (hlen : V.length = l.length)
    (hS : S { w with drawn := w.drawn + 1 }) (hsteps : StepsT P l.toArray S l V a0) (hQ : ∀ W, S W → Q .normal (putAll l V a0) W) : (Code.region id l.toArray true).wpIn (Fence.wide.inRound l0) n P Q a0 w :=
  wpIn_region_steadyF S (fun _ _ => True) V hm hok hnd hlen hS hsteps.steps fun W h _ => hQ W h
end
end Go.Proofs.YtfbdklminljecaaGreatDoor
namespace Go.Proofs.YtfbdklminljecaaGreatDoor
open Go.RowKit

theorem sumTo_two (g : Nat → Int) (a : Nat) : ∀ b, sumTo g (a + b) = sumTo g a + sumTo (fun i => g (a + i)) b
  | 0 => by simp [sumTo]
  | b + 1 => by rw [← Nat.add_assoc, sumTo, sumTo_two g a b, sumTo, Int.add_assoc]
theorem sumTo_zero (g : Nat → Int) (n : Nat) (h : ∀ k, k < n → g k = 0) : sumTo g n = 0 := by
  have := sumTo_bd g 0 n fun k hk => by rw [h k hk]; omega
  omega
theorem sumTo_mono {g h : Nat → Int} : ∀ n, (∀ k, k < n → g k ≤ h k) → sumTo g n ≤ sumTo h n
  | 0, _ => Int.le_refl _
  | n + 1, hk => by
    have h1 := sumTo_mono n fun k hk' => hk k (by omega)
    have h2 := hk n (by omega)
    unfold sumTo; omega
/-- The heights of the n items from a on that are no gaps. -/
def ngap (xs : List IT) (a n : Nat) : Int := sumTo (fun k => if (xs.getD (a + k) IT.zero).kind = 4 then 0 else (xs.getD (a + k) IT.zero).height) n
theorem ngap_le {g : GT} (hr : RightG g) {r : QT} (hq : chkQ r = 0) {a b : Nat} (h : a < b) (hb : b ≤ g.items.length) : ngap g.items a (b - a) ≤ usesR g r a b := by
  have hc := core_bd g.items a b (by omega)
  have ho := fun k h1 h2 h3 => core_out (xs := g.items) (a := a) (b := b) (by omega) k h1 h2 h3
  have hn := (notesR_bd hr a (b - a) (by omega)).2
  have h2 := (nSum_bd hr hn _ (Nat.le_refl _)).1
  have h3 := (chkQ_zero hq).2.1.1
  unfold usesR
  generalize hA : coreA g.items a b = A at *
  generalize hB : coreB g.items a b = B at *
  have e : b - a = (A - a) + ((B - A) + (b - B)) := by omega
  have e1 : ngap g.items a (b - a) ≤ hTo g.items A (B - A) := by
    unfold ngap
    rw [e, sumTo_two, sumTo_two, sumTo_zero _ (A - a) fun k hk => by rw [if_pos (ho (a + k) (by omega) (by omega) (.inl (by omega)))]]
    rw [sumTo_zero _ (b - B) fun k hk => by rw [if_pos (ho _ (by omega) (by omega) (.inr (by omega)))]]
    unfold hTo
    have : sumTo (fun i => if (g.items.getD (a + (A - a + i)) IT.zero).kind = 4 then 0 else (g.items.getD (a + (A - a + i)) IT.zero).height) (B - A) ≤ sumTo (fun k => (g.items.getD (A + k) IT.zero).height) (B - A) := by
      refine sumTo_mono _ fun k hk => ?_
      have e3 : a + (A - a + k) = A + k := by omega
      rw [e3]
      have := ((hr.items (A + k) (by omega))).height
      split <;> omega
    omega
  split <;> omega
/-- Rounds over the possible pages are a row. -/
theorem rowB_skip (cs : CS) (a b : Nat) (s : LB) (h : (cs a b).2 ≠ 0) : stepB cs a b s = s := by
  unfold stepB
  rw [if_neg (fun k => h k.1)]
end Go.Proofs.YtfbdklminljecaaGreatDoor
namespace Go.Proofs.YtfbdklminljecaaGreatDoor
open Go.RowKit

def bestE (g : GT) (r : QT) : Int := if bookErr g r ≠ 0 then bookErr g r else if g.items.length = 0 then 10 else if (allB (costR g r) g.items.length g.items.length).lab.getD g.items.length 0 = farC then 12 else 0
def bestB (g : GT) (r : QT) : List Int := if bestE g r = 0 then (chainB (allB (costR g r) g.items.length g.items.length).bef g.items.length g.items.length).reverse else []
def bestL (g : GT) (r : QT) : List Int := if bestE g r = 0 then (allB (costR g r) g.items.length g.items.length).lab else []
def bestC (g : GT) (r : QT) : Int := if bestE g r = 0 then (allB (costR g r) g.items.length g.items.length).lab.getD g.items.length 0 else 0
def RetB (bs ls : List Int) (c z : Int) (w : World) (e : Ending) (w' : World) : Prop :=
  ∃ A cA B cB, e = .returned (.tuple #[.slice A bs.length cA, .slice B ls.length cB, .int .i64 c, .int .i64 z]) ∧ RI w' A bs.length bs ∧ RI w' B ls.length ls ∧ (bs.length ≤ cA ∧ cA ≤ maxLen) ∧ (ls.length ≤ cB ∧ cB ≤ maxLen) ∧ Ext w w'
/-- A row of numbers, as cells. -/
def vals (l : List Int) : Array Value := (l.map (Value.int .i64)).toArray
theorem vals_size (l : List Int) : (vals l).size = l.length := by unfold vals; simp
theorem vals_at {l : List Int} {i : Nat} (h : i < l.length) : (vals l)[i]? = some (.int .i64 (l.getD i 0)) := by
  unfold vals; simp [h]
theorem vals_set (l : List Int) (i : Nat) (z : Int) : (vals l).setIfInBounds i (.int .i64 z) = vals (l.set i z) := by
  unfold vals; rw [List.setIfInBounds_toArray, List.map_set]
theorem vals_rep (n : Nat) (z : Int) : (List.replicate n (Value.int .i64 z)).toArray = vals (List.replicate n z) := by unfold vals; simp
theorem Blk.at_vals {w : World} {L i : Nat} {l : List Int} (h : Blk w L 3 (vals l)) (hi : i < l.length) : w.cell? ⟨L, i, none⟩ = some (.int .i64 (l.getD i 0)) := h.cell i _ (vals_at hi)
theorem Blk.set_vals {w : World} {L : Nat} {l : List Int} (h : Blk w L 3 (vals l)) (i : Nat) (z : Int) : Blk (w.setCell ⟨L, i, none⟩ (.int .i64 z)) L 3 (vals (l.set i z)) := by
  have := h.set_ i (.int .i64 z); rwa [vals_set] at this
theorem Blk.ne {w : World} {a b : Nat} {t u : TypeId} {cs ds : Array Value} (h : Blk w a t cs) (k : Blk w b u ds) (hne : t ≠ u) : a ≠ b := fun e => by
  subst e; unfold Blk at h k; rw [h] at k; cases k; exact hne rfl
theorem made_zeros' (n : Nat) : madeCells (Value.int .i64 0).cells n = Array.replicate n (Value.int .i64 0) := by
  have h := made_zeros n
  rw [Nat.mul_one] at h
  rw [← Array.toList_inj, h]
  simp
theorem run_make_ints (n : Nat) (hn : n ≤ 1000000) (W : World) : (Instr.makeSlice 25 (.int .i64 (n : Int)) (.int .i64 (n : Int))).run Tryz.prog W = .ok (.slice (some ⟨W.heap.size, 0, none⟩) n n) (W.alloc (.cells (Array.replicate n (.int .i64 0)) 3)) := by
  obtain ⟨i0, hi, hz0, hz1, hz2⟩ := info_parts intInfo
  have := run_makeSlice (P := Tryz.prog) (w := W) 25 3 i0 (.int .i64 0) Tryz.underlying25 hi hz0 .i64 .i64 (n : Int) (n : Int) (by omega) (Int.le_refl _) (by rw [hz1]; omega) (by rw [hz2]; omega) (by omega)
  rw [this, hz1, Int.toNat_natCast, Nat.mul_one, made_zeros']
/-- Best's blocks: the book, the boxes of labels and of places before, and their rows. -/
structure BM where
  kb : Nat
  bl : Nat
  bb : Nat
  L : Nat
  B : Nat
structure BeS (w0 : World) (g : GT) (p : GA) (r : QT) (m : BM) (s : LB) (W : World) : Prop where
  ext : Ext w0 W
  fk : Blk W m.kb 76 #[.slice p.A g.items.length p.c, .slice p.B g.notes.length p.d, .int .i64 r.height, .int .i64 r.gap, .int .i64 r.widow, .int .i64 r.orphan]
  fl : Blk W m.bl 25 #[.slice (some ⟨m.L, 0, none⟩) (g.items.length + 1) (g.items.length + 1)]
  fb : Blk W m.bb 25 #[.slice (some ⟨m.B, 0, none⟩) (g.items.length + 1) (g.items.length + 1)]
  rl : Blk W m.L 3 (vals s.lab)
  rb : Blk W m.B 3 (vals s.bef)
  nl : s.lab.length = g.items.length + 1
  nb : s.bef.length = g.items.length + 1
  lo : w0.heap.size ≤ m.kb ∧ w0.heap.size ≤ m.bl ∧ w0.heap.size ≤ m.bb ∧ w0.heap.size ≤ m.L ∧ w0.heap.size ≤ m.B
  ne : m.L ≠ m.B
section
variable {w0 W W' : World} {g : GT} {p : GA} {r : QT} {m : BM} {s : LB}
theorem BeS.ext' (h : BeS w0 g p r m s W) (hx : Ext W W') : BeS w0 g p r m s W' :=
  ⟨h.ext.trans hx, h.fk.ext hx, h.fl.ext hx, h.fb.ext hx, h.rl.ext hx, h.rb.ext hx, h.nl, h.nb, h.lo, h.ne⟩
theorem BeS.far (h : BeS w0 g p r m s W) : m.L ≠ m.kb ∧ m.L ≠ m.bl ∧ m.L ≠ m.bb ∧ m.B ≠ m.kb ∧ m.B ≠ m.bl ∧ m.B ≠ m.bb :=
  ⟨h.rl.ne h.fk (by decide), h.rl.ne h.fl (by decide), h.rl.ne h.fb (by decide), h.rb.ne h.fk (by decide), h.rb.ne h.fl (by decide), h.rb.ne h.fb (by decide)⟩
theorem BeS.setL (h : BeS w0 g p r m s W) (i : Nat) (z : Int) : BeS w0 g p r m ⟨s.lab.set i z, s.bef⟩ (W.setCell ⟨m.L, i, none⟩ (.int .i64 z)) := by
  obtain ⟨n1, n2, n3, n4, n5, n6⟩ := h.far
  exact ⟨h.ext.setCell (p := ⟨m.L, i, none⟩) h.lo.2.2.2.1 _, h.fk.far (fun e => n1 e.symm) _, h.fl.far (fun e => n2 e.symm) _, h.fb.far (fun e => n3 e.symm) _, h.rl.set_vals i z, h.rb.far (fun e => h.ne e.symm) _, by simp [h.nl], h.nb, h.lo, h.ne⟩
theorem BeS.setB (h : BeS w0 g p r m s W) (i : Nat) (z : Int) : BeS w0 g p r m ⟨s.lab, s.bef.set i z⟩ (W.setCell ⟨m.B, i, none⟩ (.int .i64 z)) := by
  obtain ⟨n1, n2, n3, n4, n5, n6⟩ := h.far
  exact ⟨h.ext.setCell (p := ⟨m.B, i, none⟩) h.lo.2.2.2.2 _, h.fk.far (fun e => n4 e.symm) _, h.fl.far (fun e => n5 e.symm) _, h.fb.far (fun e => n6 e.symm) _, h.rl.far h.ne _, h.rb.set_vals i z, h.nl, by simp [h.nb], h.lo, h.ne⟩
/-- What a walk reads. -/
theorem BeS.at (h : BeS w0 g p r m s W) : (W.cell? ⟨m.kb, 0, none⟩ = some (.slice p.A g.items.length p.c) ∧ W.cell? ⟨m.kb, 1, none⟩ = some (.slice p.B g.notes.length p.d) ∧ W.cell? ⟨m.kb, 2, none⟩ = some (.int .i64 r.height) ∧ W.cell? ⟨m.kb, 3, none⟩ = some (.int .i64 r.gap) ∧ W.cell? ⟨m.kb, 4, none⟩ = some (.int .i64 r.widow) ∧ W.cell? ⟨m.kb, 5, none⟩ = some (.int .i64 r.orphan)) ∧
    W.cell? ⟨m.bl, 0, none⟩ = some (.slice (some ⟨m.L, 0, none⟩) (g.items.length + 1) (g.items.length + 1)) ∧ W.cell? ⟨m.bb, 0, none⟩ = some (.slice (some ⟨m.B, 0, none⟩) (g.items.length + 1) (g.items.length + 1)) ∧
    (m.kb < W.heap.size ∧ m.bl < W.heap.size ∧ m.bb < W.heap.size ∧ m.L < W.heap.size ∧ m.B < W.heap.size) ∧ (∀ i, W.frozen? ⟨m.L, i, none⟩ = false) ∧ (∀ i, W.frozen? ⟨m.B, i, none⟩ = false) :=
  ⟨⟨h.fk.cell 0 _ rfl, h.fk.cell 1 _ rfl, h.fk.cell 2 _ rfl, h.fk.cell 3 _ rfl, h.fk.cell 4 _ rfl, h.fk.cell 5 _ rfl⟩, h.fl.cell 0 _ rfl, h.fb.cell 0 _ rfl, ⟨h.fk.lt, h.fl.lt, h.fb.lt, h.rl.lt, h.rb.lt⟩, fun i => h.rl.frozen i, fun i => h.rb.frozen i⟩
theorem BeS.atL (h : BeS w0 g p r m s W) {i : Nat} (hi : i ≤ g.items.length) : W.cell? ⟨m.L, i, none⟩ = some (.int .i64 (s.lab.getD i 0)) := h.rl.at_vals (by rw [h.nl]; omega)
theorem BeS.atB (h : BeS w0 g p r m s W) {i : Nat} (hi : i ≤ g.items.length) : W.cell? ⟨m.B, i, none⟩ = some (.int .i64 (s.bef.getD i 0)) := h.rb.at_vals (by rw [h.nb]; omega)
/-- It speaks of cells, and of blocks ahead of B. -/
theorem BeS.own {α : Type} (B : Nat) (hB : w0.heap.size ≤ B) (s : List α → LB) : OwnFrom B (fun pre W => BeS w0 g p r m (s pre) W) := fun pre X Y row hs hg hr => by
  have keep : ∀ {k : Nat} {t : TypeId} {cs : Array Value}, Blk X k t cs → Blk Y k t cs := fun {k t cs} hb =>
    (hg.block k hb.lt (fun e => by obtain ⟨_, o, ho, hc⟩ := hr k e.symm; unfold Blk at hb; rw [hb] at ho; cases ho; cases hc)).trans hb
  exact ⟨hs.ext.grown hg (fun k e => by have := (hr k e).1; omega), keep hs.fk, keep hs.fl, keep hs.fb, keep hs.rl, keep hs.rb, hs.nl, hs.nb, hs.lo, hs.ne⟩
end
/-- A block of cells speaks of cells. -/
theorem Blk.own {α : Type} (B k : Nat) (t : TypeId) (cs : Array Value) : OwnFrom B (fun (_ : α) W => Blk W k t cs) := fun _ X Y row hb hg hr =>
  (hg.block k hb.lt (fun e => by obtain ⟨_, o, ho, hc⟩ := hr k e.symm; unfold Blk at hb; rw [hb] at ho; cases ho; cases hc)).trans hb
/-- A row of rounds is a fold over the possible pages. -/
theorem rowB_fold (cs : CS) (n a : Nat) (s : LB) : ∀ m, a + m ≤ n → rowB cs a s m = (tosTo cs n a m).foldl (fun s t => stepB cs a t.1 s) s
  | 0, _ => rfl
  | m + 1, h => by
    rw [rowB, rowB_fold cs n a s m (by omega), tosTo]
    by_cases hz : (cs a (a + m + 1)).2 = 0
    · rw [dif_pos ⟨by omega, hz⟩, List.foldl_append]; rfl
    · rw [dif_neg (fun h => hz h.2), rowB_skip _ _ _ _ hz]
theorem KpP.of_setCell {w0 : World} {bk bf : Nat} {W : World} {l : Addr} (v : Value) (h0 : w0.heap.size ≤ l.block) (h1 : bk ≠ l.block) (h2 : bf ≠ l.block) : KpP w0 bk bf W (W.setCell l v) :=
  ⟨fun e => e.setCell h0 v, Below.heap_setCell W l v bk h1, Below.heap_setCell W l v bf h2⟩
/-- The statement that makes the labels and the places before: what its operations have made. -/
structure RX (wb : World) (bk : Value) (n : Nat) (v0 v1 v2 v3 v4 v5 v6 v7 v8 v9 v10 v11 v12 : Option Value) (W : World) : Prop where
  e : Ext wb W
  p0 : ∀ v, v0 = some v → ∃ a, v = .slice (some ⟨a, 0, none⟩) 1 1 ∧ Blk W a 3 #[.int .i64 1000000000000]
  p1 : ∀ v, v1 = some v → v = bk
  p2 : ∀ v, v2 = some v → v = .int .i64 (n : Int)
  p3 : ∀ v, v3 = some v → v = .int .i64 ((n + 1 : Nat) : Int)
  p4 : ∀ v, v4 = some v → ∃ L, v = .slice (some ⟨L, 0, none⟩) (n + 1) (n + 1) ∧ Blk W L 3 (vals (List.replicate (n + 1) farC)) ∧ wb.heap.size ≤ L
  p5 : ∀ v, v5 = some v → v = bk
  p6 : ∀ v, v6 = some v → v = .int .i64 (n : Int) ∧ v4.isSome = true
  p7 : ∀ v, v7 = some v → v = .int .i64 ((n + 1 : Nat) : Int) ∧ v4.isSome = true
  p8 : ∀ v, v8 = some v → v4.isSome = true ∧ ∃ B, v = .slice (some ⟨B, 0, none⟩) (n + 1) (n + 1) ∧ Blk W B 3 (vals (List.replicate (n + 1) 0)) ∧ wb.heap.size ≤ B ∧ v4 ≠ some v
  p9 : ∀ v, v9 = some v → ∃ b, v = .pointer (some ⟨b, 0, none⟩) ∧ wb.heap.size ≤ b ∧ Blk W b 25 #[if v11.isSome = true then v4.getD undef else .slice none 0 0]
  p10 : ∀ v, v10 = some v → v9 ≠ some v ∧ ∃ b, v = .pointer (some ⟨b, 0, none⟩) ∧ wb.heap.size ≤ b ∧ Blk W b 25 #[if v12.isSome = true then v8.getD undef else .slice none 0 0]
  p11 : v11.isSome = true → v9.isSome = true ∧ v4.isSome = true
  p12 : v12.isSome = true → v10.isSome = true ∧ v8.isSome = true
section
variable {wb W W' : World} {bk : Value} {n : Nat} {v0 v1 v2 v3 v4 v5 v6 v7 v8 v9 v10 v11 v12 : Option Value}
theorem RX.ext (h : RX wb bk n v0 v1 v2 v3 v4 v5 v6 v7 v8 v9 v10 v11 v12 W) (hx : Ext W W') : RX wb bk n v0 v1 v2 v3 v4 v5 v6 v7 v8 v9 v10 v11 v12 W' :=
  ⟨h.e.trans hx, fun v e => let ⟨a, h1, h2⟩ := h.p0 v e; ⟨a, h1, h2.ext hx⟩, h.p1, h.p2, h.p3, fun v e => let ⟨a, h1, h2, h3⟩ := h.p4 v e; ⟨a, h1, h2.ext hx, h3⟩, h.p5, h.p6, h.p7,
    fun v e => let ⟨h0, a, h1, h2, h3⟩ := h.p8 v e; ⟨h0, a, h1, h2.ext hx, h3⟩, fun v e => let ⟨a, h1, h2, h3⟩ := h.p9 v e; ⟨a, h1, h2, h3.ext hx⟩, fun v e => let ⟨h0, a, h1, h2, h3⟩ := h.p10 v e; ⟨h0, a, h1, h2, h3.ext hx⟩, h.p11, h.p12⟩
theorem RX.zero (hx : Ext wb W) : RX wb bk n none none none none none none none none none none none none none W :=
  ⟨hx, fun _ e => (by cases e), fun _ e => (by cases e), fun _ e => (by cases e), fun _ e => (by cases e), fun _ e => (by cases e), fun _ e => (by cases e), fun _ e => (by cases e), fun _ e => (by cases e), fun _ e => (by cases e), fun _ e => (by cases e), fun _ e => (by cases e), fun e => (by cases e), fun e => (by cases e)⟩
theorem RX.s0 (h : RX wb bk n none v1 v2 v3 v4 v5 v6 v7 v8 v9 v10 v11 v12 W) : RX wb bk n (some (.slice (some ⟨W.heap.size, 0, none⟩) 1 1)) v1 v2 v3 v4 v5 v6 v7 v8 v9 v10 v11 v12 (W.alloc (.cells #[.int .i64 1000000000000] 3)) :=
  have h := h.ext ((Ext.refl W).alloc (.cells #[.int .i64 1000000000000] 3))
  ⟨h.e, fun v e => (by cases e; exact ⟨_, rfl, Blk.new _ _ _⟩), h.p1, h.p2, h.p3, h.p4, h.p5, h.p6, h.p7, h.p8, h.p9, h.p10, h.p11, h.p12⟩
theorem RX.s1 (h : RX wb bk n v0 none v2 v3 v4 v5 v6 v7 v8 v9 v10 v11 v12 W) : RX wb bk n v0 (some bk) v2 v3 v4 v5 v6 v7 v8 v9 v10 v11 v12 W :=
  ⟨h.e, h.p0, fun v e => (by cases e; rfl), h.p2, h.p3, h.p4, h.p5, h.p6, h.p7, h.p8, h.p9, h.p10, h.p11, h.p12⟩
theorem RX.s2 (h : RX wb bk n v0 v1 none v3 v4 v5 v6 v7 v8 v9 v10 v11 v12 W) (hx : Ext W W') : RX wb bk n v0 v1 (some (.int .i64 (n : Int))) v3 v4 v5 v6 v7 v8 v9 v10 v11 v12 W' :=
  have h := h.ext hx
  ⟨h.e, h.p0, h.p1, fun v e => (by cases e; rfl), h.p3, h.p4, h.p5, h.p6, h.p7, h.p8, h.p9, h.p10, h.p11, h.p12⟩
theorem RX.s3 (h : RX wb bk n v0 v1 v2 none v4 v5 v6 v7 v8 v9 v10 v11 v12 W) : RX wb bk n v0 v1 v2 (some (.int .i64 ((n + 1 : Nat) : Int))) v4 v5 v6 v7 v8 v9 v10 v11 v12 W :=
  ⟨h.e, h.p0, h.p1, h.p2, fun v e => (by cases e; rfl), h.p4, h.p5, h.p6, h.p7, h.p8, h.p9, h.p10, h.p11, h.p12⟩
theorem RX.s4 (h : RX wb bk n v0 v1 v2 v3 none v5 v6 v7 v8 v9 v10 v11 v12 W) (hx : Ext W W') (hb : Blk W' W.heap.size 3 (vals (List.replicate (n + 1) farC))) : RX wb bk n v0 v1 v2 v3 (some (.slice (some ⟨W.heap.size, 0, none⟩) (n + 1) (n + 1))) v5 v6 v7 v8 v9 v10 v11 v12 W' := by
  have hw := h.e.size
  have h := h.ext hx
  have h11 : v11.isSome = false := by
    cases e : v11.isSome with
    | false => rfl
    | true => exact absurd (h.p11 e).2 (by simp)
  refine ⟨h.e, h.p0, h.p1, h.p2, h.p3, fun v e => (by cases e; exact ⟨_, rfl, hb, hw⟩), h.p5, fun v e => ⟨(h.p6 v e).1, rfl⟩, fun v e => ⟨(h.p7 v e).1, rfl⟩, fun v e => absurd (h.p8 v e).1 (by simp), fun v e => ?_, h.p10, fun e => ?_, h.p12⟩
  · obtain ⟨b, h1, h2, h3⟩ := h.p9 v e
    rw [h11] at h3 ⊢
    exact ⟨b, h1, h2, h3⟩
  · rw [h11] at e; cases e
theorem RX.s5 (h : RX wb bk n v0 v1 v2 v3 v4 none v6 v7 v8 v9 v10 v11 v12 W) : RX wb bk n v0 v1 v2 v3 v4 (some bk) v6 v7 v8 v9 v10 v11 v12 W :=
  ⟨h.e, h.p0, h.p1, h.p2, h.p3, h.p4, fun v e => (by cases e; rfl), h.p6, h.p7, h.p8, h.p9, h.p10, h.p11, h.p12⟩
theorem RX.s6 (h : RX wb bk n v0 v1 v2 v3 v4 v5 none v7 v8 v9 v10 v11 v12 W) (h4 : v4.isSome = true) (hx : Ext W W') : RX wb bk n v0 v1 v2 v3 v4 v5 (some (.int .i64 (n : Int))) v7 v8 v9 v10 v11 v12 W' :=
  have h := h.ext hx
  ⟨h.e, h.p0, h.p1, h.p2, h.p3, h.p4, h.p5, fun v e => (by cases e; exact ⟨rfl, h4⟩), h.p7, h.p8, h.p9, h.p10, h.p11, h.p12⟩
theorem RX.s7 (h : RX wb bk n v0 v1 v2 v3 v4 v5 v6 none v8 v9 v10 v11 v12 W) (h4 : v4.isSome = true) : RX wb bk n v0 v1 v2 v3 v4 v5 v6 (some (.int .i64 ((n + 1 : Nat) : Int))) v8 v9 v10 v11 v12 W :=
  ⟨h.e, h.p0, h.p1, h.p2, h.p3, h.p4, h.p5, h.p6, fun v e => (by cases e; exact ⟨rfl, h4⟩), h.p8, h.p9, h.p10, h.p11, h.p12⟩
theorem RX.s8 {u : Value} (h : RX wb bk n v0 v1 v2 v3 (some u) v5 v6 v7 none v9 v10 v11 v12 W) : RX wb bk n v0 v1 v2 v3 (some u) v5 v6 v7 (some (.slice (some ⟨W.heap.size, 0, none⟩) (n + 1) (n + 1))) v9 v10 v11 v12 (W.alloc (.cells (Array.replicate (n + 1) (.int .i64 0)) 3)) := by
  have hw := h.e.size
  obtain ⟨L, hL, hLb, _⟩ := h.p4 u rfl
  have hlt := hLb.lt
  have h := h.ext ((Ext.refl W).alloc (.cells (Array.replicate (n + 1) (.int .i64 0)) 3))
  have h12 : v12.isSome = false := by
    cases e : v12.isSome with
    | false => rfl
    | true => exact absurd (h.p12 e).2 (by simp)
  refine ⟨h.e, h.p0, h.p1, h.p2, h.p3, h.p4, h.p5, h.p6, h.p7, fun v e => ?_, h.p9, fun v e => ?_, h.p11, fun e => ?_⟩
  · cases e
    refine ⟨rfl, _, rfl, ?_, hw, fun e => ?_⟩
    · rw [← vals_rep, ← List.toArray_replicate]; exact Blk.new _ _ _
    · rw [hL] at e; cases e; exact absurd hlt (Nat.lt_irrefl _)
  · obtain ⟨h0, b, h1, h2, h3⟩ := h.p10 v e
    rw [h12] at h3 ⊢
    exact ⟨h0, b, h1, h2, h3⟩
  · rw [h12] at e; cases e
theorem RX.s9 (h : RX wb bk n v0 v1 v2 v3 v4 v5 v6 v7 v8 none v10 v11 v12 W) : RX wb bk n v0 v1 v2 v3 v4 v5 v6 v7 v8 (some (.pointer (some ⟨W.heap.size, 0, none⟩))) v10 v11 v12 (W.alloc (.cells #[.slice none 0 0] 25)) := by
  have hw := h.e.size
  have hlt : ∀ v, v10 = some v → ∀ b, v = .pointer (some ⟨b, 0, none⟩) → b < W.heap.size := fun v e b hv => by
    obtain ⟨_, b', h1, _, h3⟩ := h.p10 v e
    rw [hv] at h1; cases h1; exact h3.lt
  have h := h.ext ((Ext.refl W).alloc (.cells #[.slice none 0 0] 25))
  have h11 : v11.isSome = false := by
    cases e : v11.isSome with
    | false => rfl
    | true => exact absurd (h.p11 e).1 (by simp)
  refine ⟨h.e, h.p0, h.p1, h.p2, h.p3, h.p4, h.p5, h.p6, h.p7, h.p8, fun v e => ?_, fun v e => ?_, fun e => ?_, h.p12⟩
  · cases e
    rw [h11]
    exact ⟨_, rfl, hw, Blk.new _ _ _⟩
  · obtain ⟨_, b, h1, h2, h3⟩ := h.p10 v e
    refine ⟨fun e' => ?_, b, h1, h2, h3⟩
    have := hlt v e b h1
    rw [h1] at e'; cases e'; exact absurd this (Nat.lt_irrefl _)
  · rw [h11] at e; cases e
theorem RX.s10 (h : RX wb bk n v0 v1 v2 v3 v4 v5 v6 v7 v8 v9 none v11 v12 W) : RX wb bk n v0 v1 v2 v3 v4 v5 v6 v7 v8 v9 (some (.pointer (some ⟨W.heap.size, 0, none⟩))) v11 v12 (W.alloc (.cells #[.slice none 0 0] 25)) := by
  have hw := h.e.size
  have hlt : ∀ v, v9 = some v → ∀ b, v = .pointer (some ⟨b, 0, none⟩) → b < W.heap.size := fun v e b hv => by
    obtain ⟨b', h1, _, h3⟩ := h.p9 v e
    rw [hv] at h1; cases h1; exact h3.lt
  have h := h.ext ((Ext.refl W).alloc (.cells #[.slice none 0 0] 25))
  have h12 : v12.isSome = false := by
    cases e : v12.isSome with
    | false => rfl
    | true => exact absurd (h.p12 e).1 (by simp)
  refine ⟨h.e, h.p0, h.p1, h.p2, h.p3, h.p4, h.p5, h.p6, h.p7, h.p8, h.p9, fun v e => ?_, h.p11, fun e => ?_⟩
  · cases e
    rw [h12]
    exact ⟨fun e => absurd (hlt _ e _ rfl) (Nat.lt_irrefl _), _, rfl, hw, Blk.new _ _ _⟩
  · rw [h12] at e; cases e
theorem RX.s11 {u : Value} {b : Nat} (h : RX wb bk n v0 v1 v2 v3 (some u) v5 v6 v7 v8 (some (.pointer (some ⟨b, 0, none⟩))) v10 none v12 W) (x : Value) : RX wb bk n v0 v1 v2 v3 (some u) v5 v6 v7 v8 (some (.pointer (some ⟨b, 0, none⟩))) v10 (some x) v12 (W.setCell ⟨b, 0, none⟩ u) := by
  obtain ⟨b', e, hb, hbk⟩ := h.p9 _ rfl
  cases e
  have hi : ∀ {k : Nat} {cs : Array Value}, Blk W k 3 cs → Blk (W.setCell ⟨b, 0, none⟩ u) k 3 cs := fun hk => hk.far (hk.ne hbk (by decide)) _
  refine ⟨h.e.setCell (p := ⟨b, 0, none⟩) hb _, fun v e => let ⟨a, h1, h2⟩ := h.p0 v e; ⟨a, h1, hi h2⟩, h.p1, h.p2, h.p3, fun v e => let ⟨a, h1, h2, h3⟩ := h.p4 v e; ⟨a, h1, hi h2, h3⟩, h.p5, h.p6, h.p7,
    fun v e => let ⟨h0, a, h1, h2, h3⟩ := h.p8 v e; ⟨h0, a, h1, hi h2, h3⟩, fun v e => ?_, fun v e => ?_, fun _ => ⟨rfl, rfl⟩, h.p12⟩
  · cases e
    exact ⟨b, rfl, hb, hbk.set_ 0 u⟩
  · obtain ⟨h0, a, h1, h2, h3⟩ := h.p10 v e
    exact ⟨h0, a, h1, h2, h3.far (fun e' => h0 (by rw [h1]; simp only at e'; rw [e'])) _⟩
theorem RX.s12 {u : Value} {b : Nat} (h : RX wb bk n v0 v1 v2 v3 v4 v5 v6 v7 (some u) v9 (some (.pointer (some ⟨b, 0, none⟩))) v11 none W) (x : Value) : RX wb bk n v0 v1 v2 v3 v4 v5 v6 v7 (some u) v9 (some (.pointer (some ⟨b, 0, none⟩))) v11 (some x) (W.setCell ⟨b, 0, none⟩ u) := by
  obtain ⟨hn9, b', e, hb, hbk⟩ := h.p10 _ rfl
  cases e
  have hi : ∀ {k : Nat} {cs : Array Value}, Blk W k 3 cs → Blk (W.setCell ⟨b, 0, none⟩ u) k 3 cs := fun hk => hk.far (hk.ne hbk (by decide)) _
  refine ⟨h.e.setCell (p := ⟨b, 0, none⟩) hb _, fun v e => let ⟨a, h1, h2⟩ := h.p0 v e; ⟨a, h1, hi h2⟩, h.p1, h.p2, h.p3, fun v e => let ⟨a, h1, h2, h3⟩ := h.p4 v e; ⟨a, h1, hi h2, h3⟩, h.p5, h.p6, h.p7,
    fun v e => let ⟨h0, a, h1, h2, h3⟩ := h.p8 v e; ⟨h0, a, h1, hi h2, h3⟩, fun v e => ?_, fun v e => ?_, h.p11, fun _ => ⟨rfl, rfl⟩⟩
  · obtain ⟨a, h1, h2, h3⟩ := h.p9 v e
    exact ⟨a, h1, h2, h3.far (fun e' => hn9 (by rw [e, h1]; simp only at e'; rw [e'])) _⟩
  · cases e
    exact ⟨hn9, b, rfl, hb, hbk.set_ 0 u⟩
end
/-- The condition, on lists of values. -/
def RXl (wb : World) (bk : Value) (n : Nat) : Vs → World → Prop
  | [v0, v1, v2, v3, v4, v5, v6, v7, v8, v9, v10, v11, v12], W => RX wb bk n v0 v1 v2 v3 v4 v5 v6 v7 v8 v9 v10 v11 v12 W
  | _, _ => False
theorem RXl_out {wb W : World} {bk : Value} {n : Nat} {v0 v1 v2 v3 v4 v5 v6 v7 v8 v9 v10 v11 v12 : Option Value} (h : RXl wb bk n [v0, v1, v2, v3, v4, v5, v6, v7, v8, v9, v10, v11, v12] W) : RX wb bk n v0 v1 v2 v3 v4 v5 v6 v7 v8 v9 v10 v11 v12 W := h
theorem RX.made {w0 wb W : World} {g : GT} {p : GA} {r : QT} {kb : Nat} {v0 v1 v2 v3 v5 v6 v7 : Option Value} {u4 u8 u9 u10 u11 u12 : Value}
    (h : RX wb (.agg #[.slice p.A g.items.length p.c, .slice p.B g.notes.length p.d, .int .i64 r.height, .int .i64 r.gap, .int .i64 r.widow, .int .i64 r.orphan]) g.items.length v0 v1 v2 v3 (some u4) v5 v6 v7 (some u8) (some u9) (some u10) (some u11) (some u12) W) (hw : Ext w0 wb) (hk : Blk wb kb 76 #[.slice p.A g.items.length p.c, .slice p.B g.notes.length p.d, .int .i64 r.height, .int .i64 r.gap, .int .i64 r.widow, .int .i64 r.orphan]) (hkb : w0.heap.size ≤ kb) :
    ∃ m : BM, u9 = .pointer (some ⟨m.bl, 0, none⟩) ∧ u10 = .pointer (some ⟨m.bb, 0, none⟩) ∧ m.kb = kb ∧ BeS w0 g p r m ⟨List.replicate (g.items.length + 1) farC, List.replicate (g.items.length + 1) 0⟩ W := by
  obtain ⟨L, rfl, hL, hL2⟩ := h.p4 _ rfl
  obtain ⟨_, B, rfl, hB, hB2, hne⟩ := h.p8 _ rfl
  obtain ⟨bl, rfl, hbl, hbl2⟩ := h.p9 _ rfl
  obtain ⟨_, bb, rfl, hbb, hbb2⟩ := h.p10 _ rfl
  have hs := hw.size
  exact ⟨⟨kb, bl, bb, L, B⟩, rfl, rfl, rfl, hw.trans h.e, hk.ext h.e, hbl2, hbb2, hL, hB, by simp, by simp, ⟨hkb, by simp only; omega, by simp only; omega, by simp only; omega, by simp only; omega⟩, fun e => hne (by simp only at e; rw [e])⟩
/-- What the last loop of Best keeps: the breaks so far, the place reached. -/
def ChI (cs : CS) (n : Nat) (zs : List Int) (at_ : Nat) : Prop :=
  ∃ f, f + zs.length = n ∧ at_ ≤ f ∧ zs ++ chainB (allB cs n n).bef f at_ = chainB (allB cs n n).bef n n ∧ (allB cs n n).lab.getD at_ 0 ≠ farC
theorem ChI.start {cs : CS} {n : Nat} (h : (allB cs n n).lab.getD n 0 ≠ farC) : ChI cs n [] n := ⟨n, rfl, Nat.le_refl _, rfl, h⟩
theorem ChI.next {cs : CS} {n : Nat} (hs : Small cs n) (hn2 : n ≤ 200) {zs : List Int} {at_ : Nat} (h : ChI cs n zs at_) (h0 : 0 < at_) :
    ∃ a : Nat, (allB cs n n).bef.getD at_ 0 = (a : Int) ∧ a < at_ ∧ ChI cs n (zs ++ [(at_ : Int)]) a ∧ at_ ≤ n ∧ zs.length < n := by
  obtain ⟨f, h1, h2, h3, h4⟩ := h
  obtain ⟨f, rfl⟩ : ∃ q, f = q + 1 := ⟨f - 1, by omega⟩
  obtain ⟨a, q1, q2, _, _, q5, _⟩ := (inv_all hs hn2 n (Nat.le_refl _)).back at_ h0 (by omega) h4
  refine ⟨a, q1, q2, ⟨f, by rw [List.length_append, List.length_singleton]; omega, by omega, ?_, q5⟩, by omega, by omega⟩
  rw [← h3, chainB, if_neg (by omega), q1, Int.toNat_natCast, List.append_assoc, List.singleton_append]
theorem ChI.done {cs : CS} {n : Nat} {zs : List Int} (h : ChI cs n zs 0) : zs = chainB (allB cs n n).bef n n := by
  obtain ⟨f, _, _, h3, _⟩ := h
  rw [← h3]
  cases f with
  | zero => simp [chainB]
  | succ f => simp [chainB]
theorem ChI.one {cs : CS} {n : Nat} (hn : 1 ≤ n) {zs : List Int} (h : zs = chainB (allB cs n n).bef n n) : 1 ≤ zs.length ∧ zs.length ≤ n := by
  subst h
  refine ⟨?_, chain_len _ _ _⟩
  obtain ⟨m, rfl⟩ : ∃ m, n = m + 1 := ⟨n - 1, by omega⟩
  rw [chainB, if_neg (by omega)]
  simp
theorem setCells_size (g : Nat) : ∀ (vs : List Value) (o : Nat) (w : World), (w.setCells g o vs).heap.size = w.heap.size
  | [], _, _ => rfl
  | v :: vs, o, w => by rw [World.setCells, setCells_size g vs]; simp
/-- A row of its own, turned round in place. -/
theorem Own.reversed {a W : World} {v : Value} {zs : List Int} (h : Own W a.heap.size v zs) (hx : Ext a W) (hz : 1 ≤ zs.length) : ∃ g cap, v = .slice (some ⟨g, 0, none⟩) zs.length cap ∧ (zs.length ≤ cap ∧ cap ≤ maxLen) ∧
    (∀ j, j < zs.length → W.cell? ⟨g, 0 + j, none⟩ = some (.int .i64 (zs.getD j 0))) ∧ (∀ j, j < zs.length → W.frozen? ⟨g, 0 + j, none⟩ = false) ∧
    ∀ q W', W' = (W.drewN q).setCells g 0 ((zs.take zs.length).reverse.map (Value.int .i64)) → Ext a W' ∧ RI W' (some ⟨g, 0, none⟩) zs.length zs.reverse := by
  unfold Own at h
  rcases h.2 with ⟨_, h0⟩ | ⟨g, cap, cur, hv, hbase, hg, hle, hmx, hsz, htk⟩
  · omega
  · have hcell : ∀ j, j < zs.length → W.cell? ⟨g, 0 + j, none⟩ = some (.int .i64 (zs.getD j 0)) := fun j hj => by
      have e : cur[j]? = some (.int .i64 (zs.getD j 0)) := by
        have e1 : (cur.toList.take (zs.length * 1))[j]? = (zs.map (Value.int .i64))[j]? := by rw [htk]
        rw [List.getElem?_take, if_pos (by omega)] at e1
        rw [← Array.getElem?_toList, e1]
        simp [hj]
      rw [Nat.zero_add]
      simp [World.cell?, hg, e]
    have hlt := (Array.getElem?_eq_some_iff.1 hg).1
    refine ⟨g, cap, hv, ⟨hle, hmx⟩, hcell, fun j hj => by simp [World.frozen?, hg], fun q W' hW' => ?_⟩
    subst hW'
    have hx2 : Ext a ((W.drewN q).setCells g 0 ((zs.take zs.length).reverse.map (Value.int .i64))) := Ext.setCells _ _ _ (hx.drewN q) hbase
    refine ⟨hx2, by simp, by unfold maxLen at hmx; omega, fun _ => ⟨g, 0, rfl, ?_, fun k hk => ?_⟩⟩
    · rw [setCells_size]; exact hlt
    · have := World.cell?_setCells_in g ((zs.take zs.length).reverse.map (Value.int .i64)) 0 (W.drewN q) (fun j hj => by
        have hj' : j < zs.length := by simpa using hj
        show (W.cell? ⟨g, 0 + j, none⟩).isSome = true
        rw [hcell j hj']; rfl) k (by simpa using hk)
      rw [this]
      simp [hk]
theorem RetB.mk2 {bs ls : List Int} {c z : Int} {w w' : World} {A B : Option Addr} {cA cB nb nl : Nat} (hb : bs.length = nb) (hl : ls.length = nl) (h1 : RI w' A nb bs) (h2 : RI w' B nl ls) (h3 : nb ≤ cA ∧ cA ≤ maxLen) (h4 : nl ≤ cB ∧ cB ≤ maxLen) (h5 : Ext w w') :
    RetB bs ls c z w (.returned (.tuple #[.slice A nb cA, .slice B nl cB, .int .i64 c, .int .i64 z])) w' := by
  subst hb hl
  exact ⟨A, cA, B, cB, rfl, h1, h2, h3, h4, h5⟩
theorem RI.of_vals {W : World} {L : Nat} {l : List Int} (h : Blk W L 3 (vals l)) (hl : l.length ≤ 1000000) : RI W (some ⟨L, 0, none⟩) l.length l :=
  ⟨rfl, by omega, fun _ => ⟨L, 0, rfl, h.lt, fun k hk => by rw [Nat.zero_add]; exact h.at_vals hk⟩⟩
/-- A row of rounds. -/
def foldB (cs : CS) (n k : Nat) (s : LB) (pre : List (PgT cs n k)) : LB := pre.foldl (fun s t => stepB cs k t.1 s) s
theorem foldB_snoc (cs : CS) (n k : Nat) (s : LB) (pre : List (PgT cs n k)) (t : PgT cs n k) : foldB cs n k s (pre ++ [t]) = stepB cs k t.1 (foldB cs n k s pre) := by
  unfold foldB; rw [List.foldl_append]; rfl
theorem rowB_foldB (cs : CS) (n a : Nat) (s : LB) (m : Nat) (h : a + m ≤ n) : rowB cs a s m = foldB cs n a s (tosTo cs n a m) := rowB_fold cs n a s m h
theorem fold_keep (cs : CS) (n k : Nat) : ∀ (pre : List (PgT cs n k)) (s : LB), (pre.foldl (fun s t => stepB cs k t.1 s) s).lab.getD k 0 = s.lab.getD k 0
  | [], _ => rfl
  | t :: pre, s => by
    rw [List.foldl_cons, fold_keep cs n k pre, stepB_keep cs k t.1 s k t.2.1]
theorem foldB_keep (cs : CS) (n k : Nat) (pre : List (PgT cs n k)) (s : LB) : (foldB cs n k s pre).lab.getD k 0 = s.lab.getD k 0 := fold_keep cs n k pre s
theorem lab_bd {cs : CS} {n k : Nat} (hs : Small cs n) (hn2 : n ≤ 200) (hk : k ≤ n) : 0 ≤ (allB cs n k).lab.getD k 0 ∧ (allB cs n k).lab.getD k 0 ≤ 1000000000000 := by
  rcases (inv_all hs hn2 k hk).least k hk with ⟨h, _⟩ | ⟨h1, h2, _⟩
  · rw [h]; unfold farC; omega
  · have := h2.bd hs hk; unfold farC at h1; omega
theorem Ext.keeps {W W' : World} (h : Ext W W') (B : Nat) : KeepsFrom B W W' := ⟨h.size, fun _ _ _ hk _ => (h.block (Array.getElem?_eq_some_iff.1 hk).1).trans hk⟩
theorem Ext.kp {w0 W W' : World} {bk bf : Nat} (h : Ext W W') (h1 : bk < W.heap.size) (h2 : bf < W.heap.size) : KpP w0 bk bf W W' := ⟨fun e => e.trans h, h.block h1, h.block h2⟩
theorem set_own (l : List Int) (t : Nat) : l.set t (l.getD t 0) = l := by
  by_cases h : t < l.length
  · apply List.ext_getElem?
    intro j
    by_cases hj : j = t
    · subst hj; rw [List.getElem?_set_self h]; simp [h]
    · rw [List.getElem?_set_ne (fun e => hj e.symm)]
  · rw [List.set_eq_of_length_le (by omega)]
/-- What the statement that notes a cheaper page keeps. -/
structure RowS (w0 : World) (g : GT) (p : GA) (r : QT) (m : BM) (s : LB) (k t sf bk bf B : Nat) (Ds : List Nat) (W0 W : World) : Prop where
  b : ∃ x y, BeS w0 g p r m ⟨s.lab.set t x, s.bef.set t y⟩ W
  f : Blk W sf 3 #[.int .i64 (k : Int)]
  ms : Marks w0.heap.size Ds W
  kf : KeepsFrom B W0 W
  kp : KpP w0 bk bf W0 W
section
variable {w0 W0 W : World} {g : GT} {p : GA} {r : QT} {m : BM} {s : LB} {k t sf bk bf B : Nat} {Ds : List Nat}
theorem RowS.at (h : RowS w0 g p r m s k t sf bk bf B Ds W0 W) (hk : k ≤ g.items.length) (ht : t ≤ g.items.length) (hkt : k ≠ t) : W.cell? ⟨m.bl, 0, none⟩ = some (.slice (some ⟨m.L, 0, none⟩) (g.items.length + 1) (g.items.length + 1)) ∧ W.cell? ⟨m.bb, 0, none⟩ = some (.slice (some ⟨m.B, 0, none⟩) (g.items.length + 1) (g.items.length + 1)) ∧
    W.cell? ⟨sf, 0, none⟩ = some (.int .i64 (k : Int)) ∧ W.cell? ⟨m.L, k, none⟩ = some (.int .i64 (s.lab.getD k 0)) ∧ (∃ z, W.cell? ⟨m.L, t, none⟩ = some (.int .i64 z)) ∧ (∃ z, W.cell? ⟨m.B, t, none⟩ = some (.int .i64 z)) ∧ W.frozen? ⟨m.L, t, none⟩ = false ∧ W.frozen? ⟨m.B, t, none⟩ = false ∧
    m.bl < W.heap.size ∧ m.bb < W.heap.size ∧ m.L < W.heap.size ∧ m.B < W.heap.size ∧ sf < W.heap.size := by
  obtain ⟨x, y, hb⟩ := h.b
  obtain ⟨_, h1, h2, ⟨_, h3, h4, h5, h6⟩, h7, h8⟩ := hb.at
  have hl := hb.atL hk
  simp only at hl
  rw [getD_set_ne (fun e => hkt e.symm)] at hl
  exact ⟨h1, h2, h.f.cell 0 _ rfl, hl, ⟨_, hb.atL ht⟩, ⟨_, hb.atB ht⟩, h7 t, h8 t, h3, h4, h5, h6, h.f.lt⟩
/-- Blocks of one's own are neither the pages' blocks nor marks. -/
theorem RowS.setL (h : RowS w0 g p r m s k t sf bk bf B Ds W0 W) (z : Int) (h1 : bk ≠ m.L) (h2 : bf ≠ m.L) (h3 : sf ≠ m.L) : RowS w0 g p r m s k t sf bk bf B Ds W0 (W.setCell ⟨m.L, t, none⟩ (.int .i64 z)) := by
  obtain ⟨x, y, hb⟩ := h.b
  refine ⟨⟨z, y, ?_⟩, h.f.far h3 _, ?_, h.kf.trans ((KeepsOthers.setCell _ _ _).from _), h.kp.trans (KpP.of_setCell (l := ⟨m.L, t, none⟩) _ hb.lo.2.2.2.1 h1 h2)⟩
  · have := hb.setL t z
    simpa using this
  · exact ⟨h.ms.1, fun D hD => by
      obtain ⟨q1, q2, q3⟩ := h.ms.2 D hD
      refine ⟨q1, by simpa using q2, (Below.heap_setCell W ⟨m.L, t, none⟩ _ D (fun e => ?_)).trans q3⟩
      subst e
      have := hb.rl
      unfold Blk at this
      simp only at q3
      rw [q3] at this; cases this⟩
theorem RowS.setB (h : RowS w0 g p r m s k t sf bk bf B Ds W0 W) (z : Int) (h1 : bk ≠ m.B) (h2 : bf ≠ m.B) (h3 : sf ≠ m.B) : RowS w0 g p r m s k t sf bk bf B Ds W0 (W.setCell ⟨m.B, t, none⟩ (.int .i64 z)) := by
  obtain ⟨x, y, hb⟩ := h.b
  refine ⟨⟨x, z, ?_⟩, h.f.far h3 _, ?_, h.kf.trans ((KeepsOthers.setCell _ _ _).from _), h.kp.trans (KpP.of_setCell (l := ⟨m.B, t, none⟩) _ hb.lo.2.2.2.2 h1 h2)⟩
  · have := hb.setB t z
    simpa using this
  · exact ⟨h.ms.1, fun D hD => by
      obtain ⟨q1, q2, q3⟩ := h.ms.2 D hD
      refine ⟨q1, by simpa using q2, (Below.heap_setCell W ⟨m.B, t, none⟩ _ D (fun e => ?_)).trans q3⟩
      subst e
      have := hb.rb
      unfold Blk at this
      simp only at q3
      rw [q3] at this; cases this⟩
theorem RowS.blkL (h : RowS w0 g p r m s k t sf bk bf B Ds W0 W) (z : Int) : Blk (W.setCell ⟨m.L, t, none⟩ (.int .i64 z)) m.L 3 (vals (s.lab.set t z)) := by
  obtain ⟨x, y, hb⟩ := h.b
  have := hb.rl.set_vals t z
  simpa using this
theorem RowS.blkB (h : RowS w0 g p r m s k t sf bk bf B Ds W0 W) (z : Int) : Blk (W.setCell ⟨m.B, t, none⟩ (.int .i64 z)) m.B 3 (vals (s.bef.set t z)) := by
  obtain ⟨x, y, hb⟩ := h.b
  have := hb.rb.set_vals t z
  simpa using this
theorem RowS.done (h : RowS w0 g p r m s k t sf bk bf B Ds W0 W) {x y : Int} (h1 : Blk W m.L 3 (vals (s.lab.set t x))) (h2 : Blk W m.B 3 (vals (s.bef.set t y))) : BeS w0 g p r m ⟨s.lab.set t x, s.bef.set t y⟩ W := by
  obtain ⟨x', y', hb⟩ := h.b
  exact ⟨hb.ext, hb.fk, hb.fl, hb.fb, h1, h2, by simpa using hb.nl, by simpa using hb.nb, hb.lo, hb.ne⟩
theorem RowS.ne (h : RowS w0 g p r m s k t sf bk bf B Ds W0 W) : m.L ≠ m.B := let ⟨_, _, hb⟩ := h.b; hb.ne
end
end Go.Proofs.YtfbdklminljecaaGreatDoor
