/-
  Walk: chapter 5: Best.
-/
import Derived.Test.YtfbdklminljecaaGreatDoorGI
import Derived.Deep.RegionHeld3
import Derived.Deep.DrawnRows
import Derived.Deep.CutRange
import Derived.Deep.DeepCutAuto
namespace Go.Proofs.YtfbdklminljecaaGreatDoor
open Go.RowKit
attribute [local go_sem] Oper.semAt_some wide_fn wide_depth stateAt known List.map_cons List.map_nil Option.getD_some
attribute [local go_sem ↓] Go.wp_at_zero Go.wp_at_succ

theorem Blk.c6s {w : World} {g : Nat} {t : TypeId} {a b c d e f : Value} (h : Blk w g t #[a, b, c, d, e, f]) : (w.cell? ⟨g, 0, none⟩ = some a ∧ w.cell? ⟨g, 1, none⟩ = some b ∧ w.cell? ⟨g, 2, none⟩ = some c ∧ w.cell? ⟨g, 3, none⟩ = some d ∧
    w.cell? ⟨g, 4, none⟩ = some e ∧ w.cell? ⟨g, 5, none⟩ = some f) ∧ g < w.heap.size :=
  ⟨⟨h.cell 0 _ rfl, h.cell 1 _ rfl, h.cell 2 _ rfl, h.cell 3 _ rfl, h.cell 4 _ rfl, h.cell 5 _ rfl⟩, h.lt⟩
theorem RetB.none_ {w w' : World} {z : Int} (h : Ext w w') : RetB [] [] 0 z w (.returned (.tuple #[.slice none 0 0, .slice none 0 0, .int .i64 0, .int .i64 z])) w' :=
  ⟨none, 0, none, 0, rfl, RI.nil, RI.nil, ⟨Nat.le_refl _, by unfold maxLen; omega⟩, ⟨Nat.le_refl _, by unfold maxLen; omega⟩, h⟩
theorem bestE_none {g : GT} {r : QT} {z : Int} (h : bestE g r = z) (hz : z ≠ 0) : bestB g r = [] ∧ bestL g r = [] ∧ bestC g r = 0 := by
  unfold bestB bestL bestC
  rw [if_neg (by rw [h]; exact hz), if_neg (by rw [h]; exact hz), if_neg (by rw [h]; exact hz)]
  exact ⟨rfl, rfl, rfl⟩
set_option maxRecDepth 100000 in
set_option maxHeartbeats 8000000 in
theorem best_any (g : GT) (p : GA) (r : QT) (w : World) (hg : GR w p g) :
    Calls Tryz.prog 14 #[g.val p, r.val] w (RetB (bestB g r) (bestL g r) (bestC g r) (bestE g r) w) := by
  have cO := fun W h => open_any g p r W h
  have HG := Lib.hid hg
  by_cases hck : (chkG g).2 = 0
  case neg =>
    have hbe : bookErr g r = (chkG g).2 := by unfold bookErr; rw [if_pos hck]
    have hE : bestE g r = (chkG g).2 := by unfold bestE; rw [hbe, if_pos hck]
    obtain ⟨q1, q2, q3⟩ := bestE_none hE hck
    rw [hE, q1, q2, q3]
    have HOV : Hid (openV g p r = .tuple #[.agg #[.slice none 0 0, .slice none 0 0, .int .i64 0, .int .i64 0, .int .i64 0, .int .i64 0], .int .i64 (chkG g).2]) := Lib.hid (by unfold openV; rw [if_pos hck])
    rw [HOV.out] at cO
    have e0 : ((chkG g).2 != 0) = true := by simpa using hck
    generalize (chkG g).2 = z at *
    unfold GT.val QT.val at *
    have CO := Lib.hid cO; clear cO hck hbe hg HOV hE q1 q2 q3
    go_enter Tryz.func14, Tryz.ntmps14
    go_wp2_with (first | (go_at_call 31; refine Calls.mono (CO.out _ ?_) ?_; (exact HG.out.ext (by repeat (first | exact Ext.refl _ | assumption | refine Ext.alloc ?_ _ | refine Ext.drew ?_ | refine Ext.drewN ?_ _ | (refine Ext.setCell ?_ (by simp <;> omega) _) | refine Ext.trans ?_ (by assumption)))); rintro e w1 ⟨rfl, hb⟩; have HW1 := Lib.hid (Ext.trans (a := w) (by repeat (first | exact Ext.refl _ | assumption | refine Ext.alloc ?_ _ | refine Ext.drew ?_ | refine Ext.drewN ?_ _ | (refine Ext.setCell ?_ (by simp <;> omega) _) | refine Ext.trans ?_ (by assumption))) hb)))
    refine bodyPost_ret (v := .tuple #[.slice none 0 0, .slice none 0 0, .int .i64 0, .int .i64 z]) (by simp [results, Tryz.results14]) rfl ?_
    exact RetB.none_ (HW1.out.trans (by repeat (first | exact Ext.refl _ | assumption | refine Ext.alloc ?_ _ | refine Ext.drew ?_ | refine Ext.drewN ?_ _ | (refine Ext.setCell ?_ (by simp <;> omega) _) | refine Ext.trans ?_ (by assumption))))
  case pos =>
  have hR := chkG_zero hck
  have HOV : Hid (openV g p r = .tuple #[bkVal g p r, .int .i64 (chkQ r)]) := Lib.hid (by unfold openV; rw [if_neg (by simpa using hck)])
  rw [HOV.out] at cO
  have hbe : bookErr g r = chkQ r := by unfold bookErr; rw [if_neg (by simpa using hck)]
  clear hck HOV
  by_cases hq : chkQ r = 0
  case neg =>
    have hE : bestE g r = chkQ r := by unfold bestE; rw [hbe, if_pos hq]
    obtain ⟨q1, q2, q3⟩ := bestE_none hE hq
    rw [hE, q1, q2, q3]
    have e0 : (chkQ r != 0) = true := by simpa using hq
    generalize chkQ r = z at *
    unfold bkVal at cO
    unfold GT.val QT.val at *
    have CO := Lib.hid cO; clear cO hq hg hbe hE q1 q2 q3 hR
    go_enter Tryz.func14, Tryz.ntmps14
    go_wp2_with (first | (go_at_call 31; refine Calls.mono (CO.out _ ?_) ?_; (exact HG.out.ext (by repeat (first | exact Ext.refl _ | assumption | refine Ext.alloc ?_ _ | refine Ext.drew ?_ | refine Ext.drewN ?_ _ | (refine Ext.setCell ?_ (by simp <;> omega) _) | refine Ext.trans ?_ (by assumption)))); rintro e w1 ⟨rfl, hb⟩; have HW1 := Lib.hid (Ext.trans (a := w) (by repeat (first | exact Ext.refl _ | assumption | refine Ext.alloc ?_ _ | refine Ext.drew ?_ | refine Ext.drewN ?_ _ | (refine Ext.setCell ?_ (by simp <;> omega) _) | refine Ext.trans ?_ (by assumption))) hb)))
    refine bodyPost_ret (v := .tuple #[.slice none 0 0, .slice none 0 0, .int .i64 0, .int .i64 z]) (by simp [results, Tryz.results14]) rfl ?_
    exact RetB.none_ (HW1.out.trans (by repeat (first | exact Ext.refl _ | assumption | refine Ext.alloc ?_ _ | refine Ext.drew ?_ | refine Ext.drewN ?_ _ | (refine Ext.setCell ?_ (by simp <;> omega) _) | refine Ext.trans ?_ (by assumption))))
  case pos =>
  rw [hq] at cO
  have cE := fun W => bookEnd_any g p r W
  by_cases hn0 : g.items.length = 0
  case pos =>
    have hE : bestE g r = 10 := by unfold bestE; rw [hbe, if_neg (by simpa using hq), if_pos hn0]
    obtain ⟨q1, q2, q3⟩ := bestE_none hE (by decide)
    rw [hE, q1, q2, q3]
    have e1 : ((g.items.length : Int) == 0) = true := by rw [beq_iff_eq]; omega
    unfold bkVal at cO cE
    unfold GT.val QT.val at *
    have CO := Lib.hid cO; have CE := Lib.hid cE; clear cO cE hq hg hbe hE q1 q2 q3 hR hn0
    go_enter Tryz.func14, Tryz.ntmps14
    go_wp2_with (first | (go_at_call 31; refine Calls.mono (CO.out _ ?_) ?_; (exact HG.out.ext (by repeat (first | exact Ext.refl _ | assumption | refine Ext.alloc ?_ _ | refine Ext.drew ?_ | refine Ext.drewN ?_ _ | (refine Ext.setCell ?_ (by simp <;> omega) _) | refine Ext.trans ?_ (by assumption)))); rintro e w1 ⟨rfl, hb⟩; have HW1 := Lib.hid (Ext.trans (a := w) (by repeat (first | exact Ext.refl _ | assumption | refine Ext.alloc ?_ _ | refine Ext.drew ?_ | refine Ext.drewN ?_ _ | (refine Ext.setCell ?_ (by simp <;> omega) _) | refine Ext.trans ?_ (by assumption))) hb)) | (go_at_call 32; refine Calls.mono (CE.out _) ?_; rintro e w2 ⟨rfl, hb⟩; have HW2 := Lib.hid (HW1.out.trans (Ext.trans (by repeat (first | exact Ext.refl _ | assumption | refine Ext.alloc ?_ _ | refine Ext.drew ?_ | refine Ext.drewN ?_ _ | (refine Ext.setCell ?_ (by simp <;> omega) _) | refine Ext.trans ?_ (by assumption))) hb)); have FK := (Blk.new w1 76 #[.slice p.A g.items.length p.c, .slice p.B g.notes.length p.d, .int .i64 r.height, .int .i64 r.gap, .int .i64 r.widow, .int .i64 r.orphan]).ext hb; obtain ⟨b0, b1, b2, b3, b4, b5, _, bl⟩ := FK.c6; have FK := Lib.hid FK))
    refine bodyPost_ret (v := .tuple #[.slice none 0 0, .slice none 0 0, .int .i64 0, .int .i64 10]) (by simp [results, Tryz.results14]) rfl ?_
    exact RetB.none_ (HW2.out.trans (by repeat (first | exact Ext.refl _ | assumption | refine Ext.alloc ?_ _ | refine Ext.drew ?_ | refine Ext.drewN ?_ _ | (refine Ext.setCell ?_ (by simp <;> omega) _) | refine Ext.trans ?_ (by assumption))))
  case neg =>
  have hE : bestE g r = if (allB (costR g r) g.items.length g.items.length).lab.getD g.items.length 0 = farC then 12 else 0 := by unfold bestE; rw [hbe, if_neg (by simpa using hq), if_neg hn0]
  have e1 : ((g.items.length : Int) == 0) = false := by rw [beq_eq_false_iff_ne]; omega
  have hn := hR.many
  have HR0 := Lib.hid hR; have HQ := Lib.hid hq; have HE := Lib.hid hE
  have HS := Lib.hid (cost_small hR hq)
  unfold bkVal at cO cE
  unfold GT.val QT.val at *
  have CO := Lib.hid cO; have CE := Lib.hid cE; clear cO cE hq hg hbe hE hR
  refine (callsIn_wide (n := 3)).1 ?_
  refine callsIn_of_wp_marks Tryz.func14 rfl trivial ?_ rfl
  simp only [Tryz.ntmps14, List.size_toArray, List.length_cons, List.length_nil, Nat.reduceAdd, Nat.reduceSub, Array.replicate_succ, Array.replicate_zero, List.push_toArray, List.append_toArray, List.nil_append, List.cons_append]
  refine wpIn_wide.2 ?_
  go_upto_region 6 with (first | (go_at_call 31; refine Calls.mono (CO.out _ ?_) ?_; (exact HG.out.ext (by repeat (first | exact Ext.refl _ | assumption | refine Ext.alloc ?_ _ | refine Ext.drew ?_ | refine Ext.drewN ?_ _ | (refine Ext.setCell ?_ (by simp <;> omega) _) | refine Ext.trans ?_ (by assumption)))); rintro e w1 ⟨rfl, hb⟩; have HW1 := Lib.hid (Ext.trans (a := w) (by repeat (first | exact Ext.refl _ | assumption | refine Ext.alloc ?_ _ | refine Ext.drew ?_ | refine Ext.drewN ?_ _ | (refine Ext.setCell ?_ (by simp <;> omega) _) | refine Ext.trans ?_ (by assumption))) hb)) | (go_at_call 32; refine Calls.mono (CE.out _) ?_; rintro e w2 ⟨rfl, hb⟩; have HW2 := Lib.hid (HW1.out.trans (Ext.trans (by repeat (first | exact Ext.refl _ | assumption | refine Ext.alloc ?_ _ | refine Ext.drew ?_ | refine Ext.drewN ?_ _ | (refine Ext.setCell ?_ (by simp <;> omega) _) | refine Ext.trans ?_ (by assumption))) hb)); have FK := (Blk.new w1 76 #[.slice p.A g.items.length p.c, .slice p.B g.notes.length p.d, .int .i64 r.height, .int .i64 r.gap, .int .i64 r.widow, .int .i64 r.orphan]).ext hb; obtain ⟨b0, b1, b2, b3, b4, b5, _, bl⟩ := FK.c6; have FK := Lib.hid FK))
  obtain ⟨b0, b1, b2, b3, b4, b5, _, bl⟩ := FK.out.c6
  have CR := Lib.hid (fun (W : World) (g0 : Nat) (hb : Blk W g0 3 #[.int .i64 1000000000000]) => repeat1_any 1000000000000 g0 0 1 (g.items.length + 1) W (hb.cell 0 _ rfl) hb.lt (by omega) (by omega))
  have hn1 : IntKind.i64.wrap ((g.items.length : Int) + 1) = ((g.items.length + 1 : Nat) : Int) := by rw [IntWalk.i64_in _ (by omega)]; omega
  have hmk := run_make_ints (g.items.length + 1) (by omega)
  simp only [Int.natCast_add, Int.natCast_one] at hmk
  go_cut [10, 11] from 32 to 40 (fun v10 v11 wx => ∃ m : BM, v10 = .pointer (some ⟨m.bl, 0, none⟩) ∧ v11 = .pointer (some ⟨m.bb, 0, none⟩) ∧ m.kb = w1.heap.size ∧ Hid (BeS w g p r m ⟨List.replicate (g.items.length + 1) farC, List.replicate (g.items.length + 1) 0⟩ wx))
  case first =>
    -- BEGIN FIRST
    have HX0 := Lib.hid (RX.zero (wb := w2) (bk := .agg #[.slice p.A g.items.length p.c, .slice p.B g.notes.length p.d, .int .i64 r.height, .int .i64 r.gap, .int .i64 r.widow, .int .i64 r.orphan]) (n := g.items.length) (Ext.refl w2).drew)
    refine wp_region_exist (RXl w2 (.agg #[.slice p.A g.items.length p.c, .slice p.B g.notes.length p.d, .int .i64 r.height, .int .i64 r.gap, .int .i64 r.widow, .int .i64 r.orphan]) g.items.length) (by kernel_rfl) (by kernel_rfl) HX0.out (StepsX.all ?_) ?_
    · skip
      refine ⟨fun V W hl hn hd hX _ => ?_, ?_⟩
      · obtain ⟨v0, v1, v2, v3, v4, v5, v6, v7, v8, v9, v10, v11, v12, rfl⟩ := len13 hl
        obtain rfl : v0 = none := hn
        replace hX := RXl_out hX
        skip
        refine ⟨rfl, ?_⟩
        go_simp
        exact hX.s0
      refine ⟨fun V W hl hn hd hX _ => ?_, ?_⟩
      · obtain ⟨v0, v1, v2, v3, v4, v5, v6, v7, v8, v9, v10, v11, v12, rfl⟩ := len13 hl
        obtain rfl : v1 = none := hn
        replace hX := RXl_out hX
        obtain ⟨q0, q1, q2, q3, q4, q5, _, ql⟩ := (FK.out.ext hX.e).c6
        refine ⟨rfl, ?_⟩
        go_simp
        exact hX.s1
      refine ⟨fun V W hl hn hd hX _ => ?_, ?_⟩
      · obtain ⟨v0, v1, v2, v3, v4, v5, v6, v7, v8, v9, v10, v11, v12, rfl⟩ := len13 hl
        obtain rfl : v2 = none := hn
        replace hX := RXl_out hX
        obtain ⟨u1, rfl⟩ := Option.isSome_iff_exists.1 (hd 1 (by decide)); obtain rfl := hX.p1 _ rfl
        refine ⟨rfl, ?_⟩
        go_simp
        refine Calls.mono (CE.out _) ?_; rintro e w4 ⟨rfl, hb⟩; exact ⟨_, rfl, hX.s2 hb⟩
      refine ⟨fun V W hl hn hd hX _ => ?_, ?_⟩
      · obtain ⟨v0, v1, v2, v3, v4, v5, v6, v7, v8, v9, v10, v11, v12, rfl⟩ := len13 hl
        obtain rfl : v3 = none := hn
        replace hX := RXl_out hX
        obtain ⟨u2, rfl⟩ := Option.isSome_iff_exists.1 (hd 2 (by decide)); obtain rfl := hX.p2 _ rfl
        refine ⟨rfl, ?_⟩
        go_simp
        exact hX.s3
      refine ⟨fun V W hl hn hd hX _ => ?_, ?_⟩
      · obtain ⟨v0, v1, v2, v3, v4, v5, v6, v7, v8, v9, v10, v11, v12, rfl⟩ := len13 hl
        obtain rfl : v4 = none := hn
        replace hX := RXl_out hX
        obtain ⟨u3, rfl⟩ := Option.isSome_iff_exists.1 (hd 3 (by decide)); obtain rfl := hX.p3 _ rfl; obtain ⟨u0, rfl⟩ := Option.isSome_iff_exists.1 (hd 0 (by decide)); obtain ⟨a0, rfl, hb0⟩ := hX.p0 _ rfl
        refine ⟨rfl, ?_⟩
        go_simp
        refine Calls.mono (CR.out _ _ hb0) ?_; rintro e w5 ⟨rfl, hRB, hb⟩; exact ⟨_, rfl, hX.s4 hb (by rw [← vals_rep]; exact hRB)⟩
      refine ⟨fun V W hl hn hd hX _ => ?_, ?_⟩
      · obtain ⟨v0, v1, v2, v3, v4, v5, v6, v7, v8, v9, v10, v11, v12, rfl⟩ := len13 hl
        obtain rfl : v5 = none := hn
        replace hX := RXl_out hX
        obtain ⟨q0, q1, q2, q3, q4, q5, _, ql⟩ := (FK.out.ext hX.e).c6
        refine ⟨rfl, ?_⟩
        go_simp
        exact hX.s5
      refine ⟨fun V W hl hn hd hX _ => ?_, ?_⟩
      · obtain ⟨v0, v1, v2, v3, v4, v5, v6, v7, v8, v9, v10, v11, v12, rfl⟩ := len13 hl
        obtain rfl : v6 = none := hn
        replace hX := RXl_out hX
        obtain ⟨u5, rfl⟩ := Option.isSome_iff_exists.1 (hd 5 (by decide)); obtain rfl := hX.p5 _ rfl
        refine ⟨rfl, ?_⟩
        go_simp
        refine Calls.mono (CE.out _) ?_; rintro e w4 ⟨rfl, hb⟩; exact ⟨_, rfl, hX.s6 (hd 4 (by decide)) hb⟩
      refine ⟨fun V W hl hn hd hX _ => ?_, ?_⟩
      · obtain ⟨v0, v1, v2, v3, v4, v5, v6, v7, v8, v9, v10, v11, v12, rfl⟩ := len13 hl
        obtain rfl : v7 = none := hn
        replace hX := RXl_out hX
        obtain ⟨u6, rfl⟩ := Option.isSome_iff_exists.1 (hd 6 (by decide)); obtain ⟨rfl, h4⟩ := hX.p6 _ rfl
        refine ⟨rfl, ?_⟩
        go_simp
        exact hX.s7 h4
      refine ⟨fun V W hl hn hd hX _ => ?_, ?_⟩
      · obtain ⟨v0, v1, v2, v3, v4, v5, v6, v7, v8, v9, v10, v11, v12, rfl⟩ := len13 hl
        obtain rfl : v8 = none := hn
        replace hX := RXl_out hX
        obtain ⟨u7, rfl⟩ := Option.isSome_iff_exists.1 (hd 7 (by decide)); obtain ⟨rfl, h4⟩ := hX.p7 _ rfl; obtain ⟨u4, rfl⟩ := Option.isSome_iff_exists.1 h4
        refine ⟨rfl, ?_⟩
        go_simp
        exact hX.s8
      refine ⟨fun V W hl hn hd hX _ => ?_, ?_⟩
      · obtain ⟨v0, v1, v2, v3, v4, v5, v6, v7, v8, v9, v10, v11, v12, rfl⟩ := len13 hl
        obtain rfl : v9 = none := hn
        replace hX := RXl_out hX
        skip
        refine ⟨rfl, ?_⟩
        go_simp
        exact hX.s9
      refine ⟨fun V W hl hn hd hX _ => ?_, ?_⟩
      · obtain ⟨v0, v1, v2, v3, v4, v5, v6, v7, v8, v9, v10, v11, v12, rfl⟩ := len13 hl
        obtain rfl : v10 = none := hn
        replace hX := RXl_out hX
        skip
        refine ⟨rfl, ?_⟩
        go_simp
        exact hX.s10
      refine ⟨fun V W hl hn hd hX _ => ?_, ?_⟩
      · obtain ⟨v0, v1, v2, v3, v4, v5, v6, v7, v8, v9, v10, v11, v12, rfl⟩ := len13 hl
        obtain rfl : v11 = none := hn
        replace hX := RXl_out hX
        obtain ⟨u9, rfl⟩ := Option.isSome_iff_exists.1 (hd 9 (by decide)); obtain ⟨u4, rfl⟩ := Option.isSome_iff_exists.1 (hd 4 (by decide)); obtain ⟨b9, rfl, hb9, hk9⟩ := hX.p9 _ rfl; have k0 := hk9.cell 0 _ rfl; have kf := hk9.frozen 0; obtain ⟨L4, rfl, hb4, _⟩ := hX.p4 _ rfl
        refine ⟨rfl, ?_⟩
        go_simp
        exact ⟨rfl, hX.s11 _⟩
      refine ⟨fun V W hl hn hd hX _ => ?_, ?_⟩
      · obtain ⟨v0, v1, v2, v3, v4, v5, v6, v7, v8, v9, v10, v11, v12, rfl⟩ := len13 hl
        obtain rfl : v12 = none := hn
        replace hX := RXl_out hX
        obtain ⟨u10, rfl⟩ := Option.isSome_iff_exists.1 (hd 10 (by decide)); obtain ⟨u8, rfl⟩ := Option.isSome_iff_exists.1 (hd 8 (by decide)); obtain ⟨_, b10, rfl, hb10, hk10⟩ := hX.p10 _ rfl; have k0 := hk10.cell 0 _ rfl; have kf := hk10.frozen 0; obtain ⟨_, B8, rfl, hb8, _⟩ := hX.p8 _ rfl
        refine ⟨rfl, ?_⟩
        go_simp
        exact ⟨rfl, hX.s12 _⟩
      trivial
    · intro V W hl hV hX
      obtain ⟨v0, v1, v2, v3, v4, v5, v6, v7, v8, v9, v10, v11, v12, rfl⟩ := len13 hl
      replace hX := RXl_out hX
      obtain ⟨u4, rfl⟩ := Option.isSome_iff_exists.1 (hV 4 (by decide))
      obtain ⟨u8, rfl⟩ := Option.isSome_iff_exists.1 (hV 8 (by decide))
      obtain ⟨u9, rfl⟩ := Option.isSome_iff_exists.1 (hV 9 (by decide))
      obtain ⟨u10, rfl⟩ := Option.isSome_iff_exists.1 (hV 10 (by decide))
      obtain ⟨u11, rfl⟩ := Option.isSome_iff_exists.1 (hV 11 (by decide))
      obtain ⟨u12, rfl⟩ := Option.isSome_iff_exists.1 (hV 12 (by decide))
      have HB := Lib.hid (hX.made (w0 := w) (g := g) (p := p) (r := r) HW2.out FK.out (by have := HW1.out.size; exact this))
      obtain ⟨m, h9, h10, hk, hB⟩ := HB.out
      subst h9 h10
      simp only [putAll, known, List.map_cons, List.map_nil, Act.put, List.setIfInBounds_toArray, List.set_cons_zero, List.set_cons_succ, Option.getD_some]
      go_wp2_with fail
      go_meet
      case rel => exact ⟨m, rfl, rfl, hk, Lib.hid hB⟩
    -- END FIRST
  case rest =>
    obtain ⟨⟨kb, bl, bb, L, B⟩, rfl, rfl, hmk, HBS⟩ := hcut
    simp only at hmk
    subst hmk
    clear b0 b1 b2 b3 b4 b5 CR
    have HAT := Lib.hid HBS.out.at
    obtain ⟨⟨c0, c1, c2, c3, c4, c5⟩, cl, cb, ⟨z0, z1, z2, z3, z4⟩, fL, fB⟩ := HAT.out
    simp only at c0 c1 c2 c3 c4 c5 cl cb z0 z1 z2 z3 z4 fL fB
    have cL0 := HBS.out.atL (i := 0) (by omega)
    simp only at cL0
    have HB1 := Lib.hid (HBS.out.setL 0 0)
    simp only at HB1
    have hne1 : w1.heap.size ≠ L := fun e => HBS.out.far.1 e.symm
    go_upto_block 1 with fail
    go_step
    have HI0 : Hid (Inv (costR g r) g.items.length 0 (allB (costR g r) g.items.length 0)) := Lib.hid (inv_zero _ _)
    refine wp_loop_m [false, false, false, false, false, false, false, false, false, false, false, false, true, true, true, false, false, false, false, false, false, false, false, false, false, false, false, false, false, false, false, false, false, false, false, false, false, false, false, false, false, false, false, false, false, false, false, true, true, true, true, true, true, true, true, true, true, true, true, true, true, true, true, true, true, true, true, true, true, true, true, true, true, true, true, true, true, true, true, true, true, true, true, true, true, false, false, false, false, false, false, false, false, false, false, false, false, false, false, false, false, false, false, false, false, false, false, false, false] 47 (fun U Ds wr => ∃ k : Nat, k ≤ g.items.length ∧ U 47 = .int .i64 (k : Int) ∧ Hid (Marks w.heap.size Ds wr) ∧ Hid (BeS w g p r ⟨w1.heap.size, bl, bb, L, B⟩ (allB (costR g r) g.items.length k) wr)) (fun v => g.items.length - (intOf v).toNat) [] rfl ?_ ?_
    · exact ⟨0, Nat.zero_le _, rfl, Lib.hid (Marks.nil _ _), HB1⟩
    intro U Ds wr hrel
    obtain ⟨k, hk, h47, HM, HB⟩ := hrel
    simp only [over, Nat.reduceAdd, h47]
    clear h47 HB1 HBS HAT c0 c1 c2 c3 c4 c5 cl cb z0 z1 z2 z3 z4 fL fB cL0 hne1 HI0
    obtain ⟨⟨c0, c1, c2, c3, c4, c5⟩, cl, cb, ⟨z0, z1, z2, z3, z4⟩, fL, fB⟩ := HB.out.at
    simp only at c0 c1 c2 c3 c4 c5 cl cb z0 z1 z2 z3 z4 fL fB
    by_cases hkn : k < g.items.length
    case neg =>
      have hkl : ¬ (k : Int) < (g.items.length : Int) := by omega
      obtain rfl : k = g.items.length := by omega
      clear hkn hk
      -- BEGIN BEHIND
      have hn9 : (g.items.length : Int) < (g.items.length : Int) + 1 := by omega
      obtain ⟨x, HX⟩ : ∃ x, Hid ((allB (costR g r) g.items.length g.items.length).lab.getD g.items.length 0 = x) := ⟨_, Lib.hid rfl⟩
      go_upto_region 18 with fail
      refine wp_region_steady (Ext _) [?_, ?_, ?_, ?_, ?_, ?_] (by kernel_rfl) (by kernel_rfl) rfl (Ext.refl _).drew ?_ ?_
      rotate_left 6
      · refine StepsT.cons (fun W hW => ?_) ?_
        · obtain ⟨⟨q0, q1, q2, q3, q4, q5⟩, ql, qb, ⟨y0, y1, y2, y3, y4⟩, gL, gB⟩ := (HB.out.ext' hW).at; have qn := (HB.out.ext' hW).atL (i := g.items.length) (Nat.le_refl _); simp only at q0 q1 q2 q3 q4 q5 ql qn y0 y1 y2 y3 y4 gL; rw [HX.out] at qn; first | (refine StepT.off rfl hW ?_; rfl) | (refine StepT.go rfl ?_; go_simp; first | (refine ⟨?_, hW⟩; rfl) | (refine Calls.mono (CE.out _) ?_; rintro e w4 ⟨rfl, hb⟩; refine ⟨?_, hW.trans hb⟩; rfl))
        simp only [Act.put, List.setIfInBounds_toArray, List.set_cons_zero, List.set_cons_succ]
        refine StepsT.cons (fun W hW => ?_) ?_
        · obtain ⟨⟨q0, q1, q2, q3, q4, q5⟩, ql, qb, ⟨y0, y1, y2, y3, y4⟩, gL, gB⟩ := (HB.out.ext' hW).at; have qn := (HB.out.ext' hW).atL (i := g.items.length) (Nat.le_refl _); simp only at q0 q1 q2 q3 q4 q5 ql qn y0 y1 y2 y3 y4 gL; rw [HX.out] at qn; first | (refine StepT.off rfl hW ?_; rfl) | (refine StepT.go rfl ?_; go_simp; first | (refine ⟨?_, hW⟩; rfl) | (refine Calls.mono (CE.out _) ?_; rintro e w4 ⟨rfl, hb⟩; refine ⟨?_, hW.trans hb⟩; rfl))
        simp only [Act.put, List.setIfInBounds_toArray, List.set_cons_zero, List.set_cons_succ]
        refine StepsT.cons (fun W hW => ?_) ?_
        · obtain ⟨⟨q0, q1, q2, q3, q4, q5⟩, ql, qb, ⟨y0, y1, y2, y3, y4⟩, gL, gB⟩ := (HB.out.ext' hW).at; have qn := (HB.out.ext' hW).atL (i := g.items.length) (Nat.le_refl _); simp only at q0 q1 q2 q3 q4 q5 ql qn y0 y1 y2 y3 y4 gL; rw [HX.out] at qn; first | (refine StepT.off rfl hW ?_; rfl) | (refine StepT.go rfl ?_; go_simp; first | (refine ⟨?_, hW⟩; rfl) | (refine Calls.mono (CE.out _) ?_; rintro e w4 ⟨rfl, hb⟩; refine ⟨?_, hW.trans hb⟩; rfl))
        simp only [Act.put, List.setIfInBounds_toArray, List.set_cons_zero, List.set_cons_succ]
        refine StepsT.cons (fun W hW => ?_) ?_
        · obtain ⟨⟨q0, q1, q2, q3, q4, q5⟩, ql, qb, ⟨y0, y1, y2, y3, y4⟩, gL, gB⟩ := (HB.out.ext' hW).at; have qn := (HB.out.ext' hW).atL (i := g.items.length) (Nat.le_refl _); simp only at q0 q1 q2 q3 q4 q5 ql qn y0 y1 y2 y3 y4 gL; rw [HX.out] at qn; first | (refine StepT.off rfl hW ?_; rfl) | (refine StepT.go rfl ?_; go_simp; first | (refine ⟨?_, hW⟩; rfl) | (refine Calls.mono (CE.out _) ?_; rintro e w4 ⟨rfl, hb⟩; refine ⟨?_, hW.trans hb⟩; rfl))
        simp only [Act.put, List.setIfInBounds_toArray, List.set_cons_zero, List.set_cons_succ]
        refine StepsT.cons (fun W hW => ?_) ?_
        · obtain ⟨⟨q0, q1, q2, q3, q4, q5⟩, ql, qb, ⟨y0, y1, y2, y3, y4⟩, gL, gB⟩ := (HB.out.ext' hW).at; have qn := (HB.out.ext' hW).atL (i := g.items.length) (Nat.le_refl _); simp only at q0 q1 q2 q3 q4 q5 ql qn y0 y1 y2 y3 y4 gL; rw [HX.out] at qn; first | (refine StepT.off rfl hW ?_; rfl) | (refine StepT.go rfl ?_; go_simp; first | (refine ⟨?_, hW⟩; rfl) | (refine Calls.mono (CE.out _) ?_; rintro e w4 ⟨rfl, hb⟩; refine ⟨?_, hW.trans hb⟩; rfl))
        simp only [Act.put, List.setIfInBounds_toArray, List.set_cons_zero, List.set_cons_succ]
        refine StepsT.cons (fun W hW => ?_) ?_
        · obtain ⟨⟨q0, q1, q2, q3, q4, q5⟩, ql, qb, ⟨y0, y1, y2, y3, y4⟩, gL, gB⟩ := (HB.out.ext' hW).at; have qn := (HB.out.ext' hW).atL (i := g.items.length) (Nat.le_refl _); simp only at q0 q1 q2 q3 q4 q5 ql qn y0 y1 y2 y3 y4 gL; rw [HX.out] at qn; first | (refine StepT.off rfl hW ?_; rfl) | (refine StepT.go rfl ?_; go_simp; first | (refine ⟨?_, hW⟩; rfl) | (refine Calls.mono (CE.out _) ?_; rintro e w4 ⟨rfl, hb⟩; refine ⟨?_, hW.trans hb⟩; rfl))
        simp only [Act.put, List.setIfInBounds_toArray, List.set_cons_zero, List.set_cons_succ]
        trivial
      intro W hW
      simp only [putAll, Act.put, List.setIfInBounds_toArray, List.set_cons_zero, List.set_cons_succ]
      have HBW := Lib.hid (HB.out.ext' hW)
      have HMW := Lib.hid (HM.out.ext hW)
      clear c0 c1 c2 c3 c4 c5 cl cb z0 z1 z2 z3 z4 fL fB HM HB hW
      by_cases hf : x = farC
      case pos =>
        have hE : bestE g r = 12 := by rw [HE.out, if_pos (HX.out.trans hf)]
        obtain ⟨r1, r2, r3⟩ := bestE_none hE (by decide)
        have HE4 := Lib.hid hE; have HR1 := Lib.hid r1; have HR2 := Lib.hid r2; have HR3 := Lib.hid r3
        obtain rfl : x = 1000000000000 := hf
        clear hE r1 r2 r3 HX
        go_wp2
        refine leaves_marks (n0 := w.heap.size) Ds _ HMW.out fun w' hb' _ => ⟨.tuple #[.slice none 0 0, .slice none 0 0, .int .i64 0, .int .i64 12], by simp [results, Tryz.results14], ?_⟩
        rw [HE4.out, HR1.out, HR2.out, HR3.out]
        exact RetB.none_ (Below.trans (HBW.out.ext : Below w.heap.size w W) hb')
      case neg =>
        have e9 : (x == 1000000000000) = false := by rw [beq_eq_false_iff_ne]; exact hf
        have hE : bestE g r = 0 := by rw [HE.out, if_neg (fun e => hf (HX.out.symm.trans e))]
        obtain ⟨⟨c0, c1, c2, c3, c4, c5⟩, cl, cb, ⟨z0, z1, z2, z3, z4⟩, fL, fB⟩ := HBW.out.at
        simp only at c0 c1 c2 c3 c4 c5 cl cb z0 z1 z2 z3 z4 fL fB
        go_wp2_with (first | (go_at_call 32; refine Calls.mono (CE.out _) ?_; rintro e w4 ⟨rfl, hb⟩; have HX4 := Lib.hid hb))
        have HB4 := Lib.hid (HBW.out.ext' HX4.out)
        have HM4 := Lib.hid (HMW.out.ext HX4.out)
        have HE4 := Lib.hid hE
        have HC0 := Lib.hid (ChI.start (cs := costR g r) (n := g.items.length) (fun e => hf (HX.out.symm.trans e)))
        clear hE hf HBW HMW c0 c1 c2 c3 c4 c5 cl cb z0 z1 z2 z3 z4 fL fB
        go_loopw [16, 17] (fun v i wr2 => ∃ (at_ : Nat) (zs : List Int), i = .int .i64 (at_ : Int) ∧ Hid (ChI (costR g r) g.items.length zs at_) ∧ Hid (Own wr2 w4.heap.size v zs) ∧ Hid (Ext w4 wr2)) (fun _ i _ => (intOf i).toNat)
        case atStart => exact ⟨g.items.length, [], rfl, HC0, Lib.hid (Own.nil _ _), Lib.hid (Ext.refl _)⟩
        case round =>
          obtain ⟨at_, zs, rfl, HCH, HO, HX2⟩ := hrel
          have HB5 := Lib.hid (HB4.out.ext' HX2.out)
          obtain ⟨⟨c0, c1, c2, c3, c4, c5⟩, cl, cb, ⟨z0, z1, z2, z3, z4⟩, fL, fB⟩ := HB5.out.at
          simp only at c0 c1 c2 c3 c4 c5 cl cb z0 z1 z2 z3 z4 fL fB
          by_cases h0 : at_ = 0
          case pos =>
            subst h0
            have hz := HCH.out.done
            obtain ⟨hz1, hz2⟩ := ChI.one (by omega) hz
            obtain ⟨g9, cap9, rfl, hcap, hcell, hfro, hrev⟩ := HO.out.reversed HX2.out hz1
            have CV := Lib.hid (fun W => Tryz.slices_Reverse_int_cells g9 0 zs.length cap9 zs W (Nat.le_refl _) (by omega))
            have HCE := Lib.hid hcell; have HFR := Lib.hid hfro; have HRV := Lib.hid hrev; have HCP := Lib.hid hcap; have HZ := Lib.hid hz
            have HZ2 := Lib.hid hz2
            clear hcell hfro hrev hcap hz hz1 hz2
            go_upto_region 27 with (first | (go_at_call 35; refine Calls.mono (CV.out _ HCE.out HFR.out) ?_; rintro e w5 ⟨rfl, q, hw5⟩; obtain ⟨hx5, hr5⟩ := HRV.out q w5 hw5; have HX5 := Lib.hid hx5; have HR5 := Lib.hid hr5; clear hw5 hx5 hr5))
            have HB6 := Lib.hid (HB4.out.ext' HX5.out)
            refine wp_region_steady (Ext _) [?_, ?_, ?_, ?_, ?_, ?_, ?_] (by kernel_rfl) (by kernel_rfl) rfl (Ext.refl _).drew ?_ ?_
            rotate_left 7
            · refine StepsT.cons (fun W hW => ?_) ?_
              · have q1 := (HB6.out.ext' hW).fl.cell 0 _ rfl; have q2 := (HB6.out.ext' hW).fl.lt; simp only at q1 q2; first | (refine StepT.off rfl hW ?_; rfl) | (refine StepT.go rfl ?_; go_simp; first | (refine ⟨?_, hW⟩; rfl))
              simp only [Act.put, List.setIfInBounds_toArray, List.set_cons_zero, List.set_cons_succ]
              refine StepsT.cons (fun W hW => ?_) ?_
              · have q1 := (HB6.out.ext' hW).fl.cell 0 _ rfl; have q2 := (HB6.out.ext' hW).fl.lt; simp only at q1 q2; first | (refine StepT.off rfl hW ?_; rfl) | (refine StepT.go rfl ?_; go_simp; first | (refine ⟨?_, hW⟩; rfl))
              simp only [Act.put, List.setIfInBounds_toArray, List.set_cons_zero, List.set_cons_succ]
              refine StepsT.cons (fun W hW => ?_) ?_
              · have q1 := (HB6.out.ext' hW).fl.cell 0 _ rfl; have q2 := (HB6.out.ext' hW).fl.lt; simp only at q1 q2; first | (refine StepT.off rfl hW ?_; rfl) | (refine StepT.go rfl ?_; go_simp; first | (refine ⟨?_, hW⟩; rfl))
              simp only [Act.put, List.setIfInBounds_toArray, List.set_cons_zero, List.set_cons_succ]
              refine StepsT.cons (fun W hW => ?_) ?_
              · have q1 := (HB6.out.ext' hW).fl.cell 0 _ rfl; have q2 := (HB6.out.ext' hW).fl.lt; simp only at q1 q2; first | (refine StepT.off rfl hW ?_; rfl) | (refine StepT.go rfl ?_; go_simp; first | (refine ⟨?_, hW⟩; rfl))
              simp only [Act.put, List.setIfInBounds_toArray, List.set_cons_zero, List.set_cons_succ]
              refine StepsT.cons (fun W hW => ?_) ?_
              · have q1 := (HB6.out.ext' hW).fl.cell 0 _ rfl; have q2 := (HB6.out.ext' hW).fl.lt; simp only at q1 q2; first | (refine StepT.off rfl hW ?_; rfl) | (refine StepT.go rfl ?_; go_simp; first | (refine ⟨?_, hW⟩; rfl))
              simp only [Act.put, List.setIfInBounds_toArray, List.set_cons_zero, List.set_cons_succ]
              refine StepsT.cons (fun W hW => ?_) ?_
              · have q1 := (HB6.out.ext' hW).fl.cell 0 _ rfl; have q2 := (HB6.out.ext' hW).fl.lt; simp only at q1 q2; first | (refine StepT.off rfl hW ?_; rfl) | (refine StepT.go rfl ?_; go_simp; first | (refine ⟨?_, hW⟩; rfl))
              simp only [Act.put, List.setIfInBounds_toArray, List.set_cons_zero, List.set_cons_succ]
              refine StepsT.cons (fun W hW => ?_) ?_
              · have q1 := (HB6.out.ext' hW).fl.cell 0 _ rfl; have q2 := (HB6.out.ext' hW).fl.lt; simp only at q1 q2; first | (refine StepT.off rfl hW ?_; rfl) | (refine StepT.go rfl ?_; go_simp; first | (refine ⟨?_, hW⟩; rfl))
              simp only [Act.put, List.setIfInBounds_toArray, List.set_cons_zero, List.set_cons_succ]
              trivial
            intro W hW
            simp only [putAll, Act.put, List.setIfInBounds_toArray, List.set_cons_zero, List.set_cons_succ]
            go_wp2
            refine leaves_marks (n0 := w.heap.size) Ds _ (HM4.out.ext (HX5.out.trans hW)) fun w' hb' hc' => ⟨.tuple #[.slice (some ⟨g9, 0, none⟩) zs.length cap9, .slice (some ⟨L, 0, none⟩) (g.items.length + 1) (g.items.length + 1), .int .i64 x, .int .i64 0], by simp [results, Tryz.results14], ?_⟩
            have hB7 := HB6.out.ext' hW
            have hle : (allB (costR g r) g.items.length g.items.length).lab.length = g.items.length + 1 := hB7.nl
            have hrl := RI.of_vals hB7.rl (by rw [hle]; omega)
            rw [hle] at hrl
            have hbB : bestB g r = zs.reverse := by unfold bestB; rw [if_pos HE4.out, HZ.out]
            have hbL : bestL g r = (allB (costR g r) g.items.length g.items.length).lab := by unfold bestL; rw [if_pos HE4.out]
            have hbC : bestC g r = x := by unfold bestC; rw [if_pos HE4.out]; exact HX.out
            rw [hbB, hbL, hbC, HE4.out]
            have hX9 : Ext w W := hB7.ext
            exact RetB.mk2 (List.length_reverse) hle (hc'.ri (HR5.out.ext hW)) (hc'.ri hrl) HCP.out ⟨Nat.le_refl _, by unfold maxLen; omega⟩ (Below.trans hX9 hb')
          case neg =>
            obtain ⟨a9, ha1, ha2, HCH2, ha3, ha4⟩ := HCH.out.next HS.out hn (by omega)
            have HCH3 := Lib.hid HCH2; clear HCH2
            have qb := HB5.out.atB (i := at_) ha3
            simp only at qb
            rw [ha1] at qb
            have p1 : (0 : Int) < (at_ : Int) := by omega
            have p2 : (at_ : Int) < (g.items.length : Int) + 1 := by omega
            have HZ5 : Hid (zs.length ≤ 1000) := Lib.hid (by omega)
            have HA1 := Lib.hid ha1; have HA3 := Lib.hid ha3
            clear ha1 ha3 ha4
            go_wp2_with (first | (at_builtin; refine list_push rfl (.tmp 100) (.tmp 102) rfl w4.heap.size _ zs rfl (HO.out.ext (by repeat (first | exact Ext.refl _ | assumption | refine Ext.alloc ?_ _ | refine Ext.drew ?_ | refine Ext.drewN ?_ _ | (refine Ext.setCell ?_ (by simp <;> omega) _) | refine Ext.trans ?_ (by assumption)))) wr.heap.size (at_ : Int) rfl (by simp) (by have := HZ5.out; omega) (by have := HX2.out.size; simp; omega) ?_; intro v' w' ho hg; have HO2 := Lib.hid ho; have HG2 := Lib.hid hg; clear ho hg; have HX6 : Hid (Ext w4 w') := Lib.hid (Ext.grown (HX2.out.trans (by repeat (first | exact Ext.refl _ | assumption | refine Ext.alloc ?_ _ | refine Ext.drew ?_ | refine Ext.drewN ?_ _ | (refine Ext.setCell ?_ (by simp <;> omega) _) | refine Ext.trans ?_ (by assumption)))) HG2.out fun k hk => HO.out.base_le k hk); have qb2 := (HB4.out.ext' HX6.out).atB (i := at_) HA3.out; have qb3 := (HB4.out.ext' HX6.out).fb.cell 0 _ rfl; have qb4 := (HB4.out.ext' HX6.out).at.2.2.2.1; simp only at qb2 qb3 qb4; rw [HA1.out] at qb2))
            go_roundw
            case rel => exact ⟨a9, zs ++ [(at_ : Int)], rfl, HCH3, HO2, HX6⟩
            case measure => simp [intOf]; omega
      -- END BEHIND
    case pos =>
      have hkl : (k : Int) < (g.items.length : Int) := by omega
      have hkl2 : (k : Int) < (g.items.length : Int) + 1 := by omega
      have ck := HB.out.atL (i := k) hk
      simp only at ck
      obtain ⟨x, HX⟩ : ∃ x, Hid ((allB (costR g r) g.items.length k).lab.getD k 0 = x) := ⟨_, Lib.hid rfl⟩
      rw [HX.out] at ck
      have hk1 : IntKind.i64.wrap ((k : Int) + 1) = ((k + 1 : Nat) : Int) := by rw [IntWalk.i64_in _ (by omega)]; omega
      have HL : Hid (Nat.le k g.items.length) := Lib.hid hk
      by_cases hfar : x = farC
      case pos =>
        have hnx : allB (costR g r) g.items.length (k + 1) = allB (costR g r) g.items.length k := by rw [allB, if_pos (HX.out.trans hfar)]
        have HNX := Lib.hid hnx; clear hnx
        obtain rfl : x = 1000000000000 := hfar
        go_wp2
        refine ⟨Ds, rfl, rfl, ⟨k + 1, by omega, rfl, Lib.hid (HM.out.ext (by repeat (first | exact Ext.refl _ | assumption | refine Ext.alloc ?_ _ | refine Ext.drew ?_ | refine Ext.drewN ?_ _ | (refine Ext.setCell ?_ (by simp <;> omega) _) | refine Ext.trans ?_ (by assumption)))), Lib.hid ?_⟩, ?_⟩
        · rw [HNX.out]; exact HB.out.ext' (by repeat (first | exact Ext.refl _ | assumption | refine Ext.alloc ?_ _ | refine Ext.drew ?_ | refine Ext.drewN ?_ _ | (refine Ext.setCell ?_ (by simp <;> omega) _) | refine Ext.trans ?_ (by assumption)))
        · simp [intOf]; omega
      case neg =>
        have e9 : (x == 1000000000000) = false := by rw [beq_eq_false_iff_ne]; exact hfar
        have hnx : allB (costR g r) g.items.length (k + 1) = rowB (costR g r) k (allB (costR g r) g.items.length k) (g.items.length - k) := by rw [allB, if_neg (fun e => hfar (HX.out.symm.trans e))]
        rw [rowB_foldB _ g.items.length k _ _ (by omega)] at hnx
        have HNX := Lib.hid hnx; clear hnx
        have CP := Lib.hid (fun W => pages_any g p r (k : Int) W)
        unfold bkVal at CP
        go_upto_block 3 with (first | (go_at_call 34; refine Calls.mono (CP.out _) ?_; rintro e w3 ⟨rfl, rfl⟩))
        go_step
        have hxb := lab_bd HS.out hn hk
        rw [HX.out] at hxb
        obtain ⟨wq, hwq⟩ : ∃ wq, ((wr.alloc (.cells #[.int .i64 (k : Int)] 3)).alloc (.cells #[.slice p.A g.items.length p.c, .slice p.B g.notes.length p.d, .int .i64 r.height, .int .i64 r.gap, .int .i64 r.widow, .int .i64 r.orphan] 76)).alloc (.cells #[.int .i64 (k : Int)] 3) = wq := ⟨_, rfl⟩
        have hxq : Ext wr wq := by rw [← hwq]; exact (by repeat (first | exact Ext.refl _ | assumption | refine Ext.alloc ?_ _ | refine Ext.drew ?_ | refine Ext.drewN ?_ _ | (refine Ext.setCell ?_ (by simp <;> omega) _) | refine Ext.trans ?_ (by assumption)))
        have hF : Blk wq wr.heap.size 3 #[.int .i64 (k : Int)] := by rw [← hwq]; exact ((Blk.new wr _ _).alloc _).alloc _
        have hK : Blk wq (wr.heap.size + 1) 76 #[.slice p.A g.items.length p.c, .slice p.B g.notes.length p.d, .int .i64 r.height, .int .i64 r.gap, .int .i64 r.widow, .int .i64 r.orphan] := by rw [← hwq]; exact (Blk.new1 wr _ _ _).alloc _
        have hK2 : Blk wq (wr.heap.size + 1 + 1) 3 #[.int .i64 (k : Int)] := by rw [← hwq]; exact Blk.new2 wr _ _ _ _
        rw [hwq]
        clear hwq c0 c1 c2 c3 c4 c5 cl cb fL fB
        have HBQ := Lib.hid (HB.out.ext' hxq); have HMQ := Lib.hid (HM.out.ext hxq); have HF := Lib.hid hF
        have HPS : Hid (PgS w g p r k (wr.heap.size + 1) (wr.heap.size + 1 + 1) wq) := Lib.hid ⟨HBQ.out.ext, hK, hK2⟩
        have hq1 := hK.lt; have hq2 := hK2.lt; have hq0 := HBQ.out.ext.size
        have HMB : Hid (∀ D, D ∈ Ds → D < wq.heap.size) := Lib.hid fun D hD => (HMQ.out.2 D hD).2.1
        clear hxq hF hK hK2
        refine (wpIn_wide (n := 3)).1 ?_
        refine wpIn_rangeFunc_ownG_of_H (gf := 52) (lb := #[.pointer (some ⟨wr.heap.size + 1 + 1, 0, none⟩), .pointer (some ⟨wr.heap.size + 1, 0, none⟩)]) rfl (by decide) rfl trivial (enters_of Tryz.func52 (by kernel_rfl) rfl)
          (pages1_stops g p r k (wr.heap.size + 1) (wr.heap.size + 1 + 1) 2 w wq (by decide) HG.out hkn HR0.out HQ.out HPS.out) (fun h k => KpP.trans h k) (fun W l o o' hl _ _ _ => KpP.of_put (w := wq) hq0 hq1 hq2 W l o' hl) (Below.refl _ _) (fun _ => rfl)
          (fun pre W => BeS w g p r ⟨w1.heap.size, bl, bb, L, B⟩ (foldB (costR g r) g.items.length k (allB (costR g r) g.items.length k) pre) W ∧ (Blk W wr.heap.size 3 #[.int .i64 (k : Int)] ∧ (Blk W (wr.heap.size + 1 + 1) 3 #[.int .i64 (k : Int)] ∧ Marks w.heap.size Ds W))) (fun _ _ _ => False)
          (OwnFrom.and (BeS.own _ hq0 _) (OwnFrom.and (Blk.own _ _ _ _) (OwnFrom.and (Blk.own _ _ _ _) (Marks.own _ _ _ HMB.out)))) (fun _ _ _ _ _ h _ _ => h.elim) ⟨HBQ.out, HF.out, HPS.out.bfr, HMQ.out⟩ ?a1 ?assign ?body ?done ?stop (KpP.refl _ _ _)
        case assign =>
          intro l x2 W K hK
          gi_wp2
          exact hK
        case body =>
          rintro l pre ⟨t, ht1, ht2, ht3⟩ wo ⟨hB2, hF2, hF3, hM2⟩ hlen
          -- BEGIN BODY
          have HFK := Lib.hid (foldB_keep (costR g r) g.items.length k pre (allB (costR g r) g.items.length k))
          have hcb := HS.out k t ht1 ht2 ht3
          have hps := foldB_snoc (costR g r) g.items.length k (allB (costR g r) g.items.length k) pre ⟨t, ht1, ht2, ht3⟩
          have HPP := Lib.hid hps; clear hps
          have HST : Hid (∀ s : LB, stepB (costR g r) k t s = if s.lab.getD k 0 + (costR g r k t).1 < s.lab.getD t 0 then ⟨s.lab.set t (s.lab.getD k 0 + (costR g r k t).1), s.bef.set t k⟩ else s) := Lib.hid fun s => by
            unfold stepB
            by_cases h : s.lab.getD k 0 + (costR g r k t).1 < s.lab.getD t 0
            · rw [if_pos ⟨ht3, h⟩, if_pos h]
            · rw [if_neg (fun q => h q.2), if_neg h]
          have HMX : Hid (Nat.lt k t) := Lib.hid ht1
          have HTX : Hid (t ≤ g.items.length) := Lib.hid ht2
          simp only at HPP
          generalize hss : foldB (costR g r) g.items.length k (allB (costR g r) g.items.length k) pre = s at *
          have HSS := Lib.hid hss; clear hss
          rw [HX.out] at HFK
          generalize (costR g r k t).1 = c at *
          have hw3 : IntKind.i64.wrap (x + c) = x + c := IntWalk.i64_in _ (by omega)
          have ht4 : (t : Int) < (g.items.length : Int) + 1 := by omega
          obtain ⟨y, HY⟩ : ∃ y, Hid (s.lab.getD t 0 = y) := ⟨_, Lib.hid rfl⟩
          gi_step
          gi_step
          gi_step
          refine wpIn_region_steady (Ext _) [?_, ?_, ?_, ?_, ?_, ?_, ?_, ?_, ?_, ?_, ?_] (by kernel_rfl) (by kernel_rfl) (by kernel_rfl) rfl (Ext.refl _).drew ?_ ?_
          rotate_left 11
          · refine StepsT.cons (fun W hW => ?_) ?_
            · obtain ⟨_, ql, qb, ⟨y0, y1, y2, y3, y4⟩, gL, gB⟩ := (hB2.ext' hW).at; have qk := (hB2.ext' hW).atL (i := k) hk; have qt := (hB2.ext' hW).atL (i := t) HTX.out; have qf := (hF2.ext hW).cell 0 _ rfl; have qfl := (hF2.ext hW).lt; simp only at ql qb y0 y1 y2 y3 y4 gL gB qk qt; rw [HFK.out] at qk; rw [HY.out] at qt; first | (refine StepT.off rfl hW ?_; rfl) | (refine StepT.go rfl ?_; go_simp; first | (refine ⟨?_, hW⟩; rfl))
            simp only [Act.put, List.setIfInBounds_toArray, List.set_cons_zero, List.set_cons_succ]
            refine StepsT.cons (fun W hW => ?_) ?_
            · obtain ⟨_, ql, qb, ⟨y0, y1, y2, y3, y4⟩, gL, gB⟩ := (hB2.ext' hW).at; have qk := (hB2.ext' hW).atL (i := k) hk; have qt := (hB2.ext' hW).atL (i := t) HTX.out; have qf := (hF2.ext hW).cell 0 _ rfl; have qfl := (hF2.ext hW).lt; simp only at ql qb y0 y1 y2 y3 y4 gL gB qk qt; rw [HFK.out] at qk; rw [HY.out] at qt; first | (refine StepT.off rfl hW ?_; rfl) | (refine StepT.go rfl ?_; go_simp; first | (refine ⟨?_, hW⟩; rfl))
            simp only [Act.put, List.setIfInBounds_toArray, List.set_cons_zero, List.set_cons_succ]
            refine StepsT.cons (fun W hW => ?_) ?_
            · obtain ⟨_, ql, qb, ⟨y0, y1, y2, y3, y4⟩, gL, gB⟩ := (hB2.ext' hW).at; have qk := (hB2.ext' hW).atL (i := k) hk; have qt := (hB2.ext' hW).atL (i := t) HTX.out; have qf := (hF2.ext hW).cell 0 _ rfl; have qfl := (hF2.ext hW).lt; simp only at ql qb y0 y1 y2 y3 y4 gL gB qk qt; rw [HFK.out] at qk; rw [HY.out] at qt; first | (refine StepT.off rfl hW ?_; rfl) | (refine StepT.go rfl ?_; go_simp; first | (refine ⟨?_, hW⟩; rfl))
            simp only [Act.put, List.setIfInBounds_toArray, List.set_cons_zero, List.set_cons_succ]
            refine StepsT.cons (fun W hW => ?_) ?_
            · obtain ⟨_, ql, qb, ⟨y0, y1, y2, y3, y4⟩, gL, gB⟩ := (hB2.ext' hW).at; have qk := (hB2.ext' hW).atL (i := k) hk; have qt := (hB2.ext' hW).atL (i := t) HTX.out; have qf := (hF2.ext hW).cell 0 _ rfl; have qfl := (hF2.ext hW).lt; simp only at ql qb y0 y1 y2 y3 y4 gL gB qk qt; rw [HFK.out] at qk; rw [HY.out] at qt; first | (refine StepT.off rfl hW ?_; rfl) | (refine StepT.go rfl ?_; go_simp; first | (refine ⟨?_, hW⟩; rfl))
            simp only [Act.put, List.setIfInBounds_toArray, List.set_cons_zero, List.set_cons_succ]
            refine StepsT.cons (fun W hW => ?_) ?_
            · obtain ⟨_, ql, qb, ⟨y0, y1, y2, y3, y4⟩, gL, gB⟩ := (hB2.ext' hW).at; have qk := (hB2.ext' hW).atL (i := k) hk; have qt := (hB2.ext' hW).atL (i := t) HTX.out; have qf := (hF2.ext hW).cell 0 _ rfl; have qfl := (hF2.ext hW).lt; simp only at ql qb y0 y1 y2 y3 y4 gL gB qk qt; rw [HFK.out] at qk; rw [HY.out] at qt; first | (refine StepT.off rfl hW ?_; rfl) | (refine StepT.go rfl ?_; go_simp; first | (refine ⟨?_, hW⟩; rfl))
            simp only [Act.put, List.setIfInBounds_toArray, List.set_cons_zero, List.set_cons_succ]
            refine StepsT.cons (fun W hW => ?_) ?_
            · obtain ⟨_, ql, qb, ⟨y0, y1, y2, y3, y4⟩, gL, gB⟩ := (hB2.ext' hW).at; have qk := (hB2.ext' hW).atL (i := k) hk; have qt := (hB2.ext' hW).atL (i := t) HTX.out; have qf := (hF2.ext hW).cell 0 _ rfl; have qfl := (hF2.ext hW).lt; simp only at ql qb y0 y1 y2 y3 y4 gL gB qk qt; rw [HFK.out] at qk; rw [HY.out] at qt; first | (refine StepT.off rfl hW ?_; rfl) | (refine StepT.go rfl ?_; go_simp; first | (refine ⟨?_, hW⟩; rfl))
            simp only [Act.put, List.setIfInBounds_toArray, List.set_cons_zero, List.set_cons_succ]
            refine StepsT.cons (fun W hW => ?_) ?_
            · obtain ⟨_, ql, qb, ⟨y0, y1, y2, y3, y4⟩, gL, gB⟩ := (hB2.ext' hW).at; have qk := (hB2.ext' hW).atL (i := k) hk; have qt := (hB2.ext' hW).atL (i := t) HTX.out; have qf := (hF2.ext hW).cell 0 _ rfl; have qfl := (hF2.ext hW).lt; simp only at ql qb y0 y1 y2 y3 y4 gL gB qk qt; rw [HFK.out] at qk; rw [HY.out] at qt; first | (refine StepT.off rfl hW ?_; rfl) | (refine StepT.go rfl ?_; go_simp; first | (refine ⟨?_, hW⟩; rfl))
            simp only [Act.put, List.setIfInBounds_toArray, List.set_cons_zero, List.set_cons_succ]
            refine StepsT.cons (fun W hW => ?_) ?_
            · obtain ⟨_, ql, qb, ⟨y0, y1, y2, y3, y4⟩, gL, gB⟩ := (hB2.ext' hW).at; have qk := (hB2.ext' hW).atL (i := k) hk; have qt := (hB2.ext' hW).atL (i := t) HTX.out; have qf := (hF2.ext hW).cell 0 _ rfl; have qfl := (hF2.ext hW).lt; simp only at ql qb y0 y1 y2 y3 y4 gL gB qk qt; rw [HFK.out] at qk; rw [HY.out] at qt; first | (refine StepT.off rfl hW ?_; rfl) | (refine StepT.go rfl ?_; go_simp; first | (refine ⟨?_, hW⟩; rfl))
            simp only [Act.put, List.setIfInBounds_toArray, List.set_cons_zero, List.set_cons_succ]
            refine StepsT.cons (fun W hW => ?_) ?_
            · obtain ⟨_, ql, qb, ⟨y0, y1, y2, y3, y4⟩, gL, gB⟩ := (hB2.ext' hW).at; have qk := (hB2.ext' hW).atL (i := k) hk; have qt := (hB2.ext' hW).atL (i := t) HTX.out; have qf := (hF2.ext hW).cell 0 _ rfl; have qfl := (hF2.ext hW).lt; simp only at ql qb y0 y1 y2 y3 y4 gL gB qk qt; rw [HFK.out] at qk; rw [HY.out] at qt; first | (refine StepT.off rfl hW ?_; rfl) | (refine StepT.go rfl ?_; go_simp; first | (refine ⟨?_, hW⟩; rfl))
            simp only [Act.put, List.setIfInBounds_toArray, List.set_cons_zero, List.set_cons_succ]
            refine StepsT.cons (fun W hW => ?_) ?_
            · obtain ⟨_, ql, qb, ⟨y0, y1, y2, y3, y4⟩, gL, gB⟩ := (hB2.ext' hW).at; have qk := (hB2.ext' hW).atL (i := k) hk; have qt := (hB2.ext' hW).atL (i := t) HTX.out; have qf := (hF2.ext hW).cell 0 _ rfl; have qfl := (hF2.ext hW).lt; simp only at ql qb y0 y1 y2 y3 y4 gL gB qk qt; rw [HFK.out] at qk; rw [HY.out] at qt; first | (refine StepT.off rfl hW ?_; rfl) | (refine StepT.go rfl ?_; go_simp; first | (refine ⟨?_, hW⟩; rfl))
            simp only [Act.put, List.setIfInBounds_toArray, List.set_cons_zero, List.set_cons_succ]
            refine StepsT.cons (fun W hW => ?_) ?_
            · obtain ⟨_, ql, qb, ⟨y0, y1, y2, y3, y4⟩, gL, gB⟩ := (hB2.ext' hW).at; have qk := (hB2.ext' hW).atL (i := k) hk; have qt := (hB2.ext' hW).atL (i := t) HTX.out; have qf := (hF2.ext hW).cell 0 _ rfl; have qfl := (hF2.ext hW).lt; simp only at ql qb y0 y1 y2 y3 y4 gL gB qk qt; rw [HFK.out] at qk; rw [HY.out] at qt; first | (refine StepT.off rfl hW ?_; rfl) | (refine StepT.go rfl ?_; go_simp; first | (refine ⟨?_, hW⟩; rfl))
            simp only [Act.put, List.setIfInBounds_toArray, List.set_cons_zero, List.set_cons_succ]
            trivial
          intro W hW
          simp only [putAll, Act.put, List.setIfInBounds_toArray, List.set_cons_zero, List.set_cons_succ]
          have hlo := hF3.lt
          by_cases hlt : x + c < y
          case neg =>
            gi_wp2
            refine ⟨hW.keeps _, hW.kp (by omega) (by omega), ?_, hF2.ext hW, hF3.ext hW, hM2.ext hW⟩
            rw [HPP.out, HST.out, HFK.out, HY.out, if_neg (by omega)]
            exact hB2.ext' hW
          case pos =>
            have HB9 := Lib.hid (hB2.ext' hW.drew)
            have HS9 : Hid (RowS w g p r ⟨w1.heap.size, bl, bb, L, B⟩ s k t wr.heap.size (wr.heap.size + 1) (wr.heap.size + 1 + 1) wq.heap.size Ds wo W.drew) := Lib.hid ⟨⟨s.lab.getD t 0, s.bef.getD t 0, by rw [set_own, set_own]; exact HB9.out⟩, hF2.ext hW.drew, hM2.ext hW.drew, hW.drew.keeps _, hW.drew.kp (by omega) (by omega)⟩
            repeat gi_step
            have hne1 : k ≠ t := by omega
            have HNE : Hid ((wr.heap.size + 1 ≠ L ∧ wr.heap.size + 1 + 1 ≠ L ∧ wr.heap.size ≠ L) ∧ wr.heap.size + 1 ≠ B ∧ wr.heap.size + 1 + 1 ≠ B ∧ wr.heap.size ≠ B) := Lib.hid (by
              have h1 := HB.out.rl.lt; have h2 := HB.out.rb.lt
              simp only at h1 h2
              omega)
            have HK9 : Hid (k ≤ g.items.length) := Lib.hid hk
            have HN9 := Lib.hid hne1
            refine wpIn_region_steadyF (RowS w g p r ⟨w1.heap.size, bl, bb, L, B⟩ s k t wr.heap.size (wr.heap.size + 1) (wr.heap.size + 1 + 1) wq.heap.size Ds wo) (fun j W => (j = 12 → Blk W L 3 (vals (s.lab.set t (x + c)))) ∧ (j = 14 → Blk W B 3 (vals (s.bef.set t (k : Int))))) [?_, ?_, ?_, ?_, ?_, ?_, ?_, ?_, ?_, ?_, ?_, ?_, ?_, ?_, ?_] (by kernel_rfl) (by kernel_rfl) (by kernel_rfl) rfl ?_ ?_ ?_
            rotate_left 15
            · exact HS9.out
            · skip
              refine StepsF.cons (fun W hW => ?_) ?_
              · obtain ⟨q0, q1, q2, q3, ⟨z4, q4⟩, ⟨z5, q5⟩, q6, q7, q8, q9, qa, qb, qc⟩ := hW.at HK9.out HTX.out HN9.out; simp only at q0 q1 q3 q4 q5 q6 q7 q8 q9 qa qb; rw [HFK.out] at q3; refine StepT.go rfl ?_; go_simp; refine ⟨?_, hW, ⟨fun h => (by cases h), fun h => (by cases h)⟩, fun _ h => h⟩; rfl
              simp only [Act.put, List.setIfInBounds_toArray, List.set_cons_zero, List.set_cons_succ]
              refine StepsF.cons (fun W hW => ?_) ?_
              · obtain ⟨q0, q1, q2, q3, ⟨z4, q4⟩, ⟨z5, q5⟩, q6, q7, q8, q9, qa, qb, qc⟩ := hW.at HK9.out HTX.out HN9.out; simp only at q0 q1 q3 q4 q5 q6 q7 q8 q9 qa qb; rw [HFK.out] at q3; refine StepT.go rfl ?_; go_simp; refine ⟨?_, hW, ⟨fun h => (by cases h), fun h => (by cases h)⟩, fun _ h => h⟩; rfl
              simp only [Act.put, List.setIfInBounds_toArray, List.set_cons_zero, List.set_cons_succ]
              refine StepsF.cons (fun W hW => ?_) ?_
              · obtain ⟨q0, q1, q2, q3, ⟨z4, q4⟩, ⟨z5, q5⟩, q6, q7, q8, q9, qa, qb, qc⟩ := hW.at HK9.out HTX.out HN9.out; simp only at q0 q1 q3 q4 q5 q6 q7 q8 q9 qa qb; rw [HFK.out] at q3; refine StepT.go rfl ?_; go_simp; refine ⟨?_, hW, ⟨fun h => (by cases h), fun h => (by cases h)⟩, fun _ h => h⟩; rfl
              simp only [Act.put, List.setIfInBounds_toArray, List.set_cons_zero, List.set_cons_succ]
              refine StepsF.cons (fun W hW => ?_) ?_
              · obtain ⟨q0, q1, q2, q3, ⟨z4, q4⟩, ⟨z5, q5⟩, q6, q7, q8, q9, qa, qb, qc⟩ := hW.at HK9.out HTX.out HN9.out; simp only at q0 q1 q3 q4 q5 q6 q7 q8 q9 qa qb; rw [HFK.out] at q3; refine StepT.go rfl ?_; go_simp; refine ⟨?_, hW, ⟨fun h => (by cases h), fun h => (by cases h)⟩, fun _ h => h⟩; rfl
              simp only [Act.put, List.setIfInBounds_toArray, List.set_cons_zero, List.set_cons_succ]
              refine StepsF.cons (fun W hW => ?_) ?_
              · obtain ⟨q0, q1, q2, q3, ⟨z4, q4⟩, ⟨z5, q5⟩, q6, q7, q8, q9, qa, qb, qc⟩ := hW.at HK9.out HTX.out HN9.out; simp only at q0 q1 q3 q4 q5 q6 q7 q8 q9 qa qb; rw [HFK.out] at q3; refine StepT.go rfl ?_; go_simp; refine ⟨?_, hW, ⟨fun h => (by cases h), fun h => (by cases h)⟩, fun _ h => h⟩; rfl
              simp only [Act.put, List.setIfInBounds_toArray, List.set_cons_zero, List.set_cons_succ]
              refine StepsF.cons (fun W hW => ?_) ?_
              · obtain ⟨q0, q1, q2, q3, ⟨z4, q4⟩, ⟨z5, q5⟩, q6, q7, q8, q9, qa, qb, qc⟩ := hW.at HK9.out HTX.out HN9.out; simp only at q0 q1 q3 q4 q5 q6 q7 q8 q9 qa qb; rw [HFK.out] at q3; refine StepT.go rfl ?_; go_simp; refine ⟨?_, hW, ⟨fun h => (by cases h), fun h => (by cases h)⟩, fun _ h => h⟩; rfl
              simp only [Act.put, List.setIfInBounds_toArray, List.set_cons_zero, List.set_cons_succ]
              refine StepsF.cons (fun W hW => ?_) ?_
              · obtain ⟨q0, q1, q2, q3, ⟨z4, q4⟩, ⟨z5, q5⟩, q6, q7, q8, q9, qa, qb, qc⟩ := hW.at HK9.out HTX.out HN9.out; simp only at q0 q1 q3 q4 q5 q6 q7 q8 q9 qa qb; rw [HFK.out] at q3; refine StepT.go rfl ?_; go_simp; refine ⟨?_, hW, ⟨fun h => (by cases h), fun h => (by cases h)⟩, fun _ h => h⟩; rfl
              simp only [Act.put, List.setIfInBounds_toArray, List.set_cons_zero, List.set_cons_succ]
              refine StepsF.cons (fun W hW => ?_) ?_
              · obtain ⟨q0, q1, q2, q3, ⟨z4, q4⟩, ⟨z5, q5⟩, q6, q7, q8, q9, qa, qb, qc⟩ := hW.at HK9.out HTX.out HN9.out; simp only at q0 q1 q3 q4 q5 q6 q7 q8 q9 qa qb; rw [HFK.out] at q3; refine StepT.go rfl ?_; go_simp; refine ⟨?_, hW, ⟨fun h => (by cases h), fun h => (by cases h)⟩, fun _ h => h⟩; rfl
              simp only [Act.put, List.setIfInBounds_toArray, List.set_cons_zero, List.set_cons_succ]
              refine StepsF.cons (fun W hW => ?_) ?_
              · obtain ⟨q0, q1, q2, q3, ⟨z4, q4⟩, ⟨z5, q5⟩, q6, q7, q8, q9, qa, qb, qc⟩ := hW.at HK9.out HTX.out HN9.out; simp only at q0 q1 q3 q4 q5 q6 q7 q8 q9 qa qb; rw [HFK.out] at q3; refine StepT.go rfl ?_; go_simp; refine ⟨?_, hW, ⟨fun h => (by cases h), fun h => (by cases h)⟩, fun _ h => h⟩; rfl
              simp only [Act.put, List.setIfInBounds_toArray, List.set_cons_zero, List.set_cons_succ]
              refine StepsF.cons (fun W hW => ?_) ?_
              · obtain ⟨q0, q1, q2, q3, ⟨z4, q4⟩, ⟨z5, q5⟩, q6, q7, q8, q9, qa, qb, qc⟩ := hW.at HK9.out HTX.out HN9.out; simp only at q0 q1 q3 q4 q5 q6 q7 q8 q9 qa qb; rw [HFK.out] at q3; refine StepT.go rfl ?_; go_simp; refine ⟨?_, hW, ⟨fun h => (by cases h), fun h => (by cases h)⟩, fun _ h => h⟩; rfl
              simp only [Act.put, List.setIfInBounds_toArray, List.set_cons_zero, List.set_cons_succ]
              refine StepsF.cons (fun W hW => ?_) ?_
              · obtain ⟨q0, q1, q2, q3, ⟨z4, q4⟩, ⟨z5, q5⟩, q6, q7, q8, q9, qa, qb, qc⟩ := hW.at HK9.out HTX.out HN9.out; simp only at q0 q1 q3 q4 q5 q6 q7 q8 q9 qa qb; rw [HFK.out] at q3; refine StepT.go rfl ?_; go_simp; refine ⟨?_, hW, ⟨fun h => (by cases h), fun h => (by cases h)⟩, fun _ h => h⟩; rfl
              simp only [Act.put, List.setIfInBounds_toArray, List.set_cons_zero, List.set_cons_succ]
              refine StepsF.cons (fun W hW => ?_) ?_
              · obtain ⟨q0, q1, q2, q3, ⟨z4, q4⟩, ⟨z5, q5⟩, q6, q7, q8, q9, qa, qb, qc⟩ := hW.at HK9.out HTX.out HN9.out; simp only at q0 q1 q3 q4 q5 q6 q7 q8 q9 qa qb; rw [HFK.out] at q3; refine StepT.go rfl ?_; go_simp; refine ⟨?_, hW, ⟨fun h => (by cases h), fun h => (by cases h)⟩, fun _ h => h⟩; rfl
              simp only [Act.put, List.setIfInBounds_toArray, List.set_cons_zero, List.set_cons_succ]
              refine StepsF.cons (fun W hW => ?_) ?_
              · obtain ⟨q0, q1, q2, q3, ⟨z4, q4⟩, ⟨z5, q5⟩, q6, q7, q8, q9, qa, qb, qc⟩ := hW.at HK9.out HTX.out HN9.out; simp only at q0 q1 q3 q4 q5 q6 q7 q8 q9 qa qb; rw [HFK.out] at q3; refine StepT.go rfl ?_; go_simp; refine ⟨?_, hW.setL (x + c) HNE.out.1.1 HNE.out.1.2.1 HNE.out.1.2.2, ⟨fun _ => hW.blkL (x + c), fun h => (by cases h)⟩, fun _ h => ⟨fun _ => hW.blkL (x + c), fun hj => (h.2 hj).far (fun e => hW.ne e.symm) _⟩⟩; rfl
              simp only [Act.put]
              refine StepsF.cons (fun W hW => ?_) ?_
              · obtain ⟨q0, q1, q2, q3, ⟨z4, q4⟩, ⟨z5, q5⟩, q6, q7, q8, q9, qa, qb, qc⟩ := hW.at HK9.out HTX.out HN9.out; simp only at q0 q1 q3 q4 q5 q6 q7 q8 q9 qa qb; rw [HFK.out] at q3; refine StepT.go rfl ?_; go_simp; refine ⟨?_, hW, ⟨fun h => (by cases h), fun h => (by cases h)⟩, fun _ h => h⟩; rfl
              simp only [Act.put, List.setIfInBounds_toArray, List.set_cons_zero, List.set_cons_succ]
              refine StepsF.cons (fun W hW => ?_) ?_
              · obtain ⟨q0, q1, q2, q3, ⟨z4, q4⟩, ⟨z5, q5⟩, q6, q7, q8, q9, qa, qb, qc⟩ := hW.at HK9.out HTX.out HN9.out; simp only at q0 q1 q3 q4 q5 q6 q7 q8 q9 qa qb; rw [HFK.out] at q3; refine StepT.go rfl ?_; go_simp; refine ⟨?_, hW.setB (k : Int) HNE.out.2.1 HNE.out.2.2.1 HNE.out.2.2.2, ⟨fun h => (by cases h), fun _ => hW.blkB (k : Int)⟩, fun _ h => ⟨fun hj => (h.1 hj).far hW.ne _, fun _ => hW.blkB (k : Int)⟩⟩; rfl
              simp only [Act.put]
              trivial
            intro W hW hF
            simp only [putAll, Act.put, List.setIfInBounds_toArray, List.set_cons_zero, List.set_cons_succ]
            gi_wp2
            refine ⟨hW.kf, hW.kp, ?_, hW.f, hW.kp.2.2.trans hF3, hW.ms⟩
            rw [HPP.out, HST.out, HFK.out, HY.out, if_pos hlt]
            exact hW.done ((hF 12 (by decide)).1 rfl) ((hF 14 (by decide)).2 rfl)
          -- END BODY
        case done =>
          rintro D xs W hD rfl ⟨hB2, hF2, _, hM2⟩ hK
          have HB3 := Lib.hid hB2; have HM3 := Lib.hid (hM2.cons hK (Nat.le_trans hq0 hD) fun E hE => Nat.lt_of_lt_of_le (HMB.out E hE) hD)
          clear hB2 hF2 hM2 hK hD
          dsimp only
          go_wp2
          refine ⟨D :: Ds, rfl, rfl, ⟨k + 1, by omega, rfl, HM3, Lib.hid ?_⟩, ?_⟩
          · rw [HNX.out]; exact HB3.out
          · simp [intOf]; omega
        case stop => exact fun _ _ _ _ _ _ h _ => h.elim
end Go.Proofs.YtfbdklminljecaaGreatDoor
