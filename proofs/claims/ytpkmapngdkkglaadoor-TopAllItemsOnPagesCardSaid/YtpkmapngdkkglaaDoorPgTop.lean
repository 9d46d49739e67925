/-
  Walk: nothing is lost between pages.
-/
import Derived.Test.YtpkmapngdkkglaaDoorPgCol
import Derived.Test.YtpkmapngdkkglaaDoorPgRGal
import Derived.Test.YtpkmapngdkkglaaDoorGI
import Derived.Test.YtpkmapngdkkglaaDoorGE
import Derived.Deep.RegionHeld3
import Derived.Deep.DrawnRows
import Derived.Deep.CutBlock
namespace Go.Proofs.YtpkmapngdkkglaaDoor
open Go.RowKit
attribute [local go_sem ↓] Go.wp_at_zero Go.wp_at_succ

theorem ngap_succ (xs : List IT) (a n : Nat) : ngap xs a (n + 1) = ngap xs a n + (if (xs.getD (a + n) IT.zero).kind = 4 then 0 else (xs.getD (a + n) IT.zero).height) := rfl
theorem Blk.g2 {w : World} {g : Nat} {t : TypeId} {x y : Value} (h : Blk w g t #[x, y]) : w.cell? ⟨g, 0, none⟩ = some x ∧ w.cell? ⟨g, 1, none⟩ = some y ∧ g < w.heap.size := ⟨h.cell 0 _ rfl, h.cell 1 _ rfl, h.lt⟩
theorem Blk.q4 {w : World} {g : Nat} {t : TypeId} {x y z u : Value} (h : Blk w g t #[x, y, z, u]) : w.cell? ⟨g, 0, none⟩ = some x ∧ w.cell? ⟨g, 1, none⟩ = some y ∧ w.cell? ⟨g, 2, none⟩ = some z ∧ w.cell? ⟨g, 3, none⟩ = some u ∧ g < w.heap.size := ⟨h.cell 0 _ rfl, h.cell 1 _ rfl, h.cell 2 _ rfl, h.cell 3 _ rfl, h.lt⟩
theorem wp_appendI2 {w : World} {o : Oper} {a : Act} {K : Act → World → Prop} {Q : Exit → Act → World → Prop} (s x : Operand) (ho : o.op = .call { callee := .builtin .append, args := #[s, x], argTypes := #[23, 23] })
    (base : Nat) (v : Value) (zs : List Int) (hs : a.eval s = v) (hown : Own w base v zs) (A : Option Addr) (n c : Nat) (xs : List Int) (hx : a.eval x = .slice A n c) (hr : RI w A n xs) (hlen : zs.length + xs.length ≤ 1000000) (hbase : base ≤ w.heap.size)
    (h : ∀ v' w', Own w' base v' (zs ++ xs) → w.grownBy w' v.ownBlock → K (a.put o.dst v') w') : o.wp Tryd.prog a w K Q := by
  obtain rfl := hr.len
  obtain ⟨v', w', hr', h2, h3⟩ := run_appendI (c := c) hown hr hlen hbase o.type
  unfold Oper.wp execOp
  simp only [ho, resolve, invoke, builtin, Sem.run_bind, Sem.run_pure, Result.andThen_ok, List.map_toArray, List.map_cons, List.map_nil, hs, hx, hr']
  exact h v' w' h2 h3
theorem step_appendI2 {w : World} {ops : Array Oper} {o : Oper} {a : Act} {K : Act → World → Prop} {Q : Exit → Act → World → Prop} {E : Prop} (hgd : o.guard = none) (s x : Operand) (ho : o.op = .call { callee := .builtin .append, args := #[s, x], argTypes := #[23, 23] })
    (base : Nat) (v : Value) (zs : List Int) (hs : a.eval s = v) (hown : Own w base v zs) (A : Option Addr) (n c : Nat) (xs : List Int) (hx : a.eval x = .slice A n c) (hr : RI w A n xs) (hlen : zs.length + xs.length ≤ 1000000) (hbase : base ≤ w.heap.size)
    (h : ∀ v' w', Own w' base v' (zs ++ xs) → w.grownBy w' v.ownBlock → K (a.put o.dst v') w') : if Region.wanted o (yielded ops a.tmps) = true then Oper.wp Tryd.prog o a w K Q else E := by
  rw [if_pos (by simp [Region.wanted, hgd])]
  exact wp_appendI2 s x ho base v zs hs hown A n c xs hx hr hlen hbase h
/-- What the law's loop keeps: the two boxes, the breaks. -/
structure TpS (w : World) (g : GT) (a : GA) (r : QT) (A : Option Addr) (bs : List Int) (W : World) : Prop where
  ext : Ext w W
  bg : Blk W w.heap.size 25 #[.slice a.A g.items.length a.c, .slice a.B g.notes.length a.d]
  bq : Blk W (w.heap.size + 1) 27 #[.int .i64 r.height, .int .i64 r.gap, .int .i64 r.widow, .int .i64 r.orphan]
  ri : RI W A bs.length bs
theorem TpS.next {w W W' : World} {g : GT} {a : GA} {r : QT} {A : Option Addr} {bs : List Int} (h : TpS w g a r A bs W) (hx : Ext W W') : TpS w g a r A bs W' := ⟨h.ext.trans hx, h.bg.ext hx, h.bq.ext hx, h.ri.ext hx⟩
theorem grown_cell {a b : World} {row : Option Nat} {g o : Nat} {u : Value} (h : a.grownBy b row) (hl : g < a.heap.size) (hn : row ≠ some g) (hc : a.cell? ⟨g, o, none⟩ = some u) : b.cell? ⟨g, o, none⟩ = some u := by
  have := h.block g hl (fun e => hn e.symm)
  unfold World.cell? at hc ⊢
  simp only [this]
  exact hc
theorem Own.base_ne {w : World} {base g : Nat} {v : Value} {zs : List Int} (h : Own w base v zs) (hg : g < base) : v.ownBlock ≠ some g := fun e => by
  have := h.base_le g e; omega
theorem TpS.push {w W W' W2 : World} {g : GT} {a : GA} {r : QT} {A : Option Addr} {bs zs : List Int} {v : Value} {base : Nat} (h : TpS w g a r A bs W) (ho : Own W base v zs) (hb : w.heap.size + 1 < base) (hA : 0 < bs.length → ∀ ad, A = some ad → ad.block < base) (hx : Ext W W') (hg : W'.grownBy W2 v.ownBlock) : TpS w g a r A bs W2 := by
  have h1 := h.next hx
  have hn : ∀ k, k < base → v.ownBlock ≠ some k := fun k hk e => by have := ho.base_le k e; omega
  refine ⟨h1.ext.grown hg fun k hk => by have := ho.base_le k hk; omega, (hg.block _ h1.bg.lt fun e => hn _ (by omega) e.symm).trans h1.bg, (hg.block _ h1.bq.lt fun e => hn _ (by omega) e.symm).trans h1.bq, h1.ri.1, h1.ri.2.1, fun hn0 => ?_⟩
  obtain ⟨b, off, he, hl, hc⟩ := h1.ri.2.2 hn0
  exact ⟨b, off, he, Nat.lt_of_lt_of_le hl hg.size, fun k hk => grown_cell hg hl (hn b (hA hn0 _ he)) (hc k hk)⟩
theorem brkSum_bd {cs : CS} {a e n : Nat} {l : List Int} {s : Int} (h : Brk cs a l s e) (hs : Small cs n) (he : e ≤ n) : ∀ k, k ≤ l.length → 0 ≤ brkSum cs a l k ∧ brkSum cs a l k ≤ k * 6000000
  | 0, _ => by simp [brkSum]
  | k + 1, hk => by
    obtain ⟨h1, h2⟩ := brkSum_bd h hs he k (by omega)
    obtain ⟨p1, p2, p3, p4⟩ := h.page_at k (by omega)
    have := hs _ _ p1 (by omega) p4
    have e9 : brkSum cs a l (k + 1) = brkSum cs a l k + (cs (begG a l k) (l.getD k 0).toNat).1 := rfl
    rw [e9]; omega
/-- What the breaks that are found are. -/
theorem best_brk {g : GT} {r : QT} (hR : RightG g) (hq : chkQ r = 0) (hE : bestE g r = 0) : Brk (costR g r) 0 (bestB g r) (bestC g r) g.items.length := by
  have hne : (allB (costR g r) g.items.length g.items.length).lab.getD g.items.length 0 ≠ farC := fun h => by
    unfold bestE at hE
    by_cases h1 : bookErr g r ≠ 0
    · rw [if_pos h1] at hE; exact h1 hE
    rw [if_neg h1] at hE
    by_cases h2 : g.items.length = 0
    · rw [if_pos h2] at hE; cases hE
    rw [if_neg h2, if_pos h] at hE; cases hE
  have := (best_law (cost_small hR hq) hR.many).2 hne
  unfold bestB bestC
  rw [if_pos hE, if_pos hE]
  exact this
theorem bestE_two {g : GT} {r : QT} (h : bookErr g r = 0) (hn : g.items.length ≠ 0) : bestE g r = 12 ∨ bestE g r = 0 := by
  unfold bestE
  rw [if_neg (by rw [h]; decide), if_neg hn]
  split
  · exact .inl rfl
  · exact .inr rfl
set_option maxRecDepth 100000 in
set_option maxHeartbeats 16000000 in
theorem top_any (g : GT) (a : GA) (r : QT) (w : World) (hg : GR w a g) (hT : FigT w) : Calls Tryd.prog 3 #[g.val a, r.val] w (Ret (.bool true) w) := by
  have cG := fun W h => rCheckGalley_any g a W h
  have cQ := fun W => rRules_any r W
  have CM := Lib.hid (fun W h => madeUp_any W h)
  have HG := Lib.hid hg; have HT := Lib.hid hT; clear hg hT
  unfold pairGV at cG
  by_cases hck : (chkG g).2 = 0
  case neg =>
    have e0 : ((chkG g).2 != 0) = true := by simpa using hck
    generalize (chkG g).2 = z at *
    generalize (chkG g).1 = n1 at *
    generalize chkQ r = zq at *
    unfold GT.val QT.val at *
    have CG := Lib.hid cG; clear cG hck cQ
    go_enter Tryd.func3, Tryd.ntmps3
    go_wp2_with (first | (go_at_call 4; refine Calls.mono (CM.out _ (HT.out.ext (by repeat (first | exact Ext.refl _ | assumption | refine Ext.alloc ?_ _ | refine Ext.drew ?_ | refine Ext.drewN ?_ _ | (refine Ext.setCell ?_ (by simp <;> omega) _) | refine Ext.trans ?_ (by assumption))))) ?_; rintro e w1 ⟨rfl, hb⟩; have HX1 : Hid (Ext w w1) := Lib.hid (Ext.trans (by repeat (first | exact Ext.refl _ | assumption | refine Ext.alloc ?_ _ | refine Ext.drew ?_ | refine Ext.drewN ?_ _ | (refine Ext.setCell ?_ (by simp <;> omega) _) | refine Ext.trans ?_ (by assumption))) hb); have HBG := Lib.hid (((Blk.new w 25 #[.slice a.A g.items.length a.c, .slice a.B g.notes.length a.d]).alloc _).ext hb); have HBQ := Lib.hid ((Blk.new1 w _ 27 #[.int .i64 r.height, .int .i64 r.gap, .int .i64 r.widow, .int .i64 r.orphan]).ext hb); obtain ⟨g0, g1, gl⟩ := HBG.out.g2; obtain ⟨q0, q1, q2, q3, ql⟩ := HBQ.out.q4; clear hb) | (go_at_call 5; refine Calls.mono (CG.out _ (HG.out.ext (HX1.out.trans (by repeat (first | exact Ext.refl _ | assumption | refine Ext.alloc ?_ _ | refine Ext.drew ?_ | refine Ext.drewN ?_ _ | (refine Ext.setCell ?_ (by simp <;> omega) _) | refine Ext.trans ?_ (by assumption)))))) ?_; rintro e w2 ⟨rfl, hb⟩; have HX2 := Lib.hid (HX1.out.trans (Ext.trans (by repeat (first | exact Ext.refl _ | assumption | refine Ext.alloc ?_ _ | refine Ext.drew ?_ | refine Ext.drewN ?_ _ | (refine Ext.setCell ?_ (by simp <;> omega) _) | refine Ext.trans ?_ (by assumption))) hb)); have HBG2 := Lib.hid (HBG.out.ext (Ext.trans (by repeat (first | exact Ext.refl _ | assumption | refine Ext.alloc ?_ _ | refine Ext.drew ?_ | refine Ext.drewN ?_ _ | (refine Ext.setCell ?_ (by simp <;> omega) _) | refine Ext.trans ?_ (by assumption))) hb)); have HBQ2 := Lib.hid (HBQ.out.ext (Ext.trans (by repeat (first | exact Ext.refl _ | assumption | refine Ext.alloc ?_ _ | refine Ext.drew ?_ | refine Ext.drewN ?_ _ | (refine Ext.setCell ?_ (by simp <;> omega) _) | refine Ext.trans ?_ (by assumption))) hb)); clear g0 g1 gl q0 q1 q2 q3 ql hb; obtain ⟨g0, g1, gl⟩ := HBG2.out.g2; obtain ⟨q0, q1, q2, q3, ql⟩ := HBQ2.out.q4))
    go_ret
    exact Ret.mk' rfl (HX2.out.trans (by repeat (first | exact Ext.refl _ | assumption | refine Ext.alloc ?_ _ | refine Ext.drew ?_ | refine Ext.drewN ?_ _ | (refine Ext.setCell ?_ (by simp <;> omega) _) | refine Ext.trans ?_ (by assumption))))
  case pos =>
  have hR := chkG_zero hck
  rw [hck] at cG
  generalize (chkG g).1 = n1 at *
  by_cases hq : chkQ r = 0
  case neg =>
    have e0 : (chkQ r != 0) = true := by simpa using hq
    generalize chkQ r = zq at *
    unfold GT.val QT.val at *
    have CG := Lib.hid cG; have CQ := Lib.hid cQ; clear cG cQ hq hR hck
    go_enter Tryd.func3, Tryd.ntmps3
    go_wp2_with (first | (go_at_call 4; refine Calls.mono (CM.out _ (HT.out.ext (by repeat (first | exact Ext.refl _ | assumption | refine Ext.alloc ?_ _ | refine Ext.drew ?_ | refine Ext.drewN ?_ _ | (refine Ext.setCell ?_ (by simp <;> omega) _) | refine Ext.trans ?_ (by assumption))))) ?_; rintro e w1 ⟨rfl, hb⟩; have HX1 : Hid (Ext w w1) := Lib.hid (Ext.trans (by repeat (first | exact Ext.refl _ | assumption | refine Ext.alloc ?_ _ | refine Ext.drew ?_ | refine Ext.drewN ?_ _ | (refine Ext.setCell ?_ (by simp <;> omega) _) | refine Ext.trans ?_ (by assumption))) hb); have HBG := Lib.hid (((Blk.new w 25 #[.slice a.A g.items.length a.c, .slice a.B g.notes.length a.d]).alloc _).ext hb); have HBQ := Lib.hid ((Blk.new1 w _ 27 #[.int .i64 r.height, .int .i64 r.gap, .int .i64 r.widow, .int .i64 r.orphan]).ext hb); obtain ⟨g0, g1, gl⟩ := HBG.out.g2; obtain ⟨q0, q1, q2, q3, ql⟩ := HBQ.out.q4; clear hb) | (go_at_call 5; refine Calls.mono (CG.out _ (HG.out.ext (HX1.out.trans (by repeat (first | exact Ext.refl _ | assumption | refine Ext.alloc ?_ _ | refine Ext.drew ?_ | refine Ext.drewN ?_ _ | (refine Ext.setCell ?_ (by simp <;> omega) _) | refine Ext.trans ?_ (by assumption)))))) ?_; rintro e w2 ⟨rfl, hb⟩; have HX2 := Lib.hid (HX1.out.trans (Ext.trans (by repeat (first | exact Ext.refl _ | assumption | refine Ext.alloc ?_ _ | refine Ext.drew ?_ | refine Ext.drewN ?_ _ | (refine Ext.setCell ?_ (by simp <;> omega) _) | refine Ext.trans ?_ (by assumption))) hb)); have HBG2 := Lib.hid (HBG.out.ext (Ext.trans (by repeat (first | exact Ext.refl _ | assumption | refine Ext.alloc ?_ _ | refine Ext.drew ?_ | refine Ext.drewN ?_ _ | (refine Ext.setCell ?_ (by simp <;> omega) _) | refine Ext.trans ?_ (by assumption))) hb)); have HBQ2 := Lib.hid (HBQ.out.ext (Ext.trans (by repeat (first | exact Ext.refl _ | assumption | refine Ext.alloc ?_ _ | refine Ext.drew ?_ | refine Ext.drewN ?_ _ | (refine Ext.setCell ?_ (by simp <;> omega) _) | refine Ext.trans ?_ (by assumption))) hb)); clear g0 g1 gl q0 q1 q2 q3 ql hb; obtain ⟨g0, g1, gl⟩ := HBG2.out.g2; obtain ⟨q0, q1, q2, q3, ql⟩ := HBQ2.out.q4) | (go_at_call 6; refine Calls.mono (CQ.out _) ?_; rintro e w3 ⟨rfl, hb⟩; have HX3 := Lib.hid (HX2.out.trans (Ext.trans (by repeat (first | exact Ext.refl _ | assumption | refine Ext.alloc ?_ _ | refine Ext.drew ?_ | refine Ext.drewN ?_ _ | (refine Ext.setCell ?_ (by simp <;> omega) _) | refine Ext.trans ?_ (by assumption))) hb)); have HBG3 := Lib.hid (HBG2.out.ext (Ext.trans (by repeat (first | exact Ext.refl _ | assumption | refine Ext.alloc ?_ _ | refine Ext.drew ?_ | refine Ext.drewN ?_ _ | (refine Ext.setCell ?_ (by simp <;> omega) _) | refine Ext.trans ?_ (by assumption))) hb)); have HBQ3 := Lib.hid (HBQ2.out.ext (Ext.trans (by repeat (first | exact Ext.refl _ | assumption | refine Ext.alloc ?_ _ | refine Ext.drew ?_ | refine Ext.drewN ?_ _ | (refine Ext.setCell ?_ (by simp <;> omega) _) | refine Ext.trans ?_ (by assumption))) hb)); clear g0 g1 gl q0 q1 q2 q3 ql hb; obtain ⟨g0, g1, gl⟩ := HBG3.out.g2; obtain ⟨q0, q1, q2, q3, ql⟩ := HBQ3.out.q4))
    go_ret
    exact Ret.mk' rfl (HX3.out.trans (by repeat (first | exact Ext.refl _ | assumption | refine Ext.alloc ?_ _ | refine Ext.drew ?_ | refine Ext.drewN ?_ _ | (refine Ext.setCell ?_ (by simp <;> omega) _) | refine Ext.trans ?_ (by assumption))))
  case pos =>
  rw [hq] at cQ
  have hn9 := hR.many
  by_cases h12 : 12 < g.items.length
  case pos =>
    have i1 : (12 : Int) < (g.items.length : Int) := by omega
    unfold GT.val QT.val at *
    have CG := Lib.hid cG; have CQ := Lib.hid cQ; clear cG cQ hq hR hck h12
    go_enter Tryd.func3, Tryd.ntmps3
    go_wp2_with (first | (go_at_call 4; refine Calls.mono (CM.out _ (HT.out.ext (by repeat (first | exact Ext.refl _ | assumption | refine Ext.alloc ?_ _ | refine Ext.drew ?_ | refine Ext.drewN ?_ _ | (refine Ext.setCell ?_ (by simp <;> omega) _) | refine Ext.trans ?_ (by assumption))))) ?_; rintro e w1 ⟨rfl, hb⟩; have HX1 : Hid (Ext w w1) := Lib.hid (Ext.trans (by repeat (first | exact Ext.refl _ | assumption | refine Ext.alloc ?_ _ | refine Ext.drew ?_ | refine Ext.drewN ?_ _ | (refine Ext.setCell ?_ (by simp <;> omega) _) | refine Ext.trans ?_ (by assumption))) hb); have HBG := Lib.hid (((Blk.new w 25 #[.slice a.A g.items.length a.c, .slice a.B g.notes.length a.d]).alloc _).ext hb); have HBQ := Lib.hid ((Blk.new1 w _ 27 #[.int .i64 r.height, .int .i64 r.gap, .int .i64 r.widow, .int .i64 r.orphan]).ext hb); obtain ⟨g0, g1, gl⟩ := HBG.out.g2; obtain ⟨q0, q1, q2, q3, ql⟩ := HBQ.out.q4; clear hb) | (go_at_call 5; refine Calls.mono (CG.out _ (HG.out.ext (HX1.out.trans (by repeat (first | exact Ext.refl _ | assumption | refine Ext.alloc ?_ _ | refine Ext.drew ?_ | refine Ext.drewN ?_ _ | (refine Ext.setCell ?_ (by simp <;> omega) _) | refine Ext.trans ?_ (by assumption)))))) ?_; rintro e w2 ⟨rfl, hb⟩; have HX2 := Lib.hid (HX1.out.trans (Ext.trans (by repeat (first | exact Ext.refl _ | assumption | refine Ext.alloc ?_ _ | refine Ext.drew ?_ | refine Ext.drewN ?_ _ | (refine Ext.setCell ?_ (by simp <;> omega) _) | refine Ext.trans ?_ (by assumption))) hb)); have HBG2 := Lib.hid (HBG.out.ext (Ext.trans (by repeat (first | exact Ext.refl _ | assumption | refine Ext.alloc ?_ _ | refine Ext.drew ?_ | refine Ext.drewN ?_ _ | (refine Ext.setCell ?_ (by simp <;> omega) _) | refine Ext.trans ?_ (by assumption))) hb)); have HBQ2 := Lib.hid (HBQ.out.ext (Ext.trans (by repeat (first | exact Ext.refl _ | assumption | refine Ext.alloc ?_ _ | refine Ext.drew ?_ | refine Ext.drewN ?_ _ | (refine Ext.setCell ?_ (by simp <;> omega) _) | refine Ext.trans ?_ (by assumption))) hb)); clear g0 g1 gl q0 q1 q2 q3 ql hb; obtain ⟨g0, g1, gl⟩ := HBG2.out.g2; obtain ⟨q0, q1, q2, q3, ql⟩ := HBQ2.out.q4) | (go_at_call 6; refine Calls.mono (CQ.out _) ?_; rintro e w3 ⟨rfl, hb⟩; have HX3 := Lib.hid (HX2.out.trans (Ext.trans (by repeat (first | exact Ext.refl _ | assumption | refine Ext.alloc ?_ _ | refine Ext.drew ?_ | refine Ext.drewN ?_ _ | (refine Ext.setCell ?_ (by simp <;> omega) _) | refine Ext.trans ?_ (by assumption))) hb)); have HBG3 := Lib.hid (HBG2.out.ext (Ext.trans (by repeat (first | exact Ext.refl _ | assumption | refine Ext.alloc ?_ _ | refine Ext.drew ?_ | refine Ext.drewN ?_ _ | (refine Ext.setCell ?_ (by simp <;> omega) _) | refine Ext.trans ?_ (by assumption))) hb)); have HBQ3 := Lib.hid (HBQ2.out.ext (Ext.trans (by repeat (first | exact Ext.refl _ | assumption | refine Ext.alloc ?_ _ | refine Ext.drew ?_ | refine Ext.drewN ?_ _ | (refine Ext.setCell ?_ (by simp <;> omega) _) | refine Ext.trans ?_ (by assumption))) hb)); clear g0 g1 gl q0 q1 q2 q3 ql hb; obtain ⟨g0, g1, gl⟩ := HBG3.out.g2; obtain ⟨q0, q1, q2, q3, ql⟩ := HBQ3.out.q4))
    go_ret
    exact Ret.mk' rfl (HX3.out.trans (by repeat (first | exact Ext.refl _ | assumption | refine Ext.alloc ?_ _ | refine Ext.drew ?_ | refine Ext.drewN ?_ _ | (refine Ext.setCell ?_ (by simp <;> omega) _) | refine Ext.trans ?_ (by assumption))))
  case neg =>
  have i1 : ¬ (12 : Int) < (g.items.length : Int) := by omega
  by_cases h0 : g.items.length = 0
  case pos =>
    have i2 : ((g.items.length : Int) == 0) = true := by rw [beq_iff_eq]; omega
    unfold GT.val QT.val at *
    have CG := Lib.hid cG; have CQ := Lib.hid cQ; clear cG cQ hq hR hck h12 h0
    go_enter Tryd.func3, Tryd.ntmps3
    go_wp2_with (first | (go_at_call 4; refine Calls.mono (CM.out _ (HT.out.ext (by repeat (first | exact Ext.refl _ | assumption | refine Ext.alloc ?_ _ | refine Ext.drew ?_ | refine Ext.drewN ?_ _ | (refine Ext.setCell ?_ (by simp <;> omega) _) | refine Ext.trans ?_ (by assumption))))) ?_; rintro e w1 ⟨rfl, hb⟩; have HX1 : Hid (Ext w w1) := Lib.hid (Ext.trans (by repeat (first | exact Ext.refl _ | assumption | refine Ext.alloc ?_ _ | refine Ext.drew ?_ | refine Ext.drewN ?_ _ | (refine Ext.setCell ?_ (by simp <;> omega) _) | refine Ext.trans ?_ (by assumption))) hb); have HBG := Lib.hid (((Blk.new w 25 #[.slice a.A g.items.length a.c, .slice a.B g.notes.length a.d]).alloc _).ext hb); have HBQ := Lib.hid ((Blk.new1 w _ 27 #[.int .i64 r.height, .int .i64 r.gap, .int .i64 r.widow, .int .i64 r.orphan]).ext hb); obtain ⟨g0, g1, gl⟩ := HBG.out.g2; obtain ⟨q0, q1, q2, q3, ql⟩ := HBQ.out.q4; clear hb) | (go_at_call 5; refine Calls.mono (CG.out _ (HG.out.ext (HX1.out.trans (by repeat (first | exact Ext.refl _ | assumption | refine Ext.alloc ?_ _ | refine Ext.drew ?_ | refine Ext.drewN ?_ _ | (refine Ext.setCell ?_ (by simp <;> omega) _) | refine Ext.trans ?_ (by assumption)))))) ?_; rintro e w2 ⟨rfl, hb⟩; have HX2 := Lib.hid (HX1.out.trans (Ext.trans (by repeat (first | exact Ext.refl _ | assumption | refine Ext.alloc ?_ _ | refine Ext.drew ?_ | refine Ext.drewN ?_ _ | (refine Ext.setCell ?_ (by simp <;> omega) _) | refine Ext.trans ?_ (by assumption))) hb)); have HBG2 := Lib.hid (HBG.out.ext (Ext.trans (by repeat (first | exact Ext.refl _ | assumption | refine Ext.alloc ?_ _ | refine Ext.drew ?_ | refine Ext.drewN ?_ _ | (refine Ext.setCell ?_ (by simp <;> omega) _) | refine Ext.trans ?_ (by assumption))) hb)); have HBQ2 := Lib.hid (HBQ.out.ext (Ext.trans (by repeat (first | exact Ext.refl _ | assumption | refine Ext.alloc ?_ _ | refine Ext.drew ?_ | refine Ext.drewN ?_ _ | (refine Ext.setCell ?_ (by simp <;> omega) _) | refine Ext.trans ?_ (by assumption))) hb)); clear g0 g1 gl q0 q1 q2 q3 ql hb; obtain ⟨g0, g1, gl⟩ := HBG2.out.g2; obtain ⟨q0, q1, q2, q3, ql⟩ := HBQ2.out.q4) | (go_at_call 6; refine Calls.mono (CQ.out _) ?_; rintro e w3 ⟨rfl, hb⟩; have HX3 := Lib.hid (HX2.out.trans (Ext.trans (by repeat (first | exact Ext.refl _ | assumption | refine Ext.alloc ?_ _ | refine Ext.drew ?_ | refine Ext.drewN ?_ _ | (refine Ext.setCell ?_ (by simp <;> omega) _) | refine Ext.trans ?_ (by assumption))) hb)); have HBG3 := Lib.hid (HBG2.out.ext (Ext.trans (by repeat (first | exact Ext.refl _ | assumption | refine Ext.alloc ?_ _ | refine Ext.drew ?_ | refine Ext.drewN ?_ _ | (refine Ext.setCell ?_ (by simp <;> omega) _) | refine Ext.trans ?_ (by assumption))) hb)); have HBQ3 := Lib.hid (HBQ2.out.ext (Ext.trans (by repeat (first | exact Ext.refl _ | assumption | refine Ext.alloc ?_ _ | refine Ext.drew ?_ | refine Ext.drewN ?_ _ | (refine Ext.setCell ?_ (by simp <;> omega) _) | refine Ext.trans ?_ (by assumption))) hb)); clear g0 g1 gl q0 q1 q2 q3 ql hb; obtain ⟨g0, g1, gl⟩ := HBG3.out.g2; obtain ⟨q0, q1, q2, q3, ql⟩ := HBQ3.out.q4))
    go_ret
    exact Ret.mk' rfl (HX3.out.trans (by repeat (first | exact Ext.refl _ | assumption | refine Ext.alloc ?_ _ | refine Ext.drew ?_ | refine Ext.drewN ?_ _ | (refine Ext.setCell ?_ (by simp <;> omega) _) | refine Ext.trans ?_ (by assumption))))
  case neg =>
  have i2 : ((g.items.length : Int) == 0) = false := by rw [beq_eq_false_iff_ne]; omega
  have hbk : bookErr g r = 0 := by unfold bookErr; rw [if_neg (by simpa using hck)]; exact hq
  have cB := fun W h => best_any g a r W h
  rcases bestE_two hbk h0 with hE | hE
  · rw [hE] at cB
    generalize bestB g r = bs at *
    generalize bestL g r = ls at *
    generalize bestC g r = bc at *
    unfold GT.val QT.val at *
    have CG := Lib.hid cG; have CQ := Lib.hid cQ; have CB := Lib.hid cB; clear cG cQ cB hq hR hck h12 h0 hE hbk
    go_enter Tryd.func3, Tryd.ntmps3
    go_wp2_with (first | (go_at_call 4; refine Calls.mono (CM.out _ (HT.out.ext (by repeat (first | exact Ext.refl _ | assumption | refine Ext.alloc ?_ _ | refine Ext.drew ?_ | refine Ext.drewN ?_ _ | (refine Ext.setCell ?_ (by simp <;> omega) _) | refine Ext.trans ?_ (by assumption))))) ?_; rintro e w1 ⟨rfl, hb⟩; have HX1 : Hid (Ext w w1) := Lib.hid (Ext.trans (by repeat (first | exact Ext.refl _ | assumption | refine Ext.alloc ?_ _ | refine Ext.drew ?_ | refine Ext.drewN ?_ _ | (refine Ext.setCell ?_ (by simp <;> omega) _) | refine Ext.trans ?_ (by assumption))) hb); have HBG := Lib.hid (((Blk.new w 25 #[.slice a.A g.items.length a.c, .slice a.B g.notes.length a.d]).alloc _).ext hb); have HBQ := Lib.hid ((Blk.new1 w _ 27 #[.int .i64 r.height, .int .i64 r.gap, .int .i64 r.widow, .int .i64 r.orphan]).ext hb); obtain ⟨g0, g1, gl⟩ := HBG.out.g2; obtain ⟨q0, q1, q2, q3, ql⟩ := HBQ.out.q4; clear hb) | (go_at_call 5; refine Calls.mono (CG.out _ (HG.out.ext (HX1.out.trans (by repeat (first | exact Ext.refl _ | assumption | refine Ext.alloc ?_ _ | refine Ext.drew ?_ | refine Ext.drewN ?_ _ | (refine Ext.setCell ?_ (by simp <;> omega) _) | refine Ext.trans ?_ (by assumption)))))) ?_; rintro e w2 ⟨rfl, hb⟩; have HX2 := Lib.hid (HX1.out.trans (Ext.trans (by repeat (first | exact Ext.refl _ | assumption | refine Ext.alloc ?_ _ | refine Ext.drew ?_ | refine Ext.drewN ?_ _ | (refine Ext.setCell ?_ (by simp <;> omega) _) | refine Ext.trans ?_ (by assumption))) hb)); have HBG2 := Lib.hid (HBG.out.ext (Ext.trans (by repeat (first | exact Ext.refl _ | assumption | refine Ext.alloc ?_ _ | refine Ext.drew ?_ | refine Ext.drewN ?_ _ | (refine Ext.setCell ?_ (by simp <;> omega) _) | refine Ext.trans ?_ (by assumption))) hb)); have HBQ2 := Lib.hid (HBQ.out.ext (Ext.trans (by repeat (first | exact Ext.refl _ | assumption | refine Ext.alloc ?_ _ | refine Ext.drew ?_ | refine Ext.drewN ?_ _ | (refine Ext.setCell ?_ (by simp <;> omega) _) | refine Ext.trans ?_ (by assumption))) hb)); clear g0 g1 gl q0 q1 q2 q3 ql hb; obtain ⟨g0, g1, gl⟩ := HBG2.out.g2; obtain ⟨q0, q1, q2, q3, ql⟩ := HBQ2.out.q4) | (go_at_call 6; refine Calls.mono (CQ.out _) ?_; rintro e w3 ⟨rfl, hb⟩; have HX3 := Lib.hid (HX2.out.trans (Ext.trans (by repeat (first | exact Ext.refl _ | assumption | refine Ext.alloc ?_ _ | refine Ext.drew ?_ | refine Ext.drewN ?_ _ | (refine Ext.setCell ?_ (by simp <;> omega) _) | refine Ext.trans ?_ (by assumption))) hb)); have HBG3 := Lib.hid (HBG2.out.ext (Ext.trans (by repeat (first | exact Ext.refl _ | assumption | refine Ext.alloc ?_ _ | refine Ext.drew ?_ | refine Ext.drewN ?_ _ | (refine Ext.setCell ?_ (by simp <;> omega) _) | refine Ext.trans ?_ (by assumption))) hb)); have HBQ3 := Lib.hid (HBQ2.out.ext (Ext.trans (by repeat (first | exact Ext.refl _ | assumption | refine Ext.alloc ?_ _ | refine Ext.drew ?_ | refine Ext.drewN ?_ _ | (refine Ext.setCell ?_ (by simp <;> omega) _) | refine Ext.trans ?_ (by assumption))) hb)); clear g0 g1 gl q0 q1 q2 q3 ql hb; obtain ⟨g0, g1, gl⟩ := HBG3.out.g2; obtain ⟨q0, q1, q2, q3, ql⟩ := HBQ3.out.q4) | (go_at_call 7; refine Calls.mono (CB.out _ (HG.out.ext (HX3.out.trans (by repeat (first | exact Ext.refl _ | assumption | refine Ext.alloc ?_ _ | refine Ext.drew ?_ | refine Ext.drewN ?_ _ | (refine Ext.setCell ?_ (by simp <;> omega) _) | refine Ext.trans ?_ (by assumption)))))) ?_; rintro e w4 ⟨bA, cA, bB, cB, rfl, hra, _, hca, _, hb⟩; have HX4 := Lib.hid (HX3.out.trans (Ext.trans (by repeat (first | exact Ext.refl _ | assumption | refine Ext.alloc ?_ _ | refine Ext.drew ?_ | refine Ext.drewN ?_ _ | (refine Ext.setCell ?_ (by simp <;> omega) _) | refine Ext.trans ?_ (by assumption))) hb)); have HBG4 := Lib.hid (HBG3.out.ext (Ext.trans (by repeat (first | exact Ext.refl _ | assumption | refine Ext.alloc ?_ _ | refine Ext.drew ?_ | refine Ext.drewN ?_ _ | (refine Ext.setCell ?_ (by simp <;> omega) _) | refine Ext.trans ?_ (by assumption))) hb)); have HBQ4 := Lib.hid (HBQ3.out.ext (Ext.trans (by repeat (first | exact Ext.refl _ | assumption | refine Ext.alloc ?_ _ | refine Ext.drew ?_ | refine Ext.drewN ?_ _ | (refine Ext.setCell ?_ (by simp <;> omega) _) | refine Ext.trans ?_ (by assumption))) hb)); have HRA := Lib.hid hra; have HCA := Lib.hid hca; clear g0 g1 gl q0 q1 q2 q3 ql hb hra hca))
    go_ret
    exact Ret.mk' rfl (HX4.out.trans (by repeat (first | exact Ext.refl _ | assumption | refine Ext.alloc ?_ _ | refine Ext.drew ?_ | refine Ext.drewN ?_ _ | (refine Ext.setCell ?_ (by simp <;> omega) _) | refine Ext.trans ?_ (by assumption))))
  have hBK := best_brk hR hq hE
  rw [hE] at cB
  have HSB := Lib.hid (brkSum_bd hBK (cost_small hR hq) (Nat.le_refl _))
  have HUS := Lib.hid (fun (p q : Nat) => ngap_le (a := p) (b := q) hR hq)
  have HCF := Lib.hid (fun (p q : Nat) => cost_fits (g := g) (r := r) (a := p) (b := q))
  have HCK := Lib.hid (fun (p q : Nat) => cost_break (g := g) (r := r) (a := p) (b := q))
  have HSM := Lib.hid (cost_small hR hq)
  have HNA := Lib.hid (notes_all hR)
  have HCKZ := Lib.hid hck; have HRG := Lib.hid hR; have HQ := Lib.hid hq; have HBE := Lib.hid hbk
  have hfew := hBK.few
  have HBK := Lib.hid hBK
  have CN := Lib.hid (fun W h (p q : Int) => notesOn_any g a p q W h)
  have CU := Lib.hid (fun W h (p q : Int) => usedBy_any g a r p q W h)
  have CO := Lib.hid (fun W h (p q : Int) => costOf_any g a r p q W h)
  generalize bestB g r = bs at *
  generalize bestL g r = ls at *
  generalize bestC g r = bc at *
  have HH := Lib.hid ((chkQ_zero hq).1)
  unfold GT.val QT.val at *
  have CG := Lib.hid cG; have CQ := Lib.hid cQ; have CB := Lib.hid cB; clear cG cQ cB hq hR hck h12 hE hbk hBK
  go_enter Tryd.func3, Tryd.ntmps3
  go_upto_block 0 with (first | (go_at_call 4; refine Calls.mono (CM.out _ (HT.out.ext (by repeat (first | exact Ext.refl _ | assumption | refine Ext.alloc ?_ _ | refine Ext.drew ?_ | refine Ext.drewN ?_ _ | (refine Ext.setCell ?_ (by simp <;> omega) _) | refine Ext.trans ?_ (by assumption))))) ?_; rintro e w1 ⟨rfl, hb⟩; have HX1 : Hid (Ext w w1) := Lib.hid (Ext.trans (by repeat (first | exact Ext.refl _ | assumption | refine Ext.alloc ?_ _ | refine Ext.drew ?_ | refine Ext.drewN ?_ _ | (refine Ext.setCell ?_ (by simp <;> omega) _) | refine Ext.trans ?_ (by assumption))) hb); have HBG := Lib.hid (((Blk.new w 25 #[.slice a.A g.items.length a.c, .slice a.B g.notes.length a.d]).alloc _).ext hb); have HBQ := Lib.hid ((Blk.new1 w _ 27 #[.int .i64 r.height, .int .i64 r.gap, .int .i64 r.widow, .int .i64 r.orphan]).ext hb); obtain ⟨g0, g1, gl⟩ := HBG.out.g2; obtain ⟨q0, q1, q2, q3, ql⟩ := HBQ.out.q4; clear hb) | (go_at_call 5; refine Calls.mono (CG.out _ (HG.out.ext (HX1.out.trans (by repeat (first | exact Ext.refl _ | assumption | refine Ext.alloc ?_ _ | refine Ext.drew ?_ | refine Ext.drewN ?_ _ | (refine Ext.setCell ?_ (by simp <;> omega) _) | refine Ext.trans ?_ (by assumption)))))) ?_; rintro e w2 ⟨rfl, hb⟩; have HX2 := Lib.hid (HX1.out.trans (Ext.trans (by repeat (first | exact Ext.refl _ | assumption | refine Ext.alloc ?_ _ | refine Ext.drew ?_ | refine Ext.drewN ?_ _ | (refine Ext.setCell ?_ (by simp <;> omega) _) | refine Ext.trans ?_ (by assumption))) hb)); have HBG2 := Lib.hid (HBG.out.ext (Ext.trans (by repeat (first | exact Ext.refl _ | assumption | refine Ext.alloc ?_ _ | refine Ext.drew ?_ | refine Ext.drewN ?_ _ | (refine Ext.setCell ?_ (by simp <;> omega) _) | refine Ext.trans ?_ (by assumption))) hb)); have HBQ2 := Lib.hid (HBQ.out.ext (Ext.trans (by repeat (first | exact Ext.refl _ | assumption | refine Ext.alloc ?_ _ | refine Ext.drew ?_ | refine Ext.drewN ?_ _ | (refine Ext.setCell ?_ (by simp <;> omega) _) | refine Ext.trans ?_ (by assumption))) hb)); clear g0 g1 gl q0 q1 q2 q3 ql hb; obtain ⟨g0, g1, gl⟩ := HBG2.out.g2; obtain ⟨q0, q1, q2, q3, ql⟩ := HBQ2.out.q4) | (go_at_call 6; refine Calls.mono (CQ.out _) ?_; rintro e w3 ⟨rfl, hb⟩; have HX3 := Lib.hid (HX2.out.trans (Ext.trans (by repeat (first | exact Ext.refl _ | assumption | refine Ext.alloc ?_ _ | refine Ext.drew ?_ | refine Ext.drewN ?_ _ | (refine Ext.setCell ?_ (by simp <;> omega) _) | refine Ext.trans ?_ (by assumption))) hb)); have HBG3 := Lib.hid (HBG2.out.ext (Ext.trans (by repeat (first | exact Ext.refl _ | assumption | refine Ext.alloc ?_ _ | refine Ext.drew ?_ | refine Ext.drewN ?_ _ | (refine Ext.setCell ?_ (by simp <;> omega) _) | refine Ext.trans ?_ (by assumption))) hb)); have HBQ3 := Lib.hid (HBQ2.out.ext (Ext.trans (by repeat (first | exact Ext.refl _ | assumption | refine Ext.alloc ?_ _ | refine Ext.drew ?_ | refine Ext.drewN ?_ _ | (refine Ext.setCell ?_ (by simp <;> omega) _) | refine Ext.trans ?_ (by assumption))) hb)); clear g0 g1 gl q0 q1 q2 q3 ql hb; obtain ⟨g0, g1, gl⟩ := HBG3.out.g2; obtain ⟨q0, q1, q2, q3, ql⟩ := HBQ3.out.q4) | (go_at_call 7; refine Calls.mono (CB.out _ (HG.out.ext (HX3.out.trans (by repeat (first | exact Ext.refl _ | assumption | refine Ext.alloc ?_ _ | refine Ext.drew ?_ | refine Ext.drewN ?_ _ | (refine Ext.setCell ?_ (by simp <;> omega) _) | refine Ext.trans ?_ (by assumption)))))) ?_; rintro e w4 ⟨bA, cA, bB, cB, rfl, hra, _, hca, _, hb⟩; have HX4 := Lib.hid (HX3.out.trans (Ext.trans (by repeat (first | exact Ext.refl _ | assumption | refine Ext.alloc ?_ _ | refine Ext.drew ?_ | refine Ext.drewN ?_ _ | (refine Ext.setCell ?_ (by simp <;> omega) _) | refine Ext.trans ?_ (by assumption))) hb)); have HBG4 := Lib.hid (HBG3.out.ext (Ext.trans (by repeat (first | exact Ext.refl _ | assumption | refine Ext.alloc ?_ _ | refine Ext.drew ?_ | refine Ext.drewN ?_ _ | (refine Ext.setCell ?_ (by simp <;> omega) _) | refine Ext.trans ?_ (by assumption))) hb)); have HBQ4 := Lib.hid (HBQ3.out.ext (Ext.trans (by repeat (first | exact Ext.refl _ | assumption | refine Ext.alloc ?_ _ | refine Ext.drew ?_ | refine Ext.drewN ?_ _ | (refine Ext.setCell ?_ (by simp <;> omega) _) | refine Ext.trans ?_ (by assumption))) hb)); have HRA := Lib.hid hra; have HCA := Lib.hid hca; clear g0 g1 gl q0 q1 q2 q3 ql hb hra hca))
  have HBB4 : Hid (0 < bs.length → ∀ ad, bA = some ad → ad.block < w4.heap.size) := Lib.hid fun hn ad he => by
    obtain ⟨b, off, h1, h2, _⟩ := HRA.out.2.2 hn
    rw [h1] at he; cases he; exact h2
  have HW41 : Hid (w.heap.size + 1 < w4.heap.size) := Lib.hid HBQ4.out.lt
  have HTP0 : Hid (TpS w g a r bA bs w4) := Lib.hid ⟨HX4.out, HBG4.out, HBQ4.out, HRA.out⟩
  go_step
  go_loopw [11, 12, 13, 14] (fun v s b i wr => ∃ k : Nat, k ≤ bs.length ∧ i = .int .i64 (k : Int) ∧ b = .int .i64 ((begG 0 bs k : Nat) : Int) ∧ s = .int .i64 (brkSum (costR g r) 0 bs k) ∧ Hid (Own wr w4.heap.size v (notesR g.items 0 (begG 0 bs k))) ∧ Hid (TpS w g a r bA bs wr) ∧ Hid (Ext w4 wr)) (fun _ _ _ i _ => bs.length - (intOf i).toNat)
  case atStart => exact ⟨0, Nat.zero_le _, rfl, rfl, rfl, Lib.hid (Own.nil _ _), HTP0, Lib.hid (Ext.refl _)⟩
  case round =>
    obtain ⟨k, hk, rfl, rfl, rfl, HO, HTP, HXR⟩ := hrel
    clear HTP0
    by_cases hlt : k < bs.length
    case neg =>
      obtain rfl : k = bs.length := by omega
      have hend := HBK.out.ends
      have htot := HBK.out.total
      have HOE : Hid (Own wr w4.heap.size u11 (upI g.notes.length)) := Lib.hid (by have h9 := HO.out; rw [hend, HNA.out] at h9; exact h9)
      rw [hend, htot]
      have hnn := HRG.out.notes
      have hul := upI_len g.notes.length
      obtain ⟨A9, c9, rfl, _, hr9⟩ := HOE.out.form (by omega)
      rw [hul] at *
      have HR9 := Lib.hid hr9; have HTE := Lib.hid HTP.out
      clear hr9 hul hend htot HO HOE hlt
      obtain ⟨g0, g1, gl⟩ := HTE.out.bg.g2
      go_wp2
      go_loop [29] (fun i => ∃ q : Nat, q ≤ g.notes.length ∧ i = .int .i64 (q : Int)) (fun i => g.notes.length - (intOf i).toNat)
      case atStart => exact ⟨0, Nat.zero_le _, rfl⟩
      case round =>
        obtain ⟨q, hq, rfl⟩ := hrel
        by_cases hqm : q < g.notes.length
        case pos =>
          obtain ⟨nb, no, rfl, hnb, hnc⟩ := HR9.out.2.2 (by omega)
          have n1 := hnc q hqm
          rw [upI_at _ _ hqm] at n1
          have i6 : (q : Int) < (g.notes.length : Int) := by omega
          clear hnc
          go_wp2
          go_round
          case rel => exact ⟨q + 1, by omega, by go_num⟩
          case measure => simp [intOf]; omega
        case neg =>
          obtain rfl : q = g.notes.length := by omega
          go_wp2
          go_ret
          exact Ret.mk' rfl (HTE.out.ext.trans (by repeat (first | exact Ext.refl _ | assumption | refine Ext.alloc ?_ _ | refine Ext.drew ?_ | refine Ext.drewN ?_ _ | (refine Ext.setCell ?_ (by simp <;> omega) _) | refine Ext.trans ?_ (by assumption))))
    case pos =>
    obtain ⟨p1, p2, p3, p4⟩ := HBK.out.page_at k hlt
    have hsx := begG_succ 0 bs k
    have hss : brkSum (costR g r) 0 bs (k + 1) = brkSum (costR g r) 0 bs k + (costR g r (begG 0 bs k) (bs.getD k 0).toNat).1 := rfl
    obtain ⟨bb, bo, rfl, hbb, hbc⟩ := HTP.out.ri.2.2 (by omega)
    have hbk := hbc k hlt
    rw [p2] at hbk
    generalize hE0 : (bs.getD k 0).toNat = e0 at *
    generalize hB0 : begG 0 bs k = b0 at *
    have hn200 := HRG.out.many
    have hpg : pageB g.items.length (b0 : Int) (e0 : Int) = true := by
      unfold pageB; rw [decide_eq_true (by omega), decide_eq_true (by omega)]; rfl
    obtain ⟨hco1, hco2⟩ := HCF.out b0 e0 p4
    have hcb := HSM.out b0 e0 p1 p3 p4
    have hng := HUS.out b0 e0 p1 p3
    have cN := fun W h => CN.out W h (b0 : Int) (e0 : Int)
    have cU := fun W h => CU.out W h (b0 : Int) (e0 : Int)
    have cO := fun W h => CO.out W h (b0 : Int) (e0 : Int)
    have hN : notesOnR g (b0 : Int) (e0 : Int) = (notesR g.items b0 (e0 - b0), 0) := by unfold notesOnR; rw [if_neg (by rw [HCKZ.out]; decide), if_neg (by rw [hpg]; decide)]; simp
    have hU : usedByR g r (b0 : Int) (e0 : Int) = (usesR g r b0 e0, 0) := by unfold usedByR; rw [if_neg (by rw [HBE.out]; decide), if_neg (by rw [hpg]; decide), Int.toNat_natCast, Int.toNat_natCast, if_neg (by omega)]
    have hO : costOfR g r (b0 : Int) (e0 : Int) = ((costR g r b0 e0).1, 0) := by unfold costOfR; rw [if_neg (by rw [HBE.out]; decide), if_neg (by rw [hpg]; decide), Int.toNat_natCast, Int.toNat_natCast, ← p4]
    rw [hN] at cN; rw [hU] at cU; rw [hO] at cO
    unfold pairGV at cU cO
    have HNA2 : Hid (notesR g.items 0 e0 = notesR g.items 0 b0 ++ notesR g.items b0 (e0 - b0)) := Lib.hid (by
      have := notesR_add g.items 0 b0 (e0 - b0)
      rwa [show b0 + (e0 - b0) = e0 by omega, Nat.zero_add] at this)
    have HNL := Lib.hid (notesR_len g.items 0 b0); have HNL2 := Lib.hid (notesR_len g.items b0 (e0 - b0))
    have HSX : Hid (begG 0 bs (k + 1) = e0) := Lib.hid hsx
    generalize hCV : (costR g r b0 e0).1 = cv at *
    generalize hUV : usesR g r b0 e0 = uv at *
    have HSS : Hid (brkSum (costR g r) 0 bs (k + 1) = brkSum (costR g r) 0 bs k + cv) := Lib.hid hss
    have CN1 := Lib.hid cN; have CU1 := Lib.hid cU; have CO1 := Lib.hid cO; have HNG := Lib.hid hng
    have HUV := Lib.hid hUV; have HP4 := Lib.hid p4; have HP1 : Hid (Nat.lt b0 e0) := Lib.hid p1; have HP3 : Hid (Nat.le e0 g.items.length) := Lib.hid p3
    have HCO1 := Lib.hid hco1
    have HBB := Lib.hid hbb
    clear cN cU cO hN hU hO hss hsx hng hbc hpg p2 hUV hCV hE0 hco1
    generalize notesR g.items b0 (e0 - b0) = nl at *
    obtain ⟨g0, g1, gl⟩ := HTP.out.bg.g2
    obtain ⟨q0, q1, q2, q3, ql⟩ := HTP.out.bq.q4
    have i3 : (k : Int) < (bs.length : Int) := by omega
    have i4 : ¬ (e0 : Int) ≤ (b0 : Int) := by omega
    have i5 : ¬ (g.items.length : Int) < (e0 : Int) := by omega
    have HBC : Hid (wr.cell? ⟨bb, bo + k, none⟩ = some (.int .i64 (e0 : Int))) := Lib.hid hbk
    go_upto_region 14 with fail
    refine wp_region_steady (Ext _) [?_, ?_, ?_, ?_, ?_, ?_, ?_, ?_, ?_, ?_, ?_, ?_, ?_, ?_, ?_, ?_] (by kernel_rfl) (by kernel_rfl) rfl (Ext.refl _).drew ?_ ?_
    rotate_left 16
    · refine StepsT.cons (fun W hW => ?_) ?_
      · have c0 := (hW.cell (p := ⟨bb, bo + k, none⟩) HBB.out).trans HBC.out; obtain ⟨g0, g1, gl⟩ := (HTP.out.next hW).bg.g2; first | (refine StepT.off rfl hW ?_; rfl) | (refine StepT.go rfl ?_; go_simp; first | (refine ⟨?_, hW⟩; rfl))
      simp only [Act.put, List.setIfInBounds_toArray, List.set_cons_zero, List.set_cons_succ]
      refine StepsT.cons (fun W hW => ?_) ?_
      · have c0 := (hW.cell (p := ⟨bb, bo + k, none⟩) HBB.out).trans HBC.out; obtain ⟨g0, g1, gl⟩ := (HTP.out.next hW).bg.g2; first | (refine StepT.off rfl hW ?_; rfl) | (refine StepT.go rfl ?_; go_simp; first | (refine ⟨?_, hW⟩; rfl))
      simp only [Act.put, List.setIfInBounds_toArray, List.set_cons_zero, List.set_cons_succ]
      refine StepsT.cons (fun W hW => ?_) ?_
      · have c0 := (hW.cell (p := ⟨bb, bo + k, none⟩) HBB.out).trans HBC.out; obtain ⟨g0, g1, gl⟩ := (HTP.out.next hW).bg.g2; first | (refine StepT.off rfl hW ?_; rfl) | (refine StepT.go rfl ?_; go_simp; first | (refine ⟨?_, hW⟩; rfl))
      simp only [Act.put, List.setIfInBounds_toArray, List.set_cons_zero, List.set_cons_succ]
      refine StepsT.cons (fun W hW => ?_) ?_
      · have c0 := (hW.cell (p := ⟨bb, bo + k, none⟩) HBB.out).trans HBC.out; obtain ⟨g0, g1, gl⟩ := (HTP.out.next hW).bg.g2; first | (refine StepT.off rfl hW ?_; rfl) | (refine StepT.go rfl ?_; go_simp; first | (refine ⟨?_, hW⟩; rfl))
      simp only [Act.put, List.setIfInBounds_toArray, List.set_cons_zero, List.set_cons_succ]
      refine StepsT.cons (fun W hW => ?_) ?_
      · have c0 := (hW.cell (p := ⟨bb, bo + k, none⟩) HBB.out).trans HBC.out; obtain ⟨g0, g1, gl⟩ := (HTP.out.next hW).bg.g2; first | (refine StepT.off rfl hW ?_; rfl) | (refine StepT.go rfl ?_; go_simp; first | (refine ⟨?_, hW⟩; rfl))
      simp only [Act.put, List.setIfInBounds_toArray, List.set_cons_zero, List.set_cons_succ]
      refine StepsT.cons (fun W hW => ?_) ?_
      · have c0 := (hW.cell (p := ⟨bb, bo + k, none⟩) HBB.out).trans HBC.out; obtain ⟨g0, g1, gl⟩ := (HTP.out.next hW).bg.g2; first | (refine StepT.off rfl hW ?_; rfl) | (refine StepT.go rfl ?_; go_simp; first | (refine ⟨?_, hW⟩; rfl))
      simp only [Act.put, List.setIfInBounds_toArray, List.set_cons_zero, List.set_cons_succ]
      refine StepsT.cons (fun W hW => ?_) ?_
      · have c0 := (hW.cell (p := ⟨bb, bo + k, none⟩) HBB.out).trans HBC.out; obtain ⟨g0, g1, gl⟩ := (HTP.out.next hW).bg.g2; first | (refine StepT.off rfl hW ?_; rfl) | (refine StepT.go rfl ?_; go_simp; first | (refine ⟨?_, hW⟩; rfl))
      simp only [Act.put, List.setIfInBounds_toArray, List.set_cons_zero, List.set_cons_succ]
      refine StepsT.cons (fun W hW => ?_) ?_
      · have c0 := (hW.cell (p := ⟨bb, bo + k, none⟩) HBB.out).trans HBC.out; obtain ⟨g0, g1, gl⟩ := (HTP.out.next hW).bg.g2; first | (refine StepT.off rfl hW ?_; rfl) | (refine StepT.go rfl ?_; go_simp; first | (refine ⟨?_, hW⟩; rfl))
      simp only [Act.put, List.setIfInBounds_toArray, List.set_cons_zero, List.set_cons_succ]
      refine StepsT.cons (fun W hW => ?_) ?_
      · have c0 := (hW.cell (p := ⟨bb, bo + k, none⟩) HBB.out).trans HBC.out; obtain ⟨g0, g1, gl⟩ := (HTP.out.next hW).bg.g2; first | (refine StepT.off rfl hW ?_; rfl) | (refine StepT.go rfl ?_; go_simp; first | (refine ⟨?_, hW⟩; rfl))
      simp only [Act.put, List.setIfInBounds_toArray, List.set_cons_zero, List.set_cons_succ]
      refine StepsT.cons (fun W hW => ?_) ?_
      · have c0 := (hW.cell (p := ⟨bb, bo + k, none⟩) HBB.out).trans HBC.out; obtain ⟨g0, g1, gl⟩ := (HTP.out.next hW).bg.g2; first | (refine StepT.off rfl hW ?_; rfl) | (refine StepT.go rfl ?_; go_simp; first | (refine ⟨?_, hW⟩; rfl))
      simp only [Act.put, List.setIfInBounds_toArray, List.set_cons_zero, List.set_cons_succ]
      refine StepsT.cons (fun W hW => ?_) ?_
      · have c0 := (hW.cell (p := ⟨bb, bo + k, none⟩) HBB.out).trans HBC.out; obtain ⟨g0, g1, gl⟩ := (HTP.out.next hW).bg.g2; first | (refine StepT.off rfl hW ?_; rfl) | (refine StepT.go rfl ?_; go_simp; first | (refine ⟨?_, hW⟩; rfl))
      simp only [Act.put, List.setIfInBounds_toArray, List.set_cons_zero, List.set_cons_succ]
      refine StepsT.cons (fun W hW => ?_) ?_
      · have c0 := (hW.cell (p := ⟨bb, bo + k, none⟩) HBB.out).trans HBC.out; obtain ⟨g0, g1, gl⟩ := (HTP.out.next hW).bg.g2; first | (refine StepT.off rfl hW ?_; rfl) | (refine StepT.go rfl ?_; go_simp; first | (refine ⟨?_, hW⟩; rfl))
      simp only [Act.put, List.setIfInBounds_toArray, List.set_cons_zero, List.set_cons_succ]
      refine StepsT.cons (fun W hW => ?_) ?_
      · have c0 := (hW.cell (p := ⟨bb, bo + k, none⟩) HBB.out).trans HBC.out; obtain ⟨g0, g1, gl⟩ := (HTP.out.next hW).bg.g2; first | (refine StepT.off rfl hW ?_; rfl) | (refine StepT.go rfl ?_; go_simp; first | (refine ⟨?_, hW⟩; rfl))
      simp only [Act.put, List.setIfInBounds_toArray, List.set_cons_zero, List.set_cons_succ]
      refine StepsT.cons (fun W hW => ?_) ?_
      · have c0 := (hW.cell (p := ⟨bb, bo + k, none⟩) HBB.out).trans HBC.out; obtain ⟨g0, g1, gl⟩ := (HTP.out.next hW).bg.g2; first | (refine StepT.off rfl hW ?_; rfl) | (refine StepT.go rfl ?_; go_simp; first | (refine ⟨?_, hW⟩; rfl))
      simp only [Act.put, List.setIfInBounds_toArray, List.set_cons_zero, List.set_cons_succ]
      refine StepsT.cons (fun W hW => ?_) ?_
      · have c0 := (hW.cell (p := ⟨bb, bo + k, none⟩) HBB.out).trans HBC.out; obtain ⟨g0, g1, gl⟩ := (HTP.out.next hW).bg.g2; first | (refine StepT.off rfl hW ?_; rfl) | (refine StepT.go rfl ?_; go_simp; first | (refine ⟨?_, hW⟩; rfl))
      simp only [Act.put, List.setIfInBounds_toArray, List.set_cons_zero, List.set_cons_succ]
      refine StepsT.cons (fun W hW => ?_) ?_
      · have c0 := (hW.cell (p := ⟨bb, bo + k, none⟩) HBB.out).trans HBC.out; obtain ⟨g0, g1, gl⟩ := (HTP.out.next hW).bg.g2; first | (refine StepT.off rfl hW ?_; rfl) | (refine StepT.go rfl ?_; go_simp; first | (refine ⟨?_, hW⟩; rfl))
      simp only [Act.put, List.setIfInBounds_toArray, List.set_cons_zero, List.set_cons_succ]
      trivial
    intro W hW
    simp only [putAll, Act.put, List.setIfInBounds_toArray, List.set_cons_zero, List.set_cons_succ]
    have HTW := Lib.hid (HTP.out.next hW)
    have HBCW : Hid (W.cell? ⟨bb, bo + k, none⟩ = some (.int .i64 (e0 : Int))) := Lib.hid ((hW.cell (p := ⟨bb, bo + k, none⟩) HBB.out).trans HBC.out)
    have HBW : Hid (Nat.lt bb W.heap.size) := Lib.hid (Nat.lt_of_lt_of_le HBB.out hW.size)
    have HOW := Lib.hid (HO.out.ext hW)
    have HXW := Lib.hid (HXR.out.trans hW)
    clear g0 g1 gl q0 q1 q2 q3 ql hbk HO HXR HTP HBC HBB hW
    obtain ⟨g0, g1, gl⟩ := HTW.out.bg.g2
    obtain ⟨q0, q1, q2, q3, ql⟩ := HTW.out.bq.q4
    have c0 := HBCW.out
    have cbl : bb < W.heap.size := HBW.out
    go_wp2_with (first | (go_at_call 8; refine Calls.mono (CN1.out _ ?_) ?_; (exact HG.out.ext (HTW.out.ext.trans (by repeat (first | exact Ext.refl _ | assumption | refine Ext.alloc ?_ _ | refine Ext.drew ?_ | refine Ext.drewN ?_ _ | (refine Ext.setCell ?_ (by simp <;> omega) _) | refine Ext.trans ?_ (by assumption))))); rintro e w5 ⟨lA, lc, rfl, hsl, hb⟩; have HLI := Lib.hid hsl.ri; have HX5 : Hid (Ext W w5) := Lib.hid (Ext.trans (by repeat (first | exact Ext.refl _ | assumption | refine Ext.alloc ?_ _ | refine Ext.drew ?_ | refine Ext.drewN ?_ _ | (refine Ext.setCell ?_ (by simp <;> omega) _) | refine Ext.trans ?_ (by assumption))) hb); have HA5 := Lib.hid ((Blk.new W _ _).ext hb); clear g0 g1 gl q0 q1 q2 q3 ql hb hsl; obtain ⟨g0, g1, gl⟩ := (HTW.out.next HX5.out).bg.g2; obtain ⟨q0, q1, q2, q3, ql⟩ := (HTW.out.next HX5.out).bq.q4; obtain ⟨a0, a1, al⟩ := HA5.out.g2) | (go_at_call 9; refine Calls.mono (CU1.out _ ?_) ?_; (exact HG.out.ext ((HTW.out.next HX5.out).ext.trans (by repeat (first | exact Ext.refl _ | assumption | refine Ext.alloc ?_ _ | refine Ext.drew ?_ | refine Ext.drewN ?_ _ | (refine Ext.setCell ?_ (by simp <;> omega) _) | refine Ext.trans ?_ (by assumption))))); rintro e w6 ⟨rfl, hb⟩; have HX6 : Hid (Ext W w6) := Lib.hid (HX5.out.trans (Ext.trans (by repeat (first | exact Ext.refl _ | assumption | refine Ext.alloc ?_ _ | refine Ext.drew ?_ | refine Ext.drewN ?_ _ | (refine Ext.setCell ?_ (by simp <;> omega) _) | refine Ext.trans ?_ (by assumption))) hb)); have HA6 := Lib.hid (HA5.out.ext (Ext.trans (by repeat (first | exact Ext.refl _ | assumption | refine Ext.alloc ?_ _ | refine Ext.drew ?_ | refine Ext.drewN ?_ _ | (refine Ext.setCell ?_ (by simp <;> omega) _) | refine Ext.trans ?_ (by assumption))) hb)); have HL6 := Lib.hid (HLI.out.ext (Ext.trans (by repeat (first | exact Ext.refl _ | assumption | refine Ext.alloc ?_ _ | refine Ext.drew ?_ | refine Ext.drewN ?_ _ | (refine Ext.setCell ?_ (by simp <;> omega) _) | refine Ext.trans ?_ (by assumption))) hb)); clear g0 g1 gl q0 q1 q2 q3 ql a0 a1 al hb; obtain ⟨g0, g1, gl⟩ := (HTW.out.next HX6.out).bg.g2; obtain ⟨q0, q1, q2, q3, ql⟩ := (HTW.out.next HX6.out).bq.q4; obtain ⟨a0, a1, al⟩ := HA6.out.g2) | (go_at_call 10; refine Calls.mono (CO1.out _ ?_) ?_; (exact HG.out.ext ((HTW.out.next HX6.out).ext.trans (by repeat (first | exact Ext.refl _ | assumption | refine Ext.alloc ?_ _ | refine Ext.drew ?_ | refine Ext.drewN ?_ _ | (refine Ext.setCell ?_ (by simp <;> omega) _) | refine Ext.trans ?_ (by assumption))))); rintro e w7 ⟨rfl, hb⟩; have HX7 : Hid (Ext W w7) := Lib.hid (HX6.out.trans (Ext.trans (by repeat (first | exact Ext.refl _ | assumption | refine Ext.alloc ?_ _ | refine Ext.drew ?_ | refine Ext.drewN ?_ _ | (refine Ext.setCell ?_ (by simp <;> omega) _) | refine Ext.trans ?_ (by assumption))) hb)); have HL7 := Lib.hid (HL6.out.ext (Ext.trans (by repeat (first | exact Ext.refl _ | assumption | refine Ext.alloc ?_ _ | refine Ext.drew ?_ | refine Ext.drewN ?_ _ | (refine Ext.setCell ?_ (by simp <;> omega) _) | refine Ext.trans ?_ (by assumption))) hb)); clear g0 g1 gl q0 q1 q2 q3 ql a0 a1 al hb c0 cbl; obtain ⟨g0, g1, gl⟩ := (HTW.out.next HX7.out).bg.g2; obtain ⟨q0, q1, q2, q3, ql⟩ := (HTW.out.next HX7.out).bq.q4; have c0 := (HX7.out.cell (p := ⟨bb, bo + k, none⟩) HBW.out).trans HBCW.out))
    have HT7 := Lib.hid (HTW.out.next HX7.out)
    clear HTW
    have HY0 : Hid ((0 : Int) = ngap g.items b0 (b0 - b0)) := Lib.hid (by rw [Nat.sub_self]; rfl)
    have cbl7 : bb < w7.heap.size := Nat.lt_of_lt_of_le HBW.out HX7.out.size
    go_loop [22, 23] (fun l j => ∃ (q : Nat) (y : Int), b0 ≤ q ∧ q ≤ e0 ∧ j = .int .i64 (q : Int) ∧ l = .int .i64 y ∧ 0 ≤ y ∧ y ≤ (q - b0 : Nat) * 2000 ∧ Hid (y = ngap g.items b0 (q - b0))) (fun _ j => e0 - (intOf j).toNat)
    case atStart => exact ⟨b0, 0, Nat.le_refl _, Nat.le_of_lt HP1.out, rfl, rfl, by omega, by omega, HY0⟩
    case round =>
      obtain ⟨q, y, hq1, hq2, rfl, rfl, y1, y2, HY⟩ := hrel
      clear HY0
      by_cases hqe : q < e0
      case pos =>
        have i6 : (q : Int) < (e0 : Int) := by omega
        have hqn : q < g.items.length := Nat.lt_of_lt_of_le hqe HP3.out
        have i7 : (q : Int) < (g.items.length : Int) := by omega
        obtain ⟨xb, xo, hxe, hxb, hxc⟩ := (HG.out.rp.ext HT7.out.ext).2.2 (by omega)
        rw [hxe] at g0
        obtain ⟨x0, x1, x2, x3, x4⟩ := hxc q hqn
        have HS := Lib.hid (ngap_succ g.items b0 (q - b0))
        have HQ9 : Hid (b0 + (q - b0) = q ∧ q + 1 - b0 = (q - b0) + 1) := Lib.hid ⟨by omega, by omega⟩
        obtain ⟨t1, t2⟩ := (HRG.out.items q hqn).height
        obtain ⟨xh, hxh⟩ : ∃ xh, (g.items.getD q IT.zero).height = xh := ⟨_, rfl⟩
        have HS2 : Hid (ngap g.items b0 (q + 1 - b0) = y + (if (g.items.getD q IT.zero).kind = 4 then 0 else xh)) := Lib.hid (by rw [HQ9.out.2, HS.out, HQ9.out.1, hxh, HY.out])
        rw [hxh] at x1 t1 t2
        clear hxc hxh HS
        by_cases h4 : (g.items.getD q IT.zero).kind = 4
        case pos =>
          have HS3 : Hid (y = ngap g.items b0 (q + 1 - b0)) := Lib.hid (by rw [HS2.out, if_pos h4, Int.add_zero])
          rw [h4] at x0
          clear HS2 h4
          go_wp2
          go_round
          case rel => exact ⟨q + 1, y, by omega, by omega, by go_num, rfl, y1, by omega, HS3⟩
          case measure => simp [intOf]; omega
        case neg =>
          have HS3 : Hid (y + xh = ngap g.items b0 (q + 1 - b0)) := Lib.hid (by rw [HS2.out, if_neg h4])
          have e4 : ((g.items.getD q IT.zero).kind != 4) = true := by simpa using h4
          generalize (g.items.getD q IT.zero).kind = xk at *
          have hys : y + xh ≤ 1000000 := by omega
          clear HS2 h4
          go_wp2
          go_round
          case rel => exact ⟨q + 1, y + xh, by omega, by omega, by go_num, rfl, by omega, by omega, HS3⟩
          case measure => simp [intOf]; omega
      case neg =>
        obtain rfl : e0 = q := by omega
        have hyu : y ≤ uv := by rw [HY.out]; exact HNG.out
        have i8 : ¬ uv < y := by omega
        clear hqe y2
        by_cases hk0 : k = 0
        case pos =>
          have i9 : ¬ (0 : Int) < (k : Int) := by omega
          have HK0 := Lib.hid hk0; clear hk0
          go_upto_region 38 with fail
          have hwsum : IntKind.i64.wrap (brkSum (costR g r) 0 bs k + cv) = brkSum (costR g r) 0 bs k + cv := by have := HSB.out k hk; rw [IntWalk.i64_in _ (by omega)]
          have HOA := Lib.hid (HOW.out.ext HX7.out); have HLA := Lib.hid HL7.out; have HTA := Lib.hid HT7.out
          have HXA := Lib.hid (HXW.out.trans HX7.out)
          have HB4 : Hid (Nat.lt bb w4.heap.size) := Lib.hid (HBB4.out (by omega) _ rfl)
          clear g0 g1 gl q0 q1 q2 q3 ql
          go_region_held3 (fun X => X.cell? ⟨bb, bo + k, none⟩ = some (.int .i64 (e0 : Int)) ∧ bb < X.heap.size) (first | exact ⟨c9, cl9⟩ | exact ⟨c0, cbl7⟩ | go_keep) (first | (refine step_appendI2 rfl (.tmp 207) (.tmp 208) rfl w4.heap.size _ (notesR g.items 0 b0) rfl (HOA.out.ext (by repeat (first | exact Ext.refl _ | assumption | refine Ext.alloc ?_ _ | refine Ext.drew ?_ | refine Ext.drewN ?_ _ | (refine Ext.setCell ?_ (by simp <;> omega) _) | refine Ext.trans ?_ (by assumption)))) lA nl.length lc nl rfl (HLA.out.ext (by repeat (first | exact Ext.refl _ | assumption | refine Ext.alloc ?_ _ | refine Ext.drew ?_ | refine Ext.drewN ?_ _ | (refine Ext.setCell ?_ (by simp <;> omega) _) | refine Ext.trans ?_ (by assumption)))) (by have := HNL.out; have := HNL2.out; omega) (by have := HXA.out.size; simp; omega) ?_; intro v' w' ho hg; have HO9 := Lib.hid ho; have HT9 := Lib.hid (HTA.out.push HOA.out HW41.out HBB4.out (by repeat (first | exact Ext.refl _ | assumption | refine Ext.alloc ?_ _ | refine Ext.drew ?_ | refine Ext.drewN ?_ _ | (refine Ext.setCell ?_ (by simp <;> omega) _) | refine Ext.trans ?_ (by assumption))) hg); have HX9 := Lib.hid (Ext.grown (HXA.out.trans (by repeat (first | exact Ext.refl _ | assumption | refine Ext.alloc ?_ _ | refine Ext.drew ?_ | refine Ext.drewN ?_ _ | (refine Ext.setCell ?_ (by simp <;> omega) _) | refine Ext.trans ?_ (by assumption)))) hg fun k9 hk9 => HOA.out.base_le k9 hk9); have c9 := grown_cell hg (show bb < _ from by simp; exact cbl7) (HOA.out.base_ne HB4.out) c0; have cl9 := Nat.lt_of_lt_of_le HB4.out HX9.out.size; clear ho hg))
          go_wp2_with fail
          go_roundw
          case rel => exact ⟨k + 1, by omega, by go_num, by rw [HSX.out], by rw [HSS.out], Lib.hid (by rw [HSX.out, HNA2.out]; exact HO9.out), HT9, HX9⟩
          case measure => simp [intOf]; omega
        case neg =>
          have i9 : (0 : Int) < (k : Int) := by omega
          obtain ⟨s1, s2, s3, s4⟩ := HBK.out.page_at (k - 1) (by omega)
          have hsb : (bs.getD (k - 1) 0).toNat = b0 := by
            have h9 := begG_succ 0 bs (k - 1)
            rw [show k - 1 + 1 = k by omega, hB0] at h9
            exact h9.symm
          rw [hsb] at s1 s3 s4
          have HPB : Hid (k - 1 = 0 → begG 0 bs (k - 1) = 0) := Lib.hid fun h => by rw [h]; rfl
          have HPB2 : Hid (∀ m, k = m + 2 → begG 0 bs (k - 1) = (bs.getD m 0).toNat ∧ bs.getD m 0 = ((bs.getD m 0).toNat : Int)) := Lib.hid fun m h => by
            obtain ⟨_, t2, _, _⟩ := HBK.out.page_at m (by omega)
            refine ⟨?_, t2⟩
            rw [show k - 1 = m + 1 by omega, begG_succ]
          generalize begG 0 bs (k - 1) = pb at *
          have hpe : pb < e0 := Nat.lt_trans s1 HP1.out
          have hp3 := HP3.out
          have hpg2 : pageB g.items.length (pb : Int) (e0 : Int) = true := by
            unfold pageB; rw [decide_eq_true (by omega), decide_eq_true (by omega)]; rfl
          have hne : coreA g.items pb e0 < coreB g.items pb e0 := by
            have h9 := HCO1.out
            obtain ⟨d1, d2, d3⟩ := core_bd g.items b0 e0 (Nat.le_of_lt HP1.out)
            exact core_some (by omega) _ (by omega) (by omega) (core_first (Nat.le_of_lt HP1.out) h9).1
          have cU := fun W h => CU.out W h (pb : Int) (e0 : Int)
          have cO := fun W h => CO.out W h (pb : Int) (e0 : Int)
          have hU : usedByR g r (pb : Int) (e0 : Int) = (usesR g r pb e0, 0) := by unfold usedByR; rw [if_neg (by rw [HBE.out]; decide), if_neg (by rw [hpg2]; decide), Int.toNat_natCast, Int.toNat_natCast, if_neg (by omega)]
          have hO : costOfR g r (pb : Int) (e0 : Int) = ((costR g r pb e0).1, (costR g r pb e0).2) := by unfold costOfR; rw [if_neg (by rw [HBE.out]; decide), if_neg (by rw [hpg2]; decide), Int.toNat_natCast, Int.toNat_natCast]
          rw [hU] at cU; rw [hO] at cO
          unfold pairGV at cU cO
          have hck := HCK.out pb e0 hne
          generalize usesR g r pb e0 = u2 at *
          generalize (costR g r pb e0).1 = c2 at *
          generalize (costR g r pb e0).2 = z2 at *
          have hdec : ((z2 == 26) = true ∧ r.height < u2) ∨ ((z2 == 26) = false ∧ ¬ r.height < u2) := by
            by_cases h9 : r.height < u2
            · exact .inl ⟨by rw [beq_iff_eq]; exact hck.2 h9, h9⟩
            · exact .inr ⟨by rw [beq_eq_false_iff_ne]; exact fun e => h9 (hck.1 e), h9⟩
          have HDEC := Lib.hid hdec
          clear hU hO hne hpg2 hck hdec s1 s2 s3 s4 hsb hp3 hpe
          by_cases hk1 : k = 1
          case pos =>
            have hp0 := HPB.out (by omega)
            subst hp0
            simp only [Int.natCast_zero] at cU cO
            have i10 : ¬ (1 : Int) < (k : Int) := by omega
            have HK1 := Lib.hid hk1
            have CU2 := Lib.hid cU; have CO2 := Lib.hid cO; clear cU cO hk1 hk0 HPB HPB2
            go_upto_region 34 with fail
            refine wp_region_steady (Ext _) [?_, ?_, ?_, ?_, ?_, ?_, ?_, ?_, ?_, ?_, ?_, ?_, ?_, ?_] (by kernel_rfl) (by kernel_rfl) rfl (Ext.refl _).drew ?_ ?_
            rotate_left 14
            · refine StepsT.cons (fun W hW => ?_) ?_
              · have c0 := (hW.cell (p := ⟨bb, bo + k, none⟩) cbl7).trans c0; obtain ⟨g0, g1, gl⟩ := (HT7.out.next hW).bg.g2; obtain ⟨q0, q1, q2, q3, ql⟩ := (HT7.out.next hW).bq.q4; first | (refine StepT.off rfl hW ?_; rfl) | (refine StepT.go rfl ?_; go_simp; first | (refine ⟨?_, hW⟩; rfl) | (refine Calls.mono (CU2.out _ (HG.out.ext (HT7.out.next hW).ext)) ?_; rintro e w8 ⟨rfl, hb⟩; refine ⟨?_, hW.trans hb⟩; rfl))
              simp only [Act.put, List.setIfInBounds_toArray, List.set_cons_zero, List.set_cons_succ]
              refine StepsT.cons (fun W hW => ?_) ?_
              · have c0 := (hW.cell (p := ⟨bb, bo + k, none⟩) cbl7).trans c0; obtain ⟨g0, g1, gl⟩ := (HT7.out.next hW).bg.g2; obtain ⟨q0, q1, q2, q3, ql⟩ := (HT7.out.next hW).bq.q4; first | (refine StepT.off rfl hW ?_; rfl) | (refine StepT.go rfl ?_; go_simp; first | (refine ⟨?_, hW⟩; rfl) | (refine Calls.mono (CU2.out _ (HG.out.ext (HT7.out.next hW).ext)) ?_; rintro e w8 ⟨rfl, hb⟩; refine ⟨?_, hW.trans hb⟩; rfl))
              simp only [Act.put, List.setIfInBounds_toArray, List.set_cons_zero, List.set_cons_succ]
              refine StepsT.cons (fun W hW => ?_) ?_
              · have c0 := (hW.cell (p := ⟨bb, bo + k, none⟩) cbl7).trans c0; obtain ⟨g0, g1, gl⟩ := (HT7.out.next hW).bg.g2; obtain ⟨q0, q1, q2, q3, ql⟩ := (HT7.out.next hW).bq.q4; first | (refine StepT.off rfl hW ?_; rfl) | (refine StepT.go rfl ?_; go_simp; first | (refine ⟨?_, hW⟩; rfl) | (refine Calls.mono (CU2.out _ (HG.out.ext (HT7.out.next hW).ext)) ?_; rintro e w8 ⟨rfl, hb⟩; refine ⟨?_, hW.trans hb⟩; rfl))
              simp only [Act.put, List.setIfInBounds_toArray, List.set_cons_zero, List.set_cons_succ]
              refine StepsT.cons (fun W hW => ?_) ?_
              · have c0 := (hW.cell (p := ⟨bb, bo + k, none⟩) cbl7).trans c0; obtain ⟨g0, g1, gl⟩ := (HT7.out.next hW).bg.g2; obtain ⟨q0, q1, q2, q3, ql⟩ := (HT7.out.next hW).bq.q4; first | (refine StepT.off rfl hW ?_; rfl) | (refine StepT.go rfl ?_; go_simp; first | (refine ⟨?_, hW⟩; rfl) | (refine Calls.mono (CU2.out _ (HG.out.ext (HT7.out.next hW).ext)) ?_; rintro e w8 ⟨rfl, hb⟩; refine ⟨?_, hW.trans hb⟩; rfl))
              simp only [Act.put, List.setIfInBounds_toArray, List.set_cons_zero, List.set_cons_succ]
              refine StepsT.cons (fun W hW => ?_) ?_
              · have c0 := (hW.cell (p := ⟨bb, bo + k, none⟩) cbl7).trans c0; obtain ⟨g0, g1, gl⟩ := (HT7.out.next hW).bg.g2; obtain ⟨q0, q1, q2, q3, ql⟩ := (HT7.out.next hW).bq.q4; first | (refine StepT.off rfl hW ?_; rfl) | (refine StepT.go rfl ?_; go_simp; first | (refine ⟨?_, hW⟩; rfl) | (refine Calls.mono (CU2.out _ (HG.out.ext (HT7.out.next hW).ext)) ?_; rintro e w8 ⟨rfl, hb⟩; refine ⟨?_, hW.trans hb⟩; rfl))
              simp only [Act.put, List.setIfInBounds_toArray, List.set_cons_zero, List.set_cons_succ]
              refine StepsT.cons (fun W hW => ?_) ?_
              · have c0 := (hW.cell (p := ⟨bb, bo + k, none⟩) cbl7).trans c0; obtain ⟨g0, g1, gl⟩ := (HT7.out.next hW).bg.g2; obtain ⟨q0, q1, q2, q3, ql⟩ := (HT7.out.next hW).bq.q4; first | (refine StepT.off rfl hW ?_; rfl) | (refine StepT.go rfl ?_; go_simp; first | (refine ⟨?_, hW⟩; rfl) | (refine Calls.mono (CU2.out _ (HG.out.ext (HT7.out.next hW).ext)) ?_; rintro e w8 ⟨rfl, hb⟩; refine ⟨?_, hW.trans hb⟩; rfl))
              simp only [Act.put, List.setIfInBounds_toArray, List.set_cons_zero, List.set_cons_succ]
              refine StepsT.cons (fun W hW => ?_) ?_
              · have c0 := (hW.cell (p := ⟨bb, bo + k, none⟩) cbl7).trans c0; obtain ⟨g0, g1, gl⟩ := (HT7.out.next hW).bg.g2; obtain ⟨q0, q1, q2, q3, ql⟩ := (HT7.out.next hW).bq.q4; first | (refine StepT.off rfl hW ?_; rfl) | (refine StepT.go rfl ?_; go_simp; first | (refine ⟨?_, hW⟩; rfl) | (refine Calls.mono (CU2.out _ (HG.out.ext (HT7.out.next hW).ext)) ?_; rintro e w8 ⟨rfl, hb⟩; refine ⟨?_, hW.trans hb⟩; rfl))
              simp only [Act.put, List.setIfInBounds_toArray, List.set_cons_zero, List.set_cons_succ]
              refine StepsT.cons (fun W hW => ?_) ?_
              · have c0 := (hW.cell (p := ⟨bb, bo + k, none⟩) cbl7).trans c0; obtain ⟨g0, g1, gl⟩ := (HT7.out.next hW).bg.g2; obtain ⟨q0, q1, q2, q3, ql⟩ := (HT7.out.next hW).bq.q4; first | (refine StepT.off rfl hW ?_; rfl) | (refine StepT.go rfl ?_; go_simp; first | (refine ⟨?_, hW⟩; rfl) | (refine Calls.mono (CU2.out _ (HG.out.ext (HT7.out.next hW).ext)) ?_; rintro e w8 ⟨rfl, hb⟩; refine ⟨?_, hW.trans hb⟩; rfl))
              simp only [Act.put, List.setIfInBounds_toArray, List.set_cons_zero, List.set_cons_succ]
              refine StepsT.cons (fun W hW => ?_) ?_
              · have c0 := (hW.cell (p := ⟨bb, bo + k, none⟩) cbl7).trans c0; obtain ⟨g0, g1, gl⟩ := (HT7.out.next hW).bg.g2; obtain ⟨q0, q1, q2, q3, ql⟩ := (HT7.out.next hW).bq.q4; first | (refine StepT.off rfl hW ?_; rfl) | (refine StepT.go rfl ?_; go_simp; first | (refine ⟨?_, hW⟩; rfl) | (refine Calls.mono (CU2.out _ (HG.out.ext (HT7.out.next hW).ext)) ?_; rintro e w8 ⟨rfl, hb⟩; refine ⟨?_, hW.trans hb⟩; rfl))
              simp only [Act.put, List.setIfInBounds_toArray, List.set_cons_zero, List.set_cons_succ]
              refine StepsT.cons (fun W hW => ?_) ?_
              · have c0 := (hW.cell (p := ⟨bb, bo + k, none⟩) cbl7).trans c0; obtain ⟨g0, g1, gl⟩ := (HT7.out.next hW).bg.g2; obtain ⟨q0, q1, q2, q3, ql⟩ := (HT7.out.next hW).bq.q4; first | (refine StepT.off rfl hW ?_; rfl) | (refine StepT.go rfl ?_; go_simp; first | (refine ⟨?_, hW⟩; rfl) | (refine Calls.mono (CU2.out _ (HG.out.ext (HT7.out.next hW).ext)) ?_; rintro e w8 ⟨rfl, hb⟩; refine ⟨?_, hW.trans hb⟩; rfl))
              simp only [Act.put, List.setIfInBounds_toArray, List.set_cons_zero, List.set_cons_succ]
              refine StepsT.cons (fun W hW => ?_) ?_
              · have c0 := (hW.cell (p := ⟨bb, bo + k, none⟩) cbl7).trans c0; obtain ⟨g0, g1, gl⟩ := (HT7.out.next hW).bg.g2; obtain ⟨q0, q1, q2, q3, ql⟩ := (HT7.out.next hW).bq.q4; first | (refine StepT.off rfl hW ?_; rfl) | (refine StepT.go rfl ?_; go_simp; first | (refine ⟨?_, hW⟩; rfl) | (refine Calls.mono (CU2.out _ (HG.out.ext (HT7.out.next hW).ext)) ?_; rintro e w8 ⟨rfl, hb⟩; refine ⟨?_, hW.trans hb⟩; rfl))
              simp only [Act.put, List.setIfInBounds_toArray, List.set_cons_zero, List.set_cons_succ]
              refine StepsT.cons (fun W hW => ?_) ?_
              · have c0 := (hW.cell (p := ⟨bb, bo + k, none⟩) cbl7).trans c0; obtain ⟨g0, g1, gl⟩ := (HT7.out.next hW).bg.g2; obtain ⟨q0, q1, q2, q3, ql⟩ := (HT7.out.next hW).bq.q4; first | (refine StepT.off rfl hW ?_; rfl) | (refine StepT.go rfl ?_; go_simp; first | (refine ⟨?_, hW⟩; rfl) | (refine Calls.mono (CU2.out _ (HG.out.ext (HT7.out.next hW).ext)) ?_; rintro e w8 ⟨rfl, hb⟩; refine ⟨?_, hW.trans hb⟩; rfl))
              simp only [Act.put, List.setIfInBounds_toArray, List.set_cons_zero, List.set_cons_succ]
              refine StepsT.cons (fun W hW => ?_) ?_
              · have c0 := (hW.cell (p := ⟨bb, bo + k, none⟩) cbl7).trans c0; obtain ⟨g0, g1, gl⟩ := (HT7.out.next hW).bg.g2; obtain ⟨q0, q1, q2, q3, ql⟩ := (HT7.out.next hW).bq.q4; first | (refine StepT.off rfl hW ?_; rfl) | (refine StepT.go rfl ?_; go_simp; first | (refine ⟨?_, hW⟩; rfl) | (refine Calls.mono (CU2.out _ (HG.out.ext (HT7.out.next hW).ext)) ?_; rintro e w8 ⟨rfl, hb⟩; refine ⟨?_, hW.trans hb⟩; rfl))
              simp only [Act.put, List.setIfInBounds_toArray, List.set_cons_zero, List.set_cons_succ]
              refine StepsT.cons (fun W hW => ?_) ?_
              · have c0 := (hW.cell (p := ⟨bb, bo + k, none⟩) cbl7).trans c0; obtain ⟨g0, g1, gl⟩ := (HT7.out.next hW).bg.g2; obtain ⟨q0, q1, q2, q3, ql⟩ := (HT7.out.next hW).bq.q4; first | (refine StepT.off rfl hW ?_; rfl) | (refine StepT.go rfl ?_; go_simp; first | (refine ⟨?_, hW⟩; rfl) | (refine Calls.mono (CU2.out _ (HG.out.ext (HT7.out.next hW).ext)) ?_; rintro e w8 ⟨rfl, hb⟩; refine ⟨?_, hW.trans hb⟩; rfl))
              simp only [Act.put, List.setIfInBounds_toArray, List.set_cons_zero, List.set_cons_succ]
              trivial
            intro W hW
            simp only [putAll, Act.put, List.setIfInBounds_toArray, List.set_cons_zero, List.set_cons_succ]
            have HT8 := Lib.hid (HT7.out.next hW)
            have HX8 : Hid (Ext w7 _) := Lib.hid hW
            clear hW
            go_upto_region 35 with fail
            refine wp_region_steady (Ext _) [?_, ?_, ?_, ?_, ?_, ?_, ?_, ?_, ?_, ?_, ?_, ?_, ?_, ?_] (by kernel_rfl) (by kernel_rfl) rfl (Ext.refl _).drew ?_ ?_
            rotate_left 14
            · refine StepsT.cons (fun W hW => ?_) ?_
              · have c0 := ((HX8.out.trans hW).cell (p := ⟨bb, bo + k, none⟩) cbl7).trans c0; obtain ⟨g0, g1, gl⟩ := (HT8.out.next hW).bg.g2; obtain ⟨q0, q1, q2, q3, ql⟩ := (HT8.out.next hW).bq.q4; first | (refine StepT.off rfl hW ?_; rfl) | (refine StepT.go rfl ?_; go_simp; first | (refine ⟨?_, hW⟩; rfl) | (refine Calls.mono (CO2.out _ (HG.out.ext (HT8.out.next hW).ext)) ?_; rintro e w9 ⟨rfl, hb⟩; refine ⟨?_, hW.trans hb⟩; rfl))
              simp only [Act.put, List.setIfInBounds_toArray, List.set_cons_zero, List.set_cons_succ]
              refine StepsT.cons (fun W hW => ?_) ?_
              · have c0 := ((HX8.out.trans hW).cell (p := ⟨bb, bo + k, none⟩) cbl7).trans c0; obtain ⟨g0, g1, gl⟩ := (HT8.out.next hW).bg.g2; obtain ⟨q0, q1, q2, q3, ql⟩ := (HT8.out.next hW).bq.q4; first | (refine StepT.off rfl hW ?_; rfl) | (refine StepT.go rfl ?_; go_simp; first | (refine ⟨?_, hW⟩; rfl) | (refine Calls.mono (CO2.out _ (HG.out.ext (HT8.out.next hW).ext)) ?_; rintro e w9 ⟨rfl, hb⟩; refine ⟨?_, hW.trans hb⟩; rfl))
              simp only [Act.put, List.setIfInBounds_toArray, List.set_cons_zero, List.set_cons_succ]
              refine StepsT.cons (fun W hW => ?_) ?_
              · have c0 := ((HX8.out.trans hW).cell (p := ⟨bb, bo + k, none⟩) cbl7).trans c0; obtain ⟨g0, g1, gl⟩ := (HT8.out.next hW).bg.g2; obtain ⟨q0, q1, q2, q3, ql⟩ := (HT8.out.next hW).bq.q4; first | (refine StepT.off rfl hW ?_; rfl) | (refine StepT.go rfl ?_; go_simp; first | (refine ⟨?_, hW⟩; rfl) | (refine Calls.mono (CO2.out _ (HG.out.ext (HT8.out.next hW).ext)) ?_; rintro e w9 ⟨rfl, hb⟩; refine ⟨?_, hW.trans hb⟩; rfl))
              simp only [Act.put, List.setIfInBounds_toArray, List.set_cons_zero, List.set_cons_succ]
              refine StepsT.cons (fun W hW => ?_) ?_
              · have c0 := ((HX8.out.trans hW).cell (p := ⟨bb, bo + k, none⟩) cbl7).trans c0; obtain ⟨g0, g1, gl⟩ := (HT8.out.next hW).bg.g2; obtain ⟨q0, q1, q2, q3, ql⟩ := (HT8.out.next hW).bq.q4; first | (refine StepT.off rfl hW ?_; rfl) | (refine StepT.go rfl ?_; go_simp; first | (refine ⟨?_, hW⟩; rfl) | (refine Calls.mono (CO2.out _ (HG.out.ext (HT8.out.next hW).ext)) ?_; rintro e w9 ⟨rfl, hb⟩; refine ⟨?_, hW.trans hb⟩; rfl))
              simp only [Act.put, List.setIfInBounds_toArray, List.set_cons_zero, List.set_cons_succ]
              refine StepsT.cons (fun W hW => ?_) ?_
              · have c0 := ((HX8.out.trans hW).cell (p := ⟨bb, bo + k, none⟩) cbl7).trans c0; obtain ⟨g0, g1, gl⟩ := (HT8.out.next hW).bg.g2; obtain ⟨q0, q1, q2, q3, ql⟩ := (HT8.out.next hW).bq.q4; first | (refine StepT.off rfl hW ?_; rfl) | (refine StepT.go rfl ?_; go_simp; first | (refine ⟨?_, hW⟩; rfl) | (refine Calls.mono (CO2.out _ (HG.out.ext (HT8.out.next hW).ext)) ?_; rintro e w9 ⟨rfl, hb⟩; refine ⟨?_, hW.trans hb⟩; rfl))
              simp only [Act.put, List.setIfInBounds_toArray, List.set_cons_zero, List.set_cons_succ]
              refine StepsT.cons (fun W hW => ?_) ?_
              · have c0 := ((HX8.out.trans hW).cell (p := ⟨bb, bo + k, none⟩) cbl7).trans c0; obtain ⟨g0, g1, gl⟩ := (HT8.out.next hW).bg.g2; obtain ⟨q0, q1, q2, q3, ql⟩ := (HT8.out.next hW).bq.q4; first | (refine StepT.off rfl hW ?_; rfl) | (refine StepT.go rfl ?_; go_simp; first | (refine ⟨?_, hW⟩; rfl) | (refine Calls.mono (CO2.out _ (HG.out.ext (HT8.out.next hW).ext)) ?_; rintro e w9 ⟨rfl, hb⟩; refine ⟨?_, hW.trans hb⟩; rfl))
              simp only [Act.put, List.setIfInBounds_toArray, List.set_cons_zero, List.set_cons_succ]
              refine StepsT.cons (fun W hW => ?_) ?_
              · have c0 := ((HX8.out.trans hW).cell (p := ⟨bb, bo + k, none⟩) cbl7).trans c0; obtain ⟨g0, g1, gl⟩ := (HT8.out.next hW).bg.g2; obtain ⟨q0, q1, q2, q3, ql⟩ := (HT8.out.next hW).bq.q4; first | (refine StepT.off rfl hW ?_; rfl) | (refine StepT.go rfl ?_; go_simp; first | (refine ⟨?_, hW⟩; rfl) | (refine Calls.mono (CO2.out _ (HG.out.ext (HT8.out.next hW).ext)) ?_; rintro e w9 ⟨rfl, hb⟩; refine ⟨?_, hW.trans hb⟩; rfl))
              simp only [Act.put, List.setIfInBounds_toArray, List.set_cons_zero, List.set_cons_succ]
              refine StepsT.cons (fun W hW => ?_) ?_
              · have c0 := ((HX8.out.trans hW).cell (p := ⟨bb, bo + k, none⟩) cbl7).trans c0; obtain ⟨g0, g1, gl⟩ := (HT8.out.next hW).bg.g2; obtain ⟨q0, q1, q2, q3, ql⟩ := (HT8.out.next hW).bq.q4; first | (refine StepT.off rfl hW ?_; rfl) | (refine StepT.go rfl ?_; go_simp; first | (refine ⟨?_, hW⟩; rfl) | (refine Calls.mono (CO2.out _ (HG.out.ext (HT8.out.next hW).ext)) ?_; rintro e w9 ⟨rfl, hb⟩; refine ⟨?_, hW.trans hb⟩; rfl))
              simp only [Act.put, List.setIfInBounds_toArray, List.set_cons_zero, List.set_cons_succ]
              refine StepsT.cons (fun W hW => ?_) ?_
              · have c0 := ((HX8.out.trans hW).cell (p := ⟨bb, bo + k, none⟩) cbl7).trans c0; obtain ⟨g0, g1, gl⟩ := (HT8.out.next hW).bg.g2; obtain ⟨q0, q1, q2, q3, ql⟩ := (HT8.out.next hW).bq.q4; first | (refine StepT.off rfl hW ?_; rfl) | (refine StepT.go rfl ?_; go_simp; first | (refine ⟨?_, hW⟩; rfl) | (refine Calls.mono (CO2.out _ (HG.out.ext (HT8.out.next hW).ext)) ?_; rintro e w9 ⟨rfl, hb⟩; refine ⟨?_, hW.trans hb⟩; rfl))
              simp only [Act.put, List.setIfInBounds_toArray, List.set_cons_zero, List.set_cons_succ]
              refine StepsT.cons (fun W hW => ?_) ?_
              · have c0 := ((HX8.out.trans hW).cell (p := ⟨bb, bo + k, none⟩) cbl7).trans c0; obtain ⟨g0, g1, gl⟩ := (HT8.out.next hW).bg.g2; obtain ⟨q0, q1, q2, q3, ql⟩ := (HT8.out.next hW).bq.q4; first | (refine StepT.off rfl hW ?_; rfl) | (refine StepT.go rfl ?_; go_simp; first | (refine ⟨?_, hW⟩; rfl) | (refine Calls.mono (CO2.out _ (HG.out.ext (HT8.out.next hW).ext)) ?_; rintro e w9 ⟨rfl, hb⟩; refine ⟨?_, hW.trans hb⟩; rfl))
              simp only [Act.put, List.setIfInBounds_toArray, List.set_cons_zero, List.set_cons_succ]
              refine StepsT.cons (fun W hW => ?_) ?_
              · have c0 := ((HX8.out.trans hW).cell (p := ⟨bb, bo + k, none⟩) cbl7).trans c0; obtain ⟨g0, g1, gl⟩ := (HT8.out.next hW).bg.g2; obtain ⟨q0, q1, q2, q3, ql⟩ := (HT8.out.next hW).bq.q4; first | (refine StepT.off rfl hW ?_; rfl) | (refine StepT.go rfl ?_; go_simp; first | (refine ⟨?_, hW⟩; rfl) | (refine Calls.mono (CO2.out _ (HG.out.ext (HT8.out.next hW).ext)) ?_; rintro e w9 ⟨rfl, hb⟩; refine ⟨?_, hW.trans hb⟩; rfl))
              simp only [Act.put, List.setIfInBounds_toArray, List.set_cons_zero, List.set_cons_succ]
              refine StepsT.cons (fun W hW => ?_) ?_
              · have c0 := ((HX8.out.trans hW).cell (p := ⟨bb, bo + k, none⟩) cbl7).trans c0; obtain ⟨g0, g1, gl⟩ := (HT8.out.next hW).bg.g2; obtain ⟨q0, q1, q2, q3, ql⟩ := (HT8.out.next hW).bq.q4; first | (refine StepT.off rfl hW ?_; rfl) | (refine StepT.go rfl ?_; go_simp; first | (refine ⟨?_, hW⟩; rfl) | (refine Calls.mono (CO2.out _ (HG.out.ext (HT8.out.next hW).ext)) ?_; rintro e w9 ⟨rfl, hb⟩; refine ⟨?_, hW.trans hb⟩; rfl))
              simp only [Act.put, List.setIfInBounds_toArray, List.set_cons_zero, List.set_cons_succ]
              refine StepsT.cons (fun W hW => ?_) ?_
              · have c0 := ((HX8.out.trans hW).cell (p := ⟨bb, bo + k, none⟩) cbl7).trans c0; obtain ⟨g0, g1, gl⟩ := (HT8.out.next hW).bg.g2; obtain ⟨q0, q1, q2, q3, ql⟩ := (HT8.out.next hW).bq.q4; first | (refine StepT.off rfl hW ?_; rfl) | (refine StepT.go rfl ?_; go_simp; first | (refine ⟨?_, hW⟩; rfl) | (refine Calls.mono (CO2.out _ (HG.out.ext (HT8.out.next hW).ext)) ?_; rintro e w9 ⟨rfl, hb⟩; refine ⟨?_, hW.trans hb⟩; rfl))
              simp only [Act.put, List.setIfInBounds_toArray, List.set_cons_zero, List.set_cons_succ]
              refine StepsT.cons (fun W hW => ?_) ?_
              · have c0 := ((HX8.out.trans hW).cell (p := ⟨bb, bo + k, none⟩) cbl7).trans c0; obtain ⟨g0, g1, gl⟩ := (HT8.out.next hW).bg.g2; obtain ⟨q0, q1, q2, q3, ql⟩ := (HT8.out.next hW).bq.q4; first | (refine StepT.off rfl hW ?_; rfl) | (refine StepT.go rfl ?_; go_simp; first | (refine ⟨?_, hW⟩; rfl) | (refine Calls.mono (CO2.out _ (HG.out.ext (HT8.out.next hW).ext)) ?_; rintro e w9 ⟨rfl, hb⟩; refine ⟨?_, hW.trans hb⟩; rfl))
              simp only [Act.put, List.setIfInBounds_toArray, List.set_cons_zero, List.set_cons_succ]
              trivial
            intro W hW
            simp only [putAll, Act.put, List.setIfInBounds_toArray, List.set_cons_zero, List.set_cons_succ]
            have HT10 := Lib.hid (HT8.out.next hW)
            have HX10 : Hid (Ext w7 _) := Lib.hid (HX8.out.trans hW)
            have HC10 := Lib.hid ((HX10.out.cell (p := ⟨bb, bo + k, none⟩) cbl7).trans c0)
            have HL10 := Lib.hid (Nat.lt_of_lt_of_le cbl7 HX10.out.size)
            clear hW g0 g1 gl q0 q1 q2 q3 ql c0 cbl7 HX8 HT8
            have c0 := HC10.out
            have cbl7 := HL10.out
            obtain ⟨g0, g1, gl⟩ := HT10.out.bg.g2
            obtain ⟨q0, q1, q2, q3, ql⟩ := HT10.out.bq.q4
            rcases HDEC.out with ⟨d1, d2⟩ | ⟨d1, d2⟩
            all_goals
              go_upto_region 38 with fail
              have hwsum : IntKind.i64.wrap (brkSum (costR g r) 0 bs k + cv) = brkSum (costR g r) 0 bs k + cv := by have := HSB.out k hk; rw [IntWalk.i64_in _ (by omega)]
              have HOA := Lib.hid (HOW.out.ext (HX7.out.trans HX10.out)); have HLA := Lib.hid (HL7.out.ext HX10.out); have HTA := Lib.hid HT10.out
              have HXA := Lib.hid (HXW.out.trans (HX7.out.trans HX10.out))
              have HB4 : Hid (Nat.lt bb w4.heap.size) := Lib.hid (HBB4.out (by omega) _ rfl)
              clear g0 g1 gl q0 q1 q2 q3 ql
              go_region_held3 (fun X => X.cell? ⟨bb, bo + k, none⟩ = some (.int .i64 (e0 : Int)) ∧ bb < X.heap.size) (first | exact ⟨c9, cl9⟩ | exact ⟨c0, cbl7⟩ | go_keep) (first | (refine step_appendI2 rfl (.tmp 207) (.tmp 208) rfl w4.heap.size _ (notesR g.items 0 b0) rfl (HOA.out.ext (by repeat (first | exact Ext.refl _ | assumption | refine Ext.alloc ?_ _ | refine Ext.drew ?_ | refine Ext.drewN ?_ _ | (refine Ext.setCell ?_ (by simp <;> omega) _) | refine Ext.trans ?_ (by assumption)))) lA nl.length lc nl rfl (HLA.out.ext (by repeat (first | exact Ext.refl _ | assumption | refine Ext.alloc ?_ _ | refine Ext.drew ?_ | refine Ext.drewN ?_ _ | (refine Ext.setCell ?_ (by simp <;> omega) _) | refine Ext.trans ?_ (by assumption)))) (by have := HNL.out; have := HNL2.out; omega) (by have := HXA.out.size; simp; omega) ?_; intro v' w' ho hg; have HO9 := Lib.hid ho; have HT9 := Lib.hid (HTA.out.push HOA.out HW41.out HBB4.out (by repeat (first | exact Ext.refl _ | assumption | refine Ext.alloc ?_ _ | refine Ext.drew ?_ | refine Ext.drewN ?_ _ | (refine Ext.setCell ?_ (by simp <;> omega) _) | refine Ext.trans ?_ (by assumption))) hg); have HX9 := Lib.hid (Ext.grown (HXA.out.trans (by repeat (first | exact Ext.refl _ | assumption | refine Ext.alloc ?_ _ | refine Ext.drew ?_ | refine Ext.drewN ?_ _ | (refine Ext.setCell ?_ (by simp <;> omega) _) | refine Ext.trans ?_ (by assumption)))) hg fun k9 hk9 => HOA.out.base_le k9 hk9); have c9 := grown_cell hg (show bb < _ from by simp; exact cbl7) (HOA.out.base_ne HB4.out) c0; have cl9 := Nat.lt_of_lt_of_le HB4.out HX9.out.size; clear ho hg))
              go_wp2_with fail
              go_roundw
              case rel => exact ⟨k + 1, by omega, by go_num, by rw [HSX.out], by rw [HSS.out], Lib.hid (by rw [HSX.out, HNA2.out]; exact HO9.out), HT9, HX9⟩
              case measure => simp [intOf]; omega
          case neg =>
            obtain ⟨hm1, hm2⟩ := HPB2.out (k - 2) (by omega)
            have CU2 := Lib.hid cU; have CO2 := Lib.hid cO; clear cU cO
            have i10 : (1 : Int) < (k : Int) := by omega
            have i11 : (0 : Int) ≤ (k : Int) - 2 := by omega
            have i12 : (k : Int) - 2 < (bs.length : Int) := by omega
            have i13 : ((k : Int) - 2).toNat = k - 2 := by omega
            have c2x : w7.cell? ⟨bb, bo + (k - 2), none⟩ = some (.int .i64 (pb : Int)) := by
              obtain ⟨b8, o8, h8, _, hc8⟩ := HT7.out.ri.2.2 (by omega)
              cases h8
              rw [hc8 (k - 2) (by omega), hm2, ← hm1]
            clear hk1 hk0 HPB HPB2 hm1 hm2
            go_upto_region 34 with fail
            clear i11 i12 i13 c2x
            refine wp_region_steady (Ext _) [?_, ?_, ?_, ?_, ?_, ?_, ?_, ?_, ?_, ?_, ?_, ?_, ?_, ?_] (by kernel_rfl) (by kernel_rfl) rfl (Ext.refl _).drew ?_ ?_
            rotate_left 14
            · refine StepsT.cons (fun W hW => ?_) ?_
              · have c0 := (hW.cell (p := ⟨bb, bo + k, none⟩) cbl7).trans c0; obtain ⟨g0, g1, gl⟩ := (HT7.out.next hW).bg.g2; obtain ⟨q0, q1, q2, q3, ql⟩ := (HT7.out.next hW).bq.q4; first | (refine StepT.off rfl hW ?_; rfl) | (refine StepT.go rfl ?_; go_simp; first | (refine ⟨?_, hW⟩; rfl) | (refine Calls.mono (CU2.out _ (HG.out.ext (HT7.out.next hW).ext)) ?_; rintro e w8 ⟨rfl, hb⟩; refine ⟨?_, hW.trans hb⟩; rfl))
              simp only [Act.put, List.setIfInBounds_toArray, List.set_cons_zero, List.set_cons_succ]
              refine StepsT.cons (fun W hW => ?_) ?_
              · have c0 := (hW.cell (p := ⟨bb, bo + k, none⟩) cbl7).trans c0; obtain ⟨g0, g1, gl⟩ := (HT7.out.next hW).bg.g2; obtain ⟨q0, q1, q2, q3, ql⟩ := (HT7.out.next hW).bq.q4; first | (refine StepT.off rfl hW ?_; rfl) | (refine StepT.go rfl ?_; go_simp; first | (refine ⟨?_, hW⟩; rfl) | (refine Calls.mono (CU2.out _ (HG.out.ext (HT7.out.next hW).ext)) ?_; rintro e w8 ⟨rfl, hb⟩; refine ⟨?_, hW.trans hb⟩; rfl))
              simp only [Act.put, List.setIfInBounds_toArray, List.set_cons_zero, List.set_cons_succ]
              refine StepsT.cons (fun W hW => ?_) ?_
              · have c0 := (hW.cell (p := ⟨bb, bo + k, none⟩) cbl7).trans c0; obtain ⟨g0, g1, gl⟩ := (HT7.out.next hW).bg.g2; obtain ⟨q0, q1, q2, q3, ql⟩ := (HT7.out.next hW).bq.q4; first | (refine StepT.off rfl hW ?_; rfl) | (refine StepT.go rfl ?_; go_simp; first | (refine ⟨?_, hW⟩; rfl) | (refine Calls.mono (CU2.out _ (HG.out.ext (HT7.out.next hW).ext)) ?_; rintro e w8 ⟨rfl, hb⟩; refine ⟨?_, hW.trans hb⟩; rfl))
              simp only [Act.put, List.setIfInBounds_toArray, List.set_cons_zero, List.set_cons_succ]
              refine StepsT.cons (fun W hW => ?_) ?_
              · have c0 := (hW.cell (p := ⟨bb, bo + k, none⟩) cbl7).trans c0; obtain ⟨g0, g1, gl⟩ := (HT7.out.next hW).bg.g2; obtain ⟨q0, q1, q2, q3, ql⟩ := (HT7.out.next hW).bq.q4; first | (refine StepT.off rfl hW ?_; rfl) | (refine StepT.go rfl ?_; go_simp; first | (refine ⟨?_, hW⟩; rfl) | (refine Calls.mono (CU2.out _ (HG.out.ext (HT7.out.next hW).ext)) ?_; rintro e w8 ⟨rfl, hb⟩; refine ⟨?_, hW.trans hb⟩; rfl))
              simp only [Act.put, List.setIfInBounds_toArray, List.set_cons_zero, List.set_cons_succ]
              refine StepsT.cons (fun W hW => ?_) ?_
              · have c0 := (hW.cell (p := ⟨bb, bo + k, none⟩) cbl7).trans c0; obtain ⟨g0, g1, gl⟩ := (HT7.out.next hW).bg.g2; obtain ⟨q0, q1, q2, q3, ql⟩ := (HT7.out.next hW).bq.q4; first | (refine StepT.off rfl hW ?_; rfl) | (refine StepT.go rfl ?_; go_simp; first | (refine ⟨?_, hW⟩; rfl) | (refine Calls.mono (CU2.out _ (HG.out.ext (HT7.out.next hW).ext)) ?_; rintro e w8 ⟨rfl, hb⟩; refine ⟨?_, hW.trans hb⟩; rfl))
              simp only [Act.put, List.setIfInBounds_toArray, List.set_cons_zero, List.set_cons_succ]
              refine StepsT.cons (fun W hW => ?_) ?_
              · have c0 := (hW.cell (p := ⟨bb, bo + k, none⟩) cbl7).trans c0; obtain ⟨g0, g1, gl⟩ := (HT7.out.next hW).bg.g2; obtain ⟨q0, q1, q2, q3, ql⟩ := (HT7.out.next hW).bq.q4; first | (refine StepT.off rfl hW ?_; rfl) | (refine StepT.go rfl ?_; go_simp; first | (refine ⟨?_, hW⟩; rfl) | (refine Calls.mono (CU2.out _ (HG.out.ext (HT7.out.next hW).ext)) ?_; rintro e w8 ⟨rfl, hb⟩; refine ⟨?_, hW.trans hb⟩; rfl))
              simp only [Act.put, List.setIfInBounds_toArray, List.set_cons_zero, List.set_cons_succ]
              refine StepsT.cons (fun W hW => ?_) ?_
              · have c0 := (hW.cell (p := ⟨bb, bo + k, none⟩) cbl7).trans c0; obtain ⟨g0, g1, gl⟩ := (HT7.out.next hW).bg.g2; obtain ⟨q0, q1, q2, q3, ql⟩ := (HT7.out.next hW).bq.q4; first | (refine StepT.off rfl hW ?_; rfl) | (refine StepT.go rfl ?_; go_simp; first | (refine ⟨?_, hW⟩; rfl) | (refine Calls.mono (CU2.out _ (HG.out.ext (HT7.out.next hW).ext)) ?_; rintro e w8 ⟨rfl, hb⟩; refine ⟨?_, hW.trans hb⟩; rfl))
              simp only [Act.put, List.setIfInBounds_toArray, List.set_cons_zero, List.set_cons_succ]
              refine StepsT.cons (fun W hW => ?_) ?_
              · have c0 := (hW.cell (p := ⟨bb, bo + k, none⟩) cbl7).trans c0; obtain ⟨g0, g1, gl⟩ := (HT7.out.next hW).bg.g2; obtain ⟨q0, q1, q2, q3, ql⟩ := (HT7.out.next hW).bq.q4; first | (refine StepT.off rfl hW ?_; rfl) | (refine StepT.go rfl ?_; go_simp; first | (refine ⟨?_, hW⟩; rfl) | (refine Calls.mono (CU2.out _ (HG.out.ext (HT7.out.next hW).ext)) ?_; rintro e w8 ⟨rfl, hb⟩; refine ⟨?_, hW.trans hb⟩; rfl))
              simp only [Act.put, List.setIfInBounds_toArray, List.set_cons_zero, List.set_cons_succ]
              refine StepsT.cons (fun W hW => ?_) ?_
              · have c0 := (hW.cell (p := ⟨bb, bo + k, none⟩) cbl7).trans c0; obtain ⟨g0, g1, gl⟩ := (HT7.out.next hW).bg.g2; obtain ⟨q0, q1, q2, q3, ql⟩ := (HT7.out.next hW).bq.q4; first | (refine StepT.off rfl hW ?_; rfl) | (refine StepT.go rfl ?_; go_simp; first | (refine ⟨?_, hW⟩; rfl) | (refine Calls.mono (CU2.out _ (HG.out.ext (HT7.out.next hW).ext)) ?_; rintro e w8 ⟨rfl, hb⟩; refine ⟨?_, hW.trans hb⟩; rfl))
              simp only [Act.put, List.setIfInBounds_toArray, List.set_cons_zero, List.set_cons_succ]
              refine StepsT.cons (fun W hW => ?_) ?_
              · have c0 := (hW.cell (p := ⟨bb, bo + k, none⟩) cbl7).trans c0; obtain ⟨g0, g1, gl⟩ := (HT7.out.next hW).bg.g2; obtain ⟨q0, q1, q2, q3, ql⟩ := (HT7.out.next hW).bq.q4; first | (refine StepT.off rfl hW ?_; rfl) | (refine StepT.go rfl ?_; go_simp; first | (refine ⟨?_, hW⟩; rfl) | (refine Calls.mono (CU2.out _ (HG.out.ext (HT7.out.next hW).ext)) ?_; rintro e w8 ⟨rfl, hb⟩; refine ⟨?_, hW.trans hb⟩; rfl))
              simp only [Act.put, List.setIfInBounds_toArray, List.set_cons_zero, List.set_cons_succ]
              refine StepsT.cons (fun W hW => ?_) ?_
              · have c0 := (hW.cell (p := ⟨bb, bo + k, none⟩) cbl7).trans c0; obtain ⟨g0, g1, gl⟩ := (HT7.out.next hW).bg.g2; obtain ⟨q0, q1, q2, q3, ql⟩ := (HT7.out.next hW).bq.q4; first | (refine StepT.off rfl hW ?_; rfl) | (refine StepT.go rfl ?_; go_simp; first | (refine ⟨?_, hW⟩; rfl) | (refine Calls.mono (CU2.out _ (HG.out.ext (HT7.out.next hW).ext)) ?_; rintro e w8 ⟨rfl, hb⟩; refine ⟨?_, hW.trans hb⟩; rfl))
              simp only [Act.put, List.setIfInBounds_toArray, List.set_cons_zero, List.set_cons_succ]
              refine StepsT.cons (fun W hW => ?_) ?_
              · have c0 := (hW.cell (p := ⟨bb, bo + k, none⟩) cbl7).trans c0; obtain ⟨g0, g1, gl⟩ := (HT7.out.next hW).bg.g2; obtain ⟨q0, q1, q2, q3, ql⟩ := (HT7.out.next hW).bq.q4; first | (refine StepT.off rfl hW ?_; rfl) | (refine StepT.go rfl ?_; go_simp; first | (refine ⟨?_, hW⟩; rfl) | (refine Calls.mono (CU2.out _ (HG.out.ext (HT7.out.next hW).ext)) ?_; rintro e w8 ⟨rfl, hb⟩; refine ⟨?_, hW.trans hb⟩; rfl))
              simp only [Act.put, List.setIfInBounds_toArray, List.set_cons_zero, List.set_cons_succ]
              refine StepsT.cons (fun W hW => ?_) ?_
              · have c0 := (hW.cell (p := ⟨bb, bo + k, none⟩) cbl7).trans c0; obtain ⟨g0, g1, gl⟩ := (HT7.out.next hW).bg.g2; obtain ⟨q0, q1, q2, q3, ql⟩ := (HT7.out.next hW).bq.q4; first | (refine StepT.off rfl hW ?_; rfl) | (refine StepT.go rfl ?_; go_simp; first | (refine ⟨?_, hW⟩; rfl) | (refine Calls.mono (CU2.out _ (HG.out.ext (HT7.out.next hW).ext)) ?_; rintro e w8 ⟨rfl, hb⟩; refine ⟨?_, hW.trans hb⟩; rfl))
              simp only [Act.put, List.setIfInBounds_toArray, List.set_cons_zero, List.set_cons_succ]
              refine StepsT.cons (fun W hW => ?_) ?_
              · have c0 := (hW.cell (p := ⟨bb, bo + k, none⟩) cbl7).trans c0; obtain ⟨g0, g1, gl⟩ := (HT7.out.next hW).bg.g2; obtain ⟨q0, q1, q2, q3, ql⟩ := (HT7.out.next hW).bq.q4; first | (refine StepT.off rfl hW ?_; rfl) | (refine StepT.go rfl ?_; go_simp; first | (refine ⟨?_, hW⟩; rfl) | (refine Calls.mono (CU2.out _ (HG.out.ext (HT7.out.next hW).ext)) ?_; rintro e w8 ⟨rfl, hb⟩; refine ⟨?_, hW.trans hb⟩; rfl))
              simp only [Act.put, List.setIfInBounds_toArray, List.set_cons_zero, List.set_cons_succ]
              trivial
            intro W hW
            simp only [putAll, Act.put, List.setIfInBounds_toArray, List.set_cons_zero, List.set_cons_succ]
            have HT8 := Lib.hid (HT7.out.next hW)
            have HX8 : Hid (Ext w7 _) := Lib.hid hW
            clear hW
            go_upto_region 35 with fail
            refine wp_region_steady (Ext _) [?_, ?_, ?_, ?_, ?_, ?_, ?_, ?_, ?_, ?_, ?_, ?_, ?_, ?_] (by kernel_rfl) (by kernel_rfl) rfl (Ext.refl _).drew ?_ ?_
            rotate_left 14
            · refine StepsT.cons (fun W hW => ?_) ?_
              · have c0 := ((HX8.out.trans hW).cell (p := ⟨bb, bo + k, none⟩) cbl7).trans c0; obtain ⟨g0, g1, gl⟩ := (HT8.out.next hW).bg.g2; obtain ⟨q0, q1, q2, q3, ql⟩ := (HT8.out.next hW).bq.q4; first | (refine StepT.off rfl hW ?_; rfl) | (refine StepT.go rfl ?_; go_simp; first | (refine ⟨?_, hW⟩; rfl) | (refine Calls.mono (CO2.out _ (HG.out.ext (HT8.out.next hW).ext)) ?_; rintro e w9 ⟨rfl, hb⟩; refine ⟨?_, hW.trans hb⟩; rfl))
              simp only [Act.put, List.setIfInBounds_toArray, List.set_cons_zero, List.set_cons_succ]
              refine StepsT.cons (fun W hW => ?_) ?_
              · have c0 := ((HX8.out.trans hW).cell (p := ⟨bb, bo + k, none⟩) cbl7).trans c0; obtain ⟨g0, g1, gl⟩ := (HT8.out.next hW).bg.g2; obtain ⟨q0, q1, q2, q3, ql⟩ := (HT8.out.next hW).bq.q4; first | (refine StepT.off rfl hW ?_; rfl) | (refine StepT.go rfl ?_; go_simp; first | (refine ⟨?_, hW⟩; rfl) | (refine Calls.mono (CO2.out _ (HG.out.ext (HT8.out.next hW).ext)) ?_; rintro e w9 ⟨rfl, hb⟩; refine ⟨?_, hW.trans hb⟩; rfl))
              simp only [Act.put, List.setIfInBounds_toArray, List.set_cons_zero, List.set_cons_succ]
              refine StepsT.cons (fun W hW => ?_) ?_
              · have c0 := ((HX8.out.trans hW).cell (p := ⟨bb, bo + k, none⟩) cbl7).trans c0; obtain ⟨g0, g1, gl⟩ := (HT8.out.next hW).bg.g2; obtain ⟨q0, q1, q2, q3, ql⟩ := (HT8.out.next hW).bq.q4; first | (refine StepT.off rfl hW ?_; rfl) | (refine StepT.go rfl ?_; go_simp; first | (refine ⟨?_, hW⟩; rfl) | (refine Calls.mono (CO2.out _ (HG.out.ext (HT8.out.next hW).ext)) ?_; rintro e w9 ⟨rfl, hb⟩; refine ⟨?_, hW.trans hb⟩; rfl))
              simp only [Act.put, List.setIfInBounds_toArray, List.set_cons_zero, List.set_cons_succ]
              refine StepsT.cons (fun W hW => ?_) ?_
              · have c0 := ((HX8.out.trans hW).cell (p := ⟨bb, bo + k, none⟩) cbl7).trans c0; obtain ⟨g0, g1, gl⟩ := (HT8.out.next hW).bg.g2; obtain ⟨q0, q1, q2, q3, ql⟩ := (HT8.out.next hW).bq.q4; first | (refine StepT.off rfl hW ?_; rfl) | (refine StepT.go rfl ?_; go_simp; first | (refine ⟨?_, hW⟩; rfl) | (refine Calls.mono (CO2.out _ (HG.out.ext (HT8.out.next hW).ext)) ?_; rintro e w9 ⟨rfl, hb⟩; refine ⟨?_, hW.trans hb⟩; rfl))
              simp only [Act.put, List.setIfInBounds_toArray, List.set_cons_zero, List.set_cons_succ]
              refine StepsT.cons (fun W hW => ?_) ?_
              · have c0 := ((HX8.out.trans hW).cell (p := ⟨bb, bo + k, none⟩) cbl7).trans c0; obtain ⟨g0, g1, gl⟩ := (HT8.out.next hW).bg.g2; obtain ⟨q0, q1, q2, q3, ql⟩ := (HT8.out.next hW).bq.q4; first | (refine StepT.off rfl hW ?_; rfl) | (refine StepT.go rfl ?_; go_simp; first | (refine ⟨?_, hW⟩; rfl) | (refine Calls.mono (CO2.out _ (HG.out.ext (HT8.out.next hW).ext)) ?_; rintro e w9 ⟨rfl, hb⟩; refine ⟨?_, hW.trans hb⟩; rfl))
              simp only [Act.put, List.setIfInBounds_toArray, List.set_cons_zero, List.set_cons_succ]
              refine StepsT.cons (fun W hW => ?_) ?_
              · have c0 := ((HX8.out.trans hW).cell (p := ⟨bb, bo + k, none⟩) cbl7).trans c0; obtain ⟨g0, g1, gl⟩ := (HT8.out.next hW).bg.g2; obtain ⟨q0, q1, q2, q3, ql⟩ := (HT8.out.next hW).bq.q4; first | (refine StepT.off rfl hW ?_; rfl) | (refine StepT.go rfl ?_; go_simp; first | (refine ⟨?_, hW⟩; rfl) | (refine Calls.mono (CO2.out _ (HG.out.ext (HT8.out.next hW).ext)) ?_; rintro e w9 ⟨rfl, hb⟩; refine ⟨?_, hW.trans hb⟩; rfl))
              simp only [Act.put, List.setIfInBounds_toArray, List.set_cons_zero, List.set_cons_succ]
              refine StepsT.cons (fun W hW => ?_) ?_
              · have c0 := ((HX8.out.trans hW).cell (p := ⟨bb, bo + k, none⟩) cbl7).trans c0; obtain ⟨g0, g1, gl⟩ := (HT8.out.next hW).bg.g2; obtain ⟨q0, q1, q2, q3, ql⟩ := (HT8.out.next hW).bq.q4; first | (refine StepT.off rfl hW ?_; rfl) | (refine StepT.go rfl ?_; go_simp; first | (refine ⟨?_, hW⟩; rfl) | (refine Calls.mono (CO2.out _ (HG.out.ext (HT8.out.next hW).ext)) ?_; rintro e w9 ⟨rfl, hb⟩; refine ⟨?_, hW.trans hb⟩; rfl))
              simp only [Act.put, List.setIfInBounds_toArray, List.set_cons_zero, List.set_cons_succ]
              refine StepsT.cons (fun W hW => ?_) ?_
              · have c0 := ((HX8.out.trans hW).cell (p := ⟨bb, bo + k, none⟩) cbl7).trans c0; obtain ⟨g0, g1, gl⟩ := (HT8.out.next hW).bg.g2; obtain ⟨q0, q1, q2, q3, ql⟩ := (HT8.out.next hW).bq.q4; first | (refine StepT.off rfl hW ?_; rfl) | (refine StepT.go rfl ?_; go_simp; first | (refine ⟨?_, hW⟩; rfl) | (refine Calls.mono (CO2.out _ (HG.out.ext (HT8.out.next hW).ext)) ?_; rintro e w9 ⟨rfl, hb⟩; refine ⟨?_, hW.trans hb⟩; rfl))
              simp only [Act.put, List.setIfInBounds_toArray, List.set_cons_zero, List.set_cons_succ]
              refine StepsT.cons (fun W hW => ?_) ?_
              · have c0 := ((HX8.out.trans hW).cell (p := ⟨bb, bo + k, none⟩) cbl7).trans c0; obtain ⟨g0, g1, gl⟩ := (HT8.out.next hW).bg.g2; obtain ⟨q0, q1, q2, q3, ql⟩ := (HT8.out.next hW).bq.q4; first | (refine StepT.off rfl hW ?_; rfl) | (refine StepT.go rfl ?_; go_simp; first | (refine ⟨?_, hW⟩; rfl) | (refine Calls.mono (CO2.out _ (HG.out.ext (HT8.out.next hW).ext)) ?_; rintro e w9 ⟨rfl, hb⟩; refine ⟨?_, hW.trans hb⟩; rfl))
              simp only [Act.put, List.setIfInBounds_toArray, List.set_cons_zero, List.set_cons_succ]
              refine StepsT.cons (fun W hW => ?_) ?_
              · have c0 := ((HX8.out.trans hW).cell (p := ⟨bb, bo + k, none⟩) cbl7).trans c0; obtain ⟨g0, g1, gl⟩ := (HT8.out.next hW).bg.g2; obtain ⟨q0, q1, q2, q3, ql⟩ := (HT8.out.next hW).bq.q4; first | (refine StepT.off rfl hW ?_; rfl) | (refine StepT.go rfl ?_; go_simp; first | (refine ⟨?_, hW⟩; rfl) | (refine Calls.mono (CO2.out _ (HG.out.ext (HT8.out.next hW).ext)) ?_; rintro e w9 ⟨rfl, hb⟩; refine ⟨?_, hW.trans hb⟩; rfl))
              simp only [Act.put, List.setIfInBounds_toArray, List.set_cons_zero, List.set_cons_succ]
              refine StepsT.cons (fun W hW => ?_) ?_
              · have c0 := ((HX8.out.trans hW).cell (p := ⟨bb, bo + k, none⟩) cbl7).trans c0; obtain ⟨g0, g1, gl⟩ := (HT8.out.next hW).bg.g2; obtain ⟨q0, q1, q2, q3, ql⟩ := (HT8.out.next hW).bq.q4; first | (refine StepT.off rfl hW ?_; rfl) | (refine StepT.go rfl ?_; go_simp; first | (refine ⟨?_, hW⟩; rfl) | (refine Calls.mono (CO2.out _ (HG.out.ext (HT8.out.next hW).ext)) ?_; rintro e w9 ⟨rfl, hb⟩; refine ⟨?_, hW.trans hb⟩; rfl))
              simp only [Act.put, List.setIfInBounds_toArray, List.set_cons_zero, List.set_cons_succ]
              refine StepsT.cons (fun W hW => ?_) ?_
              · have c0 := ((HX8.out.trans hW).cell (p := ⟨bb, bo + k, none⟩) cbl7).trans c0; obtain ⟨g0, g1, gl⟩ := (HT8.out.next hW).bg.g2; obtain ⟨q0, q1, q2, q3, ql⟩ := (HT8.out.next hW).bq.q4; first | (refine StepT.off rfl hW ?_; rfl) | (refine StepT.go rfl ?_; go_simp; first | (refine ⟨?_, hW⟩; rfl) | (refine Calls.mono (CO2.out _ (HG.out.ext (HT8.out.next hW).ext)) ?_; rintro e w9 ⟨rfl, hb⟩; refine ⟨?_, hW.trans hb⟩; rfl))
              simp only [Act.put, List.setIfInBounds_toArray, List.set_cons_zero, List.set_cons_succ]
              refine StepsT.cons (fun W hW => ?_) ?_
              · have c0 := ((HX8.out.trans hW).cell (p := ⟨bb, bo + k, none⟩) cbl7).trans c0; obtain ⟨g0, g1, gl⟩ := (HT8.out.next hW).bg.g2; obtain ⟨q0, q1, q2, q3, ql⟩ := (HT8.out.next hW).bq.q4; first | (refine StepT.off rfl hW ?_; rfl) | (refine StepT.go rfl ?_; go_simp; first | (refine ⟨?_, hW⟩; rfl) | (refine Calls.mono (CO2.out _ (HG.out.ext (HT8.out.next hW).ext)) ?_; rintro e w9 ⟨rfl, hb⟩; refine ⟨?_, hW.trans hb⟩; rfl))
              simp only [Act.put, List.setIfInBounds_toArray, List.set_cons_zero, List.set_cons_succ]
              refine StepsT.cons (fun W hW => ?_) ?_
              · have c0 := ((HX8.out.trans hW).cell (p := ⟨bb, bo + k, none⟩) cbl7).trans c0; obtain ⟨g0, g1, gl⟩ := (HT8.out.next hW).bg.g2; obtain ⟨q0, q1, q2, q3, ql⟩ := (HT8.out.next hW).bq.q4; first | (refine StepT.off rfl hW ?_; rfl) | (refine StepT.go rfl ?_; go_simp; first | (refine ⟨?_, hW⟩; rfl) | (refine Calls.mono (CO2.out _ (HG.out.ext (HT8.out.next hW).ext)) ?_; rintro e w9 ⟨rfl, hb⟩; refine ⟨?_, hW.trans hb⟩; rfl))
              simp only [Act.put, List.setIfInBounds_toArray, List.set_cons_zero, List.set_cons_succ]
              trivial
            intro W hW
            simp only [putAll, Act.put, List.setIfInBounds_toArray, List.set_cons_zero, List.set_cons_succ]
            have HT10 := Lib.hid (HT8.out.next hW)
            have HX10 : Hid (Ext w7 _) := Lib.hid (HX8.out.trans hW)
            have HC10 := Lib.hid ((HX10.out.cell (p := ⟨bb, bo + k, none⟩) cbl7).trans c0)
            have HL10 := Lib.hid (Nat.lt_of_lt_of_le cbl7 HX10.out.size)
            clear hW g0 g1 gl q0 q1 q2 q3 ql c0 cbl7 HX8 HT8
            have c0 := HC10.out
            have cbl7 := HL10.out
            obtain ⟨g0, g1, gl⟩ := HT10.out.bg.g2
            obtain ⟨q0, q1, q2, q3, ql⟩ := HT10.out.bq.q4
            rcases HDEC.out with ⟨d1, d2⟩ | ⟨d1, d2⟩
            all_goals
              go_upto_region 38 with fail
              have hwsum : IntKind.i64.wrap (brkSum (costR g r) 0 bs k + cv) = brkSum (costR g r) 0 bs k + cv := by have := HSB.out k hk; rw [IntWalk.i64_in _ (by omega)]
              have HOA := Lib.hid (HOW.out.ext (HX7.out.trans HX10.out)); have HLA := Lib.hid (HL7.out.ext HX10.out); have HTA := Lib.hid HT10.out
              have HXA := Lib.hid (HXW.out.trans (HX7.out.trans HX10.out))
              have HB4 : Hid (Nat.lt bb w4.heap.size) := Lib.hid (HBB4.out (by omega) _ rfl)
              clear g0 g1 gl q0 q1 q2 q3 ql
              go_region_held3 (fun X => X.cell? ⟨bb, bo + k, none⟩ = some (.int .i64 (e0 : Int)) ∧ bb < X.heap.size) (first | exact ⟨c9, cl9⟩ | exact ⟨c0, cbl7⟩ | go_keep) (first | (refine step_appendI2 rfl (.tmp 207) (.tmp 208) rfl w4.heap.size _ (notesR g.items 0 b0) rfl (HOA.out.ext (by repeat (first | exact Ext.refl _ | assumption | refine Ext.alloc ?_ _ | refine Ext.drew ?_ | refine Ext.drewN ?_ _ | (refine Ext.setCell ?_ (by simp <;> omega) _) | refine Ext.trans ?_ (by assumption)))) lA nl.length lc nl rfl (HLA.out.ext (by repeat (first | exact Ext.refl _ | assumption | refine Ext.alloc ?_ _ | refine Ext.drew ?_ | refine Ext.drewN ?_ _ | (refine Ext.setCell ?_ (by simp <;> omega) _) | refine Ext.trans ?_ (by assumption)))) (by have := HNL.out; have := HNL2.out; omega) (by have := HXA.out.size; simp; omega) ?_; intro v' w' ho hg; have HO9 := Lib.hid ho; have HT9 := Lib.hid (HTA.out.push HOA.out HW41.out HBB4.out (by repeat (first | exact Ext.refl _ | assumption | refine Ext.alloc ?_ _ | refine Ext.drew ?_ | refine Ext.drewN ?_ _ | (refine Ext.setCell ?_ (by simp <;> omega) _) | refine Ext.trans ?_ (by assumption))) hg); have HX9 := Lib.hid (Ext.grown (HXA.out.trans (by repeat (first | exact Ext.refl _ | assumption | refine Ext.alloc ?_ _ | refine Ext.drew ?_ | refine Ext.drewN ?_ _ | (refine Ext.setCell ?_ (by simp <;> omega) _) | refine Ext.trans ?_ (by assumption)))) hg fun k9 hk9 => HOA.out.base_le k9 hk9); have c9 := grown_cell hg (show bb < _ from by simp; exact cbl7) (HOA.out.base_ne HB4.out) c0; have cl9 := Nat.lt_of_lt_of_le HB4.out HX9.out.size; clear ho hg))
              go_wp2_with fail
              go_roundw
              case rel => exact ⟨k + 1, by omega, by go_num, by rw [HSX.out], by rw [HSS.out], Lib.hid (by rw [HSX.out, HNA2.out]; exact HO9.out), HT9, HX9⟩
              case measure => simp [intOf]; omega
end Go.Proofs.YtpkmapngdkkglaaDoor
